/- The contracts of package rank: Rank, and nil indexes. -/
import Derived.Test.YtlciacpffoekjaaRank2
namespace Go.Proofs.Ytlciacpffoekjaa
open Go.RowKit

theorem grow_trans {F : Nat → Prop} {w w1 w2 : World} (h1 : w.heap.size ≤ w1.heap.size) (h2 : w1.heap.size ≤ w2.heap.size) : ∀ x, grow (grow F w w1) w1 w2 x → grow F w w2 x := by
  rintro x ((h | h) | h)
  · exact .inl h
  · exact .inr ⟨h.1, by omega⟩
  · exact .inr ⟨by omega, h.2⟩

theorem grow_old {F : Nat → Prop} {w w' : World} (hF : ∀ x, F x → x < w.heap.size) (hs : w.heap.size ≤ w'.heap.size) : ∀ x, grow F w w' x → x < w'.heap.size := by
  rintro x (h | h)
  · exact Nat.lt_of_lt_of_le (hF x h) hs
  · exact h.2

/-- The first place from which on a rising test says yes. -/
def IsFirst (p : Nat → Bool) (n r : Nat) : Prop := r ≤ n ∧ (∀ i, i < r → p i = false) ∧ (r < n → p r = true)

/-- How many of a bit ahead of a place. -/
def rk (l : List Bool) (bit : Int) (n : Nat) : Int := ofZ bit (cnt (l.take n)) n

/-- An index behind a question. -/
def IdxAfter (w : World) (b : Nat) (l : List Bool) (done : Bool) (asked : Nat) (F : Nat → Prop) (w' : World) : Prop :=
  IdxAt w' b l done asked (grow F w w') ∧ Keeps F w w'

theorem IdxAfter.of_trans {w w1 w2 : World} {b : Nat} {l : List Bool} {done : Bool} {asked : Nat} {F : Nat → Prop} (k1 : Keeps F w w1) (hs : w1.heap.size = w.heap.size) (hF : ∀ x, F x → x < w.heap.size) (h : IdxAt w2 b l done asked (grow F w1 w2)) (k2 : Keeps F w1 w2) : IdxAfter w b l done asked F w2 :=
  ⟨h.mono (fun x hx => by unfold grow at *; rw [hs] at hx; exact hx) (grow_old hF (Nat.le_trans k1.size k2.size)), k1.trans k2 (fun _ _ h => h)⟩

set_option maxRecDepth 100000 in
set_option maxHeartbeats 1000000 in
theorem Rank_in (b : Nat) (l : List Bool) (done : Bool) (asked : Nat) (F : Nat → Prop) (bit : Int) (n : Nat) (w : World) (h : IdxAt w b l done asked F) (ha : asked ≤ 1000000000000) (hb : bit = 0 ∨ bit = 1) (hn : n ≤ l.length) :
    Calls Try.prog 20 #[.pointer (some ⟨b, 0, none⟩), .int .i64 bit, .int .i64 n] w fun e w' => e = .returned (.tuple #[.int .i64 (rk l bit n), .int .i64 0]) ∧ IdxAfter w b l true (asked + 1) F w' := by
  have hle := h.le
  have hold := h.old
  have hAsk := idxAsk_any b l done asked F w h ha
  have hcl := cnt_le (l.take n)
  have hcl2 : (l.take n).length ≤ l.length := List.length_take_le' _ _
  have hcnt : 0 ≤ (cnt (l.take n) : Int) ∧ (cnt (l.take n) : Int) ≤ 100000000 := by omega
  clear h hcl hcl2
  have hof := fun W => of_any bit (cnt (l.take n)) n W (by omega)
  unfold rk
  rcases hb with rfl | rfl
  all_goals
    go_enter Try.func20, Try.ntmps20
    go_wp2_with (first | (go_at_call 72; refine hAsk.mono ?_; rintro e w1 ⟨rfl, hI1, hK1, hS1⟩) | (go_at_call 25; refine (idxLen_any b l done _ F _ hI1).mono ?_; rintro e w' ⟨rfl, rfl⟩) | (go_at_call 74; refine (ones_any b l done _ F _ n hI1 hn).mono ?_; rintro e w2 ⟨rfl, hI2, hK2⟩) | (go_at_call 73; refine (hof _).mono ?_; rintro e w' ⟨rfl, rfl⟩))
    go_ret2
    exact ⟨rfl, IdxAfter.of_trans hK1 hS1 hold hI2 hK2⟩

set_option maxRecDepth 100000 in
set_option maxHeartbeats 1000000 in
theorem Rank_out (b : Nat) (l : List Bool) (done : Bool) (asked : Nat) (F : Nat → Prop) (bit i : Int) (w : World) (h : IdxAt w b l done asked F) (ha : asked ≤ 1000000000000) (hb : ¬ ((bit = 0 ∨ bit = 1) ∧ 0 ≤ i ∧ i ≤ l.length)) :
    Calls Try.prog 20 #[.pointer (some ⟨b, 0, none⟩), .int .i64 bit, .int .i64 i] w fun e w' => e = .returned (.tuple #[.int .i64 0, .int .i64 1]) ∧ IdxAfter w b l done (asked + 1) F w' := by
  have hle := h.le
  have hold := h.old
  have hAsk := idxAsk_any b l done asked F w h ha
  clear h
  have hfin : ∀ w1, IdxAt w1 b l done (asked + 1) F → Keeps F w w1 → IdxAfter w b l done (asked + 1) F w1 := fun w1 h1 h2 =>
    ⟨h1.mono (fun x hx => .inl hx) (grow_old hold h2.size), h2⟩
  have hcase : (¬ bit = 0 ∧ ¬ bit = 1) ∨ ((bit = 0 ∨ bit = 1) ∧ (i < 0 ∨ (0 ≤ i ∧ (l.length : Int) < i))) := by omega
  clear hb
  rcases hcase with ⟨h0, h1⟩ | ⟨rfl | rfl, hi | ⟨hi, hi2⟩⟩
  · have t0 : (bit != 0) = true := by simp [h0]
    have t1 : (bit != 1) = true := by simp [h1]
    clear h0 h1
    go_enter Try.func20, Try.ntmps20
    go_wp2_with (first | (go_at_call 72; refine hAsk.mono ?_; rintro e w1 ⟨rfl, hI1, hK1, hS1⟩) | (go_at_call 25; refine (idxLen_any b l done _ F _ hI1).mono ?_; rintro e w' ⟨rfl, rfl⟩))
    go_ret2
    exact ⟨rfl, hfin _ hI1 hK1⟩
  all_goals
    go_enter Try.func20, Try.ntmps20
    go_wp2_with (first | (go_at_call 72; refine hAsk.mono ?_; rintro e w1 ⟨rfl, hI1, hK1, hS1⟩) | (go_at_call 25; refine (idxLen_any b l done _ F _ hI1).mono ?_; rintro e w' ⟨rfl, rfl⟩))
    go_ret2
    exact ⟨rfl, hfin _ hI1 hK1⟩

theorem Rank_nil (bit i : Int) (w : World) :
    Calls Try.prog 20 #[.pointer none, .int .i64 bit, .int .i64 i] w fun e w' => e = .returned (.tuple #[.int .i64 0, .int .i64 2]) ∧ w = w' := by
  go_enter Try.func20, Try.ntmps20
  go_wp2
  go_ret2
  exact ⟨rfl, rfl⟩

end Go.Proofs.Ytlciacpffoekjaa
