/- The contracts of package paren: place, Mate, Round. -/
import Derived.Test.YtlciacpffoekjaaMake
import Derived.Test.YtlciacpffoekjaaParMate
namespace Go.Proofs.Ytlciacpffoekjaa
open Go.RowKit

theorem parDo' {wh wr : World} {b : Nat} {l : List Bool} {done : Bool} {q : Nat} {F : Nat → Prop} (hF : ∀ x, F x → x < wh.heap.size) (h : ParAfter wh b l done q F wr) :
    Calls Try.prog 75 #[.pointer (some ⟨b, 1, none⟩), .func (.func 90) #[.pointer (some ⟨b, 0, none⟩)] #[]] wr fun e w' => e = .returned (.tuple #[]) ∧ ParAfter wh b l true q F w' :=
  (parDo_any b l done q _ wr h.1).mono fun _ _ ⟨he, hw⟩ => ⟨he, h.trans hF hw⟩

set_option maxHeartbeats 400000 in
theorem place_in {wh wr : World} {b : Nat} {l : List Bool} {done : Bool} {q : Nat} {F : Nat → Prop} (hF : ∀ x, F x → x < wh.heap.size) (h : ParAfter wh b l done q F wr) (i : Nat) (hi : i < l.length) :
    Calls Try.prog 86 #[.pointer (some ⟨b, 0, none⟩), .int .i64 i] wr fun e w' => e = .returned (.int .i64 0) ∧ ParAfter wh b l true q F w' := by
  have hmf : ∀ (fn : Fn) (first cap : Array Value) (w : World), (Instr.makeFunc fn first cap).run Try.prog w = .ok (.func fn first cap) w := fun _ _ _ _ => rfl
  have hL := parLen_any b l wr h.idx
  have hD := parDo' hF h
  have hle := h.idx.le
  clear h hF
  go_enter Try.func86, Try.ntmps86
  go_wp2_with (first | (go_at_call 39; refine hL.mono ?_; rintro e w' ⟨rfl, rfl⟩) | (go_at_call 75; refine hD.mono ?_; rintro e w' ⟨rfl, hA⟩))
  go_ret
  exact ⟨rfl, hA⟩

theorem atZ_in (l : List Bool) (i : Nat) (h : i < l.length) : atZ l i = ((l.getD i false).toNat : Int) := by
  unfold atZ
  rw [if_pos (by omega), Int.toNat_natCast]

theorem open_bool {l : List Bool} {i : Nat} (h : i < l.length) : (atZ l i == 1) = l.getD i false := by
  rw [atZ_in l i h]; cases l.getD i false <;> rfl

set_option maxRecDepth 100000 in
set_option maxHeartbeats 1000000 in
theorem mate_any {wh wr : World} {b : Nat} {l : List Bool} {q : Nat} {F : Nat → Prop} (hF : ∀ x, F x → x < wh.heap.size) (h : ParAfter wh b l true q F wr) (i m : Nat) (hq : q < 100000000000) (hi : i < l.length) (hm : MateOf l i m) :
    Calls Try.prog 87 #[.pointer (some ⟨b, 0, none⟩), .int .i64 i] wr fun e w' => e = .returned (.int .i64 m) ∧ ParAfter wh b l true (q + 2) F w' := by
  have hle := h.idx.le
  have hO := parOpen_any b l i wr h.idx
  rw [open_bool hi] at hO
  have hml := hm.lt
  rcases hm with ⟨h0, hm⟩ | ⟨h0, hm⟩
  · rw [h0] at hO
    have hA := ahead_any hF h (i + 1) (m + 1) (by omega) hm.ahead
    clear h0 hm h
    go_enter Try.func87, Try.ntmps87
    go_wp2_with (first | (go_at_call 38; refine hO.mono ?_; rintro e w' ⟨rfl, rfl⟩) | (go_at_call 114; refine hA.mono ?_; rintro e w' ⟨rfl, hP⟩))
    go_ret
    exact ⟨ret_int (by omega), hP⟩
  · rw [h0] at hO
    have hE := parExcess_any hF h (i + 1) (by omega) (by omega)
    have hx := ex_abs l (i + 1) hle
    have hB := fun w (hA : ParAfter wh b l true (q + 1) F w) => behind_any hF hA i m (ex l (i + 1)) (by omega) hm.behind
    clear h0 hm h
    generalize ex l (i + 1) = x at *
    go_enter Try.func87, Try.ntmps87
    go_wp2_with (first | (go_at_call 38; refine hO.mono ?_; rintro e w' ⟨rfl, rfl⟩) | (go_at_call 88; refine hE.mono ?_; rintro e w' ⟨rfl, hP⟩) | (go_at_call 89; refine (hB _ hP).mono ?_; rintro e w'' ⟨rfl, hP2⟩))
    go_ret
    exact ⟨rfl, hP2⟩

set_option maxHeartbeats 400000 in
theorem Mate_in {wh wr : World} {b : Nat} {l : List Bool} {done : Bool} {q : Nat} {F : Nat → Prop} (hF : ∀ x, F x → x < wh.heap.size) (h : ParAfter wh b l done q F wr) (i m : Nat) (hq : q < 100000000000) (hi : i < l.length) (hm : MateOf l i m) :
    Calls Try.prog 43 #[.pointer (some ⟨b, 0, none⟩), .int .i64 i] wr fun e w' => e = .returned (.tuple #[.int .i64 m, .int .i64 0]) ∧ ParAfter wh b l true (q + 2) F w' := by
  have hP := place_in hF h i hi
  have hM := fun w (hA : ParAfter wh b l true q F w) => mate_any hF hA i m hq hi hm
  clear h hm hF
  go_enter Try.func43, Try.ntmps43
  go_wp2_with (first | (go_at_call 86; refine hP.mono ?_; rintro e w' ⟨rfl, hA⟩) | (go_at_call 87; refine (hM _ hA).mono ?_; rintro e w' ⟨rfl, hA2⟩))
  go_ret2
  exact ⟨rfl, hA2⟩

theorem Mate_out (b : Nat) (l : List Bool) (i : Int) (w : World) (h : PIdx w b l) (hi : ¬ (0 ≤ i ∧ i < l.length)) :
    Calls Try.prog 43 #[.pointer (some ⟨b, 0, none⟩), .int .i64 i] w fun e w' => e = .returned (.tuple #[.int .i64 0, .int .i64 1]) ∧ w = w' := by
  have hP := place_out b l i w h hi
  clear h hi
  go_enter Try.func43, Try.ntmps43
  go_wp2_with (go_at_call 86; refine hP.mono ?_; rintro e w' ⟨rfl, rfl⟩)
  go_ret2
  exact ⟨rfl, rfl⟩

theorem Mate_nil (i : Int) (w : World) :
    Calls Try.prog 43 #[.pointer none, .int .i64 i] w fun e w' => e = .returned (.tuple #[.int .i64 0, .int .i64 2]) ∧ w = w' := by
  have hP := place_nil i w
  go_enter Try.func43, Try.ntmps43
  go_wp2_with (go_at_call 86; refine hP.mono ?_; rintro e w' ⟨rfl, rfl⟩)
  go_ret2
  exact ⟨rfl, rfl⟩

set_option maxRecDepth 100000 in
set_option maxHeartbeats 1000000 in
theorem Round_in {wh wr : World} {b : Nat} {l : List Bool} {done : Bool} {q : Nat} {F : Nat → Prop} (hF : ∀ x, F x → x < wh.heap.size) (h : ParAfter wh b l done q F wr) (i : Nat) (r : Int) (hq : q < 10000000000) (hi : i < l.length) (hr : RoundOf l i r) :
    Calls Try.prog 44 #[.pointer (some ⟨b, 0, none⟩), .int .i64 i] wr fun e w' => e = .returned (.tuple #[.int .i64 r, .int .i64 0]) ∧ ParAfter wh b l true (q + 4) F w' := by
  have hle := h.idx.le
  have hP := place_in hF h i hi
  have hO := fun w (hA : ParAfter wh b l true q F w) => parOpen_any b l i w hA.idx
  rw [open_bool hi] at hO
  have hnot : ∀ (x : Bool) (w : World), (Op.unary .not (.bool x)).run Try.prog w = .ok (.bool (!x)) w := fun _ _ => rfl
  clear h
  rcases hr with ⟨h0, hr⟩ | ⟨h0, o, ho, hr⟩
  · rw [h0] at hO
    have hE := fun w (hA : ParAfter wh b l true q F w) => parExcess_any hF hA i (by omega) (by omega)
    have hx := ex_abs l i hle
    rcases hr with ⟨hx0, rfl⟩ | ⟨hx0, B, rfl, hB⟩
    · rw [hx0] at hE
      clear hx0 h0 hx
      go_enter Try.func44, Try.ntmps44
      go_wp2_with (first | (go_at_call 86; refine hP.mono ?_; rintro e w' ⟨rfl, hA⟩) | (go_at_call 38; refine (hO _ hA).mono ?_; rintro e w' ⟨rfl, rfl⟩) | (go_at_call 88; refine (hE _ hA).mono ?_; rintro e w' ⟨rfl, hA2⟩))
      go_ret2
      exact ⟨rfl, hA2.more (by omega)⟩
    · have hBe := fun w (hA : ParAfter wh b l true (q + 1) F w) => behind_any hF hA i B (ex l i - 1) (by omega) hB
      have t0 : (ex l i == 0) = false := by rw [beq_eq_false_iff_ne]; omega
      clear h0 hB
      generalize ex l i = x at *
      go_enter Try.func44, Try.ntmps44
      go_wp2_with (first | (go_at_call 86; refine hP.mono ?_; rintro e w' ⟨rfl, hA⟩) | (go_at_call 38; refine (hO _ hA).mono ?_; rintro e w' ⟨rfl, rfl⟩) | (go_at_call 88; refine (hE _ hA).mono ?_; rintro e w' ⟨rfl, hA2⟩) | (go_at_call 89; refine (hBe _ hA2).mono ?_; rintro e w' ⟨rfl, hA3⟩))
      go_ret2
      exact ⟨rfl, hA3.more (by omega)⟩
  · rw [h0] at hO
    have hM := fun w (hA : ParAfter wh b l true q F w) => mate_any hF hA i o (by omega) hi ho.mate_r
    have hol := ho.mate_r.lt
    have hE := fun w (hA : ParAfter wh b l true (q + 2) F w) => parExcess_any hF hA o (by omega) (by omega)
    have hx := ex_abs l o hle
    rcases hr with ⟨hx0, rfl⟩ | ⟨hx0, B, rfl, hB⟩
    · rw [hx0] at hE
      clear hx0 h0 hx ho
      go_enter Try.func44, Try.ntmps44
      go_wp2_with (first | (go_at_call 86; refine hP.mono ?_; rintro e w' ⟨rfl, hA⟩) | (go_at_call 38; refine (hO _ hA).mono ?_; rintro e w' ⟨rfl, rfl⟩) | (go_at_call 87; refine (hM _ hA).mono ?_; rintro e w' ⟨rfl, hA1⟩) | (go_at_call 88; refine (hE _ hA1).mono ?_; rintro e w' ⟨rfl, hA2⟩))
      go_ret2
      exact ⟨rfl, hA2.more (by omega)⟩
    · have hBe := fun w (hA : ParAfter wh b l true (q + 3) F w) => behind_any hF hA o B (ex l o - 1) (by omega) hB
      have t0 : (ex l o == 0) = false := by rw [beq_eq_false_iff_ne]; omega
      clear h0 hB ho
      generalize ex l o = x at *
      go_enter Try.func44, Try.ntmps44
      go_wp2_with (first | (go_at_call 86; refine hP.mono ?_; rintro e w' ⟨rfl, hA⟩) | (go_at_call 38; refine (hO _ hA).mono ?_; rintro e w' ⟨rfl, rfl⟩) | (go_at_call 87; refine (hM _ hA).mono ?_; rintro e w' ⟨rfl, hA1⟩) | (go_at_call 88; refine (hE _ hA1).mono ?_; rintro e w' ⟨rfl, hA2⟩) | (go_at_call 89; refine (hBe _ hA2).mono ?_; rintro e w' ⟨rfl, hA3⟩))
      go_ret2
      exact ⟨rfl, hA3.more (by omega)⟩

theorem Round_out (b : Nat) (l : List Bool) (i : Int) (w : World) (h : PIdx w b l) (hi : ¬ (0 ≤ i ∧ i < l.length)) :
    Calls Try.prog 44 #[.pointer (some ⟨b, 0, none⟩), .int .i64 i] w fun e w' => e = .returned (.tuple #[.int .i64 0, .int .i64 1]) ∧ w = w' := by
  have hP := place_out b l i w h hi
  clear h hi
  go_enter Try.func44, Try.ntmps44
  go_wp2_with (go_at_call 86; refine hP.mono ?_; rintro e w' ⟨rfl, rfl⟩)
  go_ret2
  exact ⟨rfl, rfl⟩

theorem Round_nil (i : Int) (w : World) :
    Calls Try.prog 44 #[.pointer none, .int .i64 i] w fun e w' => e = .returned (.tuple #[.int .i64 0, .int .i64 2]) ∧ w = w' := by
  have hP := place_nil i w
  go_enter Try.func44, Try.ntmps44
  go_wp2_with (go_at_call 86; refine hP.mono ?_; rintro e w' ⟨rfl, rfl⟩)
  go_ret2
  exact ⟨rfl, rfl⟩

theorem Low_nil (i j : Int) (w : World) :
    Calls Try.prog 46 #[.pointer none, .int .i64 i, .int .i64 j] w fun e w' => e = .returned (.tuple #[.int .i64 0, .int .i64 2]) ∧ w = w' := by
  go_enter Try.func46, Try.ntmps46
  go_wp2
  go_ret2
  exact ⟨rfl, rfl⟩

set_option maxHeartbeats 400000 in
theorem Low_out (b : Nat) (l : List Bool) (i j : Int) (w : World) (h : PIdx w b l) (hi : ¬ (0 ≤ i ∧ i ≤ j ∧ j ≤ l.length)) :
    Calls Try.prog 46 #[.pointer (some ⟨b, 0, none⟩), .int .i64 i, .int .i64 j] w fun e w' => e = .returned (.tuple #[.int .i64 0, .int .i64 1]) ∧ w = w' := by
  have hL := parLen_any b l w h
  have hle := h.le
  clear h
  have hc : i < 0 ∨ (0 ≤ i ∧ j < i) ∨ (0 ≤ i ∧ i ≤ j ∧ (l.length : Int) < j) := by omega
  clear hi
  rcases hc with h1 | ⟨h1, h2⟩ | ⟨h1, h2, h3⟩
  all_goals
    go_enter Try.func46, Try.ntmps46
    go_wp2_with (go_at_call 39; refine hL.mono ?_; rintro e w' ⟨rfl, rfl⟩)
    go_ret2
    exact ⟨rfl, rfl⟩

end Go.Proofs.Ytlciacpffoekjaa
