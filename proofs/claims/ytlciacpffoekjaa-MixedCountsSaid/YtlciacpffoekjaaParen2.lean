/- The contracts of package paren: New, Excess, Size, Built, over; nil. -/
import Derived.Test.YtlciacpffoekjaaParen
namespace Go.Proofs.Ytlciacpffoekjaa
open Go.RowKit

set_option maxRecDepth 100000 in
set_option maxHeartbeats 1000000 in
theorem parNew_good (b2 : Nat) (v2 : Value) (l2 : List Bool) (w : World) (h2 : VecAt w b2 v2 l2) (hl : l2.length ≤ 100000000) (hB : Bal l2) :
    Calls Try.prog 36 #[.pointer (some ⟨b2, 0, none⟩)] w fun e w' => ∃ b, e = .returned (.tuple #[.pointer (some ⟨b, 0, none⟩), .int .i64 0]) ∧ ParAt w' b l2 false 0 (fun k => w.heap.size ≤ k ∧ k < w'.heap.size) ∧ Keeps (fun _ => False) w w' := by
  have hb := balanced_any b2 v2 l2 w h2 hl
  have hN := rankNew_any b2 v2 l2 w h2 hl
  have hnot : ∀ (x : Bool) (w : World), (Op.unary .not (.bool x)).run Try.prog w = .ok (.bool (!x)) w := fun _ _ => rfl
  have HB := Lib.hid hB
  clear hB h2
  go_enter Try.func36, Try.ntmps36
  go_wp2_with fail
  refine hb.mono ?_
  rintro e w0 ⟨⟨t, rfl, ht⟩, rfl⟩
  obtain rfl : t = true := ht.2 HB.out
  clear ht hb
  go_wp2_with fail
  refine hN.mono ?_
  rintro e w1 ⟨bi, rfl, hI, hk⟩
  have HI := Lib.hid (And.intro hI hk)
  clear hI hk hN
  go_wp2
  go_ret2
  obtain ⟨hI, hk⟩ := HI.out
  have k2 := (Keeps.refl (fun _ => False) w1).alloc (.cells (parCells bi false 0 (.slice none 0 0) 0) 117)
  have hs := hk.size
  refine ⟨w1.heap.size, rfl, ⟨⟨bi, .slice none 0 0, _, false, 0, heap_alloc_new w1 _, hI.keeps k2 (fun _ _ h => h), by omega, ?_, ?_, ?_, ?_, rfl⟩, fun k hk => hk.2⟩, hk.alloc _⟩
  · rintro x hx
    simp; omega
  · simp; omega
  · omega
  · intro k hk; simp [Value.ownBlock] at hk

set_option maxHeartbeats 400000 in
theorem parNew_bad (b2 : Nat) (v2 : Value) (l2 : List Bool) (w : World) (h2 : VecAt w b2 v2 l2) (hl : l2.length ≤ 100000000) (hB : ¬ Bal l2) :
    Calls Try.prog 36 #[.pointer (some ⟨b2, 0, none⟩)] w fun e w' => e = .returned (.tuple #[.pointer none, .int .i64 9]) ∧ w = w' := by
  have hb := balanced_any b2 v2 l2 w h2 hl
  have hnot : ∀ (x : Bool) (w : World), (Op.unary .not (.bool x)).run Try.prog w = .ok (.bool (!x)) w := fun _ _ => rfl
  have HB := Lib.hid hB
  clear hB h2
  go_enter Try.func36, Try.ntmps36
  go_wp2_with fail
  refine hb.mono ?_
  rintro e w0 ⟨⟨t, rfl, ht⟩, rfl⟩
  obtain rfl : t = false := by cases t with
    | false => rfl
    | true => exact absurd (ht.1 rfl) HB.out
  clear ht hb
  go_wp2
  go_ret2
  exact ⟨rfl, rfl⟩

/-! A question's state, told against a world that stays. -/

theorem ParAt.mono {w : World} {b : Nat} {l : List Bool} {done : Bool} {q : Nat} {F G : Nat → Prop} (h : ParAt w b l done q F) (hG : ∀ x, F x → G x) (hold : ∀ x, G x → x < w.heap.size) : ParAt w b l done q G := by
  obtain ⟨⟨bi, tv, FI, dI, asked, hb, hI, hq, hFI, Fb, nb, htv, hT⟩, _⟩ := h
  exact ⟨⟨bi, tv, FI, dI, asked, hb, hI, hq, fun x hx => hG x (hFI x hx), hG b Fb, nb, fun k hk => ⟨hG k (htv k hk).1, (htv k hk).2⟩, hT⟩, hold⟩

theorem ParAt.more {w : World} {b : Nat} {l : List Bool} {done : Bool} {q q' : Nat} {F : Nat → Prop} (h : ParAt w b l done q F) (hq : q ≤ q') : ParAt w b l done q' F := by
  obtain ⟨⟨bi, tv, FI, dI, asked, hb, hI, hq2, r⟩, hold⟩ := h
  exact ⟨⟨bi, tv, FI, dI, asked, hb, hI, by omega, r⟩, hold⟩

theorem ParAt.keeps {w w' : World} {b : Nat} {l : List Bool} {done : Bool} {q : Nat} {F G : Nat → Prop} (h : ParAt w b l done q F) (k : Keeps G w w') (hd : ∀ x, F x → ¬ G x) : ParAt w' b l done q F := by
  obtain ⟨⟨bi, tv, FI, dI, asked, hb, hI, hq, hFI, Fb, nb, htv, hT⟩, hold⟩ := h
  exact ⟨⟨bi, tv, FI, dI, asked, k.at hb (hd b Fb), hI.keeps k (fun x hx => hd x (hFI x hx)), hq, hFI, Fb, nb, htv, hT.keeps k (fun x hx => hd x (htv x hx).1)⟩, fun x hx => Nat.lt_of_lt_of_le (hold x hx) k.size⟩

theorem ParAt.after {w : World} {b : Nat} {l : List Bool} {done : Bool} {q : Nat} {F : Nat → Prop} (h : ParAt w b l done q F) : ParAfter w b l done q F w :=
  ⟨h.mono (fun _ hx => .inl hx) (grow_old h.old (Nat.le_refl _)), Keeps.refl _ _⟩

theorem ParAfter.more {wh w : World} {b : Nat} {l : List Bool} {done : Bool} {q q' : Nat} {F : Nat → Prop} (h : ParAfter wh b l done q F w) (hq : q ≤ q') : ParAfter wh b l done q' F w := ⟨h.1.more hq, h.2⟩

theorem ParAfter.trans {wh w1 w2 : World} {b : Nat} {l : List Bool} {done done' : Bool} {q q' : Nat} {F : Nat → Prop} (hF : ∀ x, F x → x < wh.heap.size) (h : ParAfter wh b l done q F w1) (k : ParAfter w1 b l done' q' (grow F wh w1) w2) : ParAfter wh b l done' q' F w2 := by
  obtain ⟨h1, h2⟩ := h
  obtain ⟨k1, k2⟩ := k
  refine ⟨k1.mono (grow_trans h2.size k2.size) (grow_old hF (Nat.le_trans h2.size k2.size)), h2.trans k2 ?_⟩
  rintro x hx (h | h)
  · exact h
  · omega

theorem ParAfter.keeps {wh w1 w2 : World} {b : Nat} {l : List Bool} {done : Bool} {q : Nat} {F G : Nat → Prop} (h : ParAfter wh b l done q F w1) (k : Keeps G w1 w2) (hG : ∀ x, x < w1.heap.size → ¬ G x) : ParAfter wh b l done q F w2 := by
  obtain ⟨h1, h2⟩ := h
  refine ⟨(h1.keeps k (fun x hx => hG x (h1.old x hx))).mono ?_ ?_, h2.trans k (fun x hx hg => absurd hg (hG x (Nat.lt_of_lt_of_le hx h2.size)))⟩
  · rintro x (h | h)
    · exact .inl h
    · exact .inr ⟨h.1, Nat.lt_of_lt_of_le h.2 k.size⟩
  · rintro x (h | h)
    · exact Nat.lt_of_lt_of_le (h1.old x (.inl h)) k.size
    · exact h.2

theorem ParAfter.idx {wh w : World} {b : Nat} {l : List Bool} {done : Bool} {q : Nat} {F : Nat → Prop} (h : ParAfter wh b l done q F w) : PIdx w b l := h.1.idx

theorem parExcess_any {wh wr : World} {b : Nat} {l : List Bool} {done : Bool} {q : Nat} {F : Nat → Prop} (hF : ∀ x, F x → x < wh.heap.size) (h : ParAfter wh b l done q F wr) (n : Nat) (hq : q ≤ 1000000000000) (hn : n ≤ l.length) :
    Calls Try.prog 88 #[.pointer (some ⟨b, 0, none⟩), .int .i64 n] wr fun e w' => e = .returned (.int .i64 (ex l n)) ∧ ParAfter wh b l done (q + 1) F w' :=
  (parExcess0_any b l done q _ n wr h.1 hq hn).mono fun _ _ ⟨he, hw⟩ => ⟨he, h.trans hF hw⟩

set_option maxHeartbeats 400000 in
theorem Excess_in {wh wr : World} {b : Nat} {l : List Bool} {done : Bool} {q : Nat} {F : Nat → Prop} (hF : ∀ x, F x → x < wh.heap.size) (h : ParAfter wh b l done q F wr) (n : Nat) (hq : q ≤ 1000000000000) (hn : n ≤ l.length) :
    Calls Try.prog 45 #[.pointer (some ⟨b, 0, none⟩), .int .i64 n] wr fun e w' => e = .returned (.tuple #[.int .i64 (ex l n), .int .i64 0]) ∧ ParAfter wh b l done (q + 1) F w' := by
  have hL := parLen_any b l wr h.idx
  have hE := parExcess_any hF h n hq hn
  have hle := h.idx.le
  clear h hF
  go_enter Try.func45, Try.ntmps45
  go_wp2_with (first | (go_at_call 39; refine hL.mono ?_; rintro e w' ⟨rfl, rfl⟩) | (go_at_call 88; refine hE.mono ?_; rintro e w' ⟨rfl, hA⟩))
  go_ret2
  exact ⟨rfl, hA⟩

set_option maxHeartbeats 400000 in
theorem Excess_out (b : Nat) (l : List Bool) (i : Int) (w : World) (h : PIdx w b l) (hi : ¬ (0 ≤ i ∧ i ≤ l.length)) :
    Calls Try.prog 45 #[.pointer (some ⟨b, 0, none⟩), .int .i64 i] w fun e w' => e = .returned (.tuple #[.int .i64 0, .int .i64 1]) ∧ w = w' := by
  have hL := parLen_any b l w h
  have hle := h.le
  clear h
  have hc : i < 0 ∨ (0 ≤ i ∧ (l.length : Int) < i) := by omega
  clear hi
  rcases hc with h1 | ⟨h1, h2⟩
  all_goals
    go_enter Try.func45, Try.ntmps45
    go_wp2_with (go_at_call 39; refine hL.mono ?_; rintro e w' ⟨rfl, rfl⟩)
    go_ret2
    exact ⟨rfl, rfl⟩

theorem Excess_nil (i : Int) (w : World) :
    Calls Try.prog 45 #[.pointer none, .int .i64 i] w fun e w' => e = .returned (.tuple #[.int .i64 0, .int .i64 2]) ∧ w = w' := by
  go_enter Try.func45, Try.ntmps45
  go_wp2
  go_ret2
  exact ⟨rfl, rfl⟩

theorem parSize_any (b : Nat) (l : List Bool) (h : Nat) (w : World) (hP : PIdx w b l) (hh : IsH l h) :
    Calls Try.prog 49 #[.pointer (some ⟨b, 0, none⟩)] w fun e w' => e = .returned (.int .i64 (64 * (2 * ((2 ^ h : Nat) : Int) - 1))) ∧ w = w' := by
  have hL := parLeaves_any b l h w hP hh
  have hb := hh.bound hP.le
  clear hP hh
  generalize 2 ^ h = x at *
  go_enter Try.func49, Try.ntmps49
  go_wp2_with (go_at_call 91; refine hL.mono ?_; rintro e w' ⟨rfl, rfl⟩)
  go_ret
  exact ⟨rfl, rfl⟩

theorem parSize_nil (w : World) :
    Calls Try.prog 49 #[.pointer none] w fun e w' => e = .returned (.int .i64 0) ∧ w = w' := by
  go_enter Try.func49, Try.ntmps49
  go_wp2
  go_ret
  exact ⟨rfl, rfl⟩

theorem parBuilt_any (b : Nat) (l : List Bool) (done : Bool) (q : Nat) (F : Nat → Prop) (w : World) (h : ParAt w b l done q F) :
    Calls Try.prog 48 #[.pointer (some ⟨b, 0, none⟩)] w fun e w' => e = .returned (.int .i64 (if done then 1 else 0)) ∧ w = w' := by
  obtain ⟨⟨bi, tv, FI, dI, asked, hb, _⟩, _⟩ := h
  have hL := load64 ⟨b, 5, none⟩ (if done then 1 else 0) w (World.cell_of_heap hb 5)
  have hx : (0 : Int) ≤ (if done then 1 else 0) ∧ (if done then 1 else 0 : Int) ≤ 1 := by cases done <;> simp
  clear hb
  generalize (if done then 1 else 0 : Int) = x at *
  go_enter Try.func48, Try.ntmps48
  go_wp2_with (go_at_call 80; refine hL.mono ?_; rintro e w' ⟨rfl, rfl⟩)
  go_ret
  exact ⟨rfl, rfl⟩

theorem parBuilt_nil (w : World) :
    Calls Try.prog 48 #[.pointer none] w fun e w' => e = .returned (.int .i64 0) ∧ w = w' := by
  go_enter Try.func48, Try.ntmps48
  go_wp2
  go_ret
  exact ⟨rfl, rfl⟩

theorem place_nil (i : Int) (w : World) :
    Calls Try.prog 86 #[.pointer none, .int .i64 i] w fun e w' => e = .returned (.int .i64 2) ∧ w = w' := by
  go_enter Try.func86, Try.ntmps86
  go_wp2
  go_ret
  exact ⟨rfl, rfl⟩

set_option maxHeartbeats 400000 in
theorem place_out (b : Nat) (l : List Bool) (i : Int) (w : World) (h : PIdx w b l) (hi : ¬ (0 ≤ i ∧ i < l.length)) :
    Calls Try.prog 86 #[.pointer (some ⟨b, 0, none⟩), .int .i64 i] w fun e w' => e = .returned (.int .i64 1) ∧ w = w' := by
  have hL := parLen_any b l w h
  have hle := h.le
  clear h
  have hc : i < 0 ∨ (0 ≤ i ∧ (l.length : Int) ≤ i) := by omega
  clear hi
  rcases hc with h1 | ⟨h1, h2⟩
  all_goals
    go_enter Try.func86, Try.ntmps86
    go_wp2_with (go_at_call 39; refine hL.mono ?_; rintro e w' ⟨rfl, rfl⟩)
    go_ret
    exact ⟨rfl, rfl⟩

end Go.Proofs.Ytlciacpffoekjaa
