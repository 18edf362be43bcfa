/- What LookSame asks: a Look and a map, in turns. -/
import Derived.Test.YtipelclohcdkcaaGreatPsOrder
import Derived.Test.YtipelclohcdkcaaGreatPsLook18
import Derived.Test.YtipelclohcdkcaaGreatPsDeg
import Derived.Test.YtipelclohcdkcaaGreatPsSizeFew
namespace Go.Proofs.YtipelclohcdkcaaGreat
open Go.RowKit

set_option maxRecDepth 100000 in
set_option maxHeartbeats 1000000 in
theorem lookSize_few {w : World} {bl b bo : Nat} {bi bp : Nat → Nat} {ks : List Nat} {q : Nat} {F : Nat → Prop} {n : Nat} (h : LookS w bl b bo bi bp ks q F n) (hl : ks.length ≤ 4096) :
    Calls Tryz.prog 56 #[.pointer (some ⟨bl, 0, none⟩)] w fun e w' => ∃ z : Nat, e = .returned (.int .i64 z) ∧ z ≤ 4096 ∧ Keeps (fun _ => False) w w' := by
  have c0 := h.own.c0
  have hS := mixSize_few h.mix hl
  clear h
  go_enter Tryz.func56, Tryz.ntmps56
  go_wp2_with fail
  refine hS.mono ?_
  rintro e w1 ⟨z, rfl, hz, hk⟩
  have HF := Lib.hid (And.intro hz hk)
  clear hS hz hk
  go_wp2
  go_ret
  exact ⟨z, rfl, HF.out⟩

/-- A Look and a map beside it, and what is read of both. -/
structure SamF (w : World) (ks : List Nat) (bl b bo : Nat) (bi bp : Nat → Nat) (bm : Nat) (rt ln : Int) (gN : Nat) (vO : Value) (ol : List Nat) (bw : Nat) (vW : Value) (q n : Nat) (F R : Nat → Prop) (wr : World) : Prop where
  lk : LookS wr bl b bo bi bp ks q F n
  mp : MapAt wr bm (decL ks) rt ln R
  fr : ∀ x, F x → ¬ R x ∧ x ≠ bm ∧ w.heap.size ≤ x
  rr : ∀ x, R x → x ≠ bl ∧ w.heap.size ≤ x
  ne : bl ≠ bm ∧ w.heap.size ≤ bl ∧ w.heap.size ≤ bm
  ap : ∀ k, (k = gN ∨ vO.ownBlock = some k ∨ k = bw ∨ vW.ownBlock = some k) → ¬ F k ∧ ¬ R k ∧ k ≠ bl ∧ k ≠ bm ∧ k < wr.heap.size
  nm : Sl .i64 wr (.slice (some ⟨gN, 0, none⟩) ks.length ks.length) (nats (nmL ks))
  od : Sl .i64 wr vO (nats ol)
  wd : WordAt wr bw vW ks
  kee : Keeps (fun _ => False) w wr

section
variable {w : World} {ks : List Nat} {bl b bo : Nat} {bi bp : Nat → Nat} {bm : Nat} {rt ln : Int} {gN : Nat} {vO : Value} {ol : List Nat} {bw : Nat} {vW : Value} {q n : Nat} {F R : Nat → Prop} {wr : World}

theorem own_gN {gN : Nat} {a c : Nat} {k : Nat} (h : (Value.slice (some ⟨gN, 0, none⟩) a c).ownBlock = some k) : k = gN := by
  simp only [Value.ownBlock, Option.some.injEq] at h; exact h.symm

theorem SamF.look (h : SamF w ks bl b bo bi bp bm rt ln gN vO ol bw vW q n F R wr) {q' n' : Nat} {w' : World} (k : LookQ wr bl b bo bi bp ks q' F n' w') : SamF w ks bl b bo bi bp bm rt ln gN vO ol bw vW q' n' (grow F wr w') R w' := by
  have hsz := k.2.size
  have hs0 := h.kee.size
  have hml := h.mp.lt
  have hg : ∀ x, (x = gN ∨ vO.ownBlock = some x ∨ x = bw ∨ vW.ownBlock = some x) → ¬ (F x ∨ x = bl) := fun x hx hh => by
    obtain ⟨a1, _, a3, _⟩ := h.ap x hx
    rcases hh with hh | hh
    · exact a1 hh
    · exact a3 hh
  refine ⟨k.1, h.mp.keeps k.2 (fun e => ?_) (fun x hx e => ?_), fun x hx => ?_, h.rr, h.ne, fun x hx => ?_, h.nm.keeps k.2 (fun x hx => hg x (.inl (own_gN hx))), h.od.keeps k.2 (fun x hx => hg x (.inr (.inl hx))), h.wd.keeps k.2 (hg bw (.inr (.inr (.inl rfl)))) (fun x hx => hg x (.inr (.inr (.inr hx)))), h.kee.trans k.2 (fun x hx e => ?_)⟩
  · rcases e with e | e
    · exact (h.fr bm e).2.1 rfl
    · exact h.ne.1 e.symm
  · rcases e with e | e
    · exact (h.fr x e).1 hx
    · exact (h.rr x hx).1 e
  · rcases hx with hx | hx
    · exact h.fr x hx
    · exact ⟨fun hR => by have := h.mp.old x hR; omega, by omega, by omega⟩
  · obtain ⟨a1, a2, a3, a4, a5⟩ := h.ap x hx
    refine ⟨fun e => ?_, a2, a3, a4, by omega⟩
    rcases e with e | e
    · exact a1 e
    · omega
  · rcases e with e | e
    · have := (h.fr x e).2.2; omega
    · have := h.ne.2.1; omega

theorem SamF.map (h : SamF w ks bl b bo bi bp bm rt ln gN vO ol bw vW q n F R wr) {w' : World} (k : MapQ wr bm (decL ks) rt ln R w') : SamF w ks bl b bo bi bp bm rt ln gN vO ol bw vW q n F (grow R wr w') w' := by
  have hsz := k.2.size
  have hs0 := h.kee.size
  have hbl := h.lk.lt
  refine ⟨h.lk.keeps k.2 (fun x hx e => ?_), k.1, fun x hx => ?_, fun x hx => ?_, h.ne, fun x hx => ?_, h.nm.keeps k.2 (fun x hx e => (h.ap x (.inl (own_gN hx))).2.2.2.1 e), h.od.keeps k.2 (fun x hx e => (h.ap x (.inr (.inl hx))).2.2.2.1 e), h.wd.keeps k.2 (fun e => (h.ap bw (.inr (.inr (.inl rfl)))).2.2.2.1 e) (fun x hx e => (h.ap x (.inr (.inr (.inr hx)))).2.2.2.1 e), h.kee.trans k.2 (fun x hx e => by have := h.ne.2.2; omega)⟩
  · rcases hx with hx | hx
    · exact (h.fr x hx).2.1 e
    · exact h.ne.1 (hx.symm.trans e)
  · refine ⟨fun e => ?_, (h.fr x hx).2⟩
    rcases e with e | e
    · exact (h.fr x hx).1 e
    · have := h.lk.mix.old x hx; omega
  · rcases hx with hx | hx
    · exact h.rr x hx
    · exact ⟨by omega, by omega⟩
  · obtain ⟨a1, a2, a3, a4, a5⟩ := h.ap x hx
    refine ⟨a1, fun e => ?_, a3, a4, by omega⟩
    rcases e with e | e
    · exact a2 e
    · omega

theorem SamF.still (h : SamF w ks bl b bo bi bp bm rt ln gN vO ol bw vW q n F R wr) {w' : World} (k : Keeps (fun _ => False) wr w') : SamF w ks bl b bo bi bp bm rt ln gN vO ol bw vW q n F R w' :=
  ⟨h.lk.keeps k (fun _ _ h => h), h.mp.keeps k (fun h => h) (fun _ _ h => h), h.fr, h.rr, h.ne, fun x hx => by obtain ⟨a1, a2, a3, a4, a5⟩ := h.ap x hx; exact ⟨a1, a2, a3, a4, Nat.lt_of_lt_of_le a5 k.size⟩, h.nm.keeps k (fun _ _ h => h), h.od.keeps k (fun _ _ h => h), h.wd.keeps k (fun h => h) (fun _ _ h => h), h.kee.trans k (fun _ _ h => h)⟩
end

/-- The walk around a right word's map. -/
theorem walkOf_word {w : World} {b : Nat} {ks : List Nat} {ln : Nat} {R : Nat → Prop} (h : MapAt w b (decL ks) (if ks.length = 0 then -1 else 0) ln R) (hW : Wd ks) (hC : CanonOk ks) :
    Calls Tryz.prog 89 #[.pointer (some ⟨b, 0, none⟩), .int .i64 (if ks.length = 0 then -1 else 0)] w fun e w' => ∃ ov c, e = .returned (.tuple #[ov, .int .i64 c]) ∧ Own2 w.heap.size w' ov (stepsL ks) ∧ MapQ w b (decL ks) (if ks.length = 0 then -1 else 0) ln R w' := by
  by_cases hn : ks.length = 0
  · have hks : ks = [] := List.eq_nil_of_length_eq_zero hn
    subst hks
    rw [if_pos hn] at h ⊢
    have HQ : Hid (MapQ w b (decL []) (-1) ln R w) := Lib.hid ⟨h.mono (fun x hx => .inl hx) (fun x hx => by
      rcases hx with hx | hx
      · exact h.old x hx
      · omega) (fun hx => by
      rcases hx with hx | hx
      · exact h.notb hx
      · omega), Keeps.refl _ _⟩
    clear h
    go_enter Tryz.func89, Tryz.ntmps89
    go_wp2
    go_ret2
    exact ⟨_, _, rfl, Own2.nil _ _, HQ.out⟩
  · rw [if_neg hn] at h ⊢
    have hl := decL_length ks
    refine (walkOf_any (root := 0) h (by rw [hl]; omega)).mono ?_
    rintro e w' ⟨T, ov, rfl, hE, _, hO, hq⟩
    have hT : T = ks.length := by
      have h2 := (hW.dec_end hC (by omega)).1
      rw [hl] at hE
      exact hE.unique h2
    subst hT
    have h3 := hW.dec_walk hC (by omega) ks.length (Nat.le_refl _)
    rw [h3] at hO
    exact ⟨ov, 0, rfl, hO, hq⟩

end Go.Proofs.YtipelclohcdkcaaGreat
