/- look.Face. -/
import Derived.Test.YtipelclohcdkcaaGreatPsLook8
import Derived.Test.YtipelclohcdkcaaGreatPsConn
import Derived.Test.YtipelclohcdkcaaGreatPsVx
namespace Go.Proofs.YtipelclohcdkcaaGreat
open Go.RowKit

/-- While a face is walked: a Look, and the caller's own slice beside it. -/
def FaceS (w : World) (F : Nat → Prop) (bl b bo : Nat) (bi bp : Nat → Nat) (ks : List Nat) (n q : Nat) (zs : List Nat) (ov : Value) (wr : World) : Prop :=
  ∃ F', LookS wr bl b bo bi bp ks q F' n ∧ (∀ x, F' x → F x ∨ w.heap.size ≤ x) ∧ Keeps (fun x => F x ∨ x = bl) w wr ∧ OwnI w.heap.size wr ov (nats zs) ∧ (∀ g, ov.ownBlock = some g → ¬ F' g ∧ g ≠ bl)

section
variable {w wr : World} {F : Nat → Prop} {bl b bo : Nat} {bi bp : Nat → Nat} {ks : List Nat} {n q : Nat} {zs : List Nat} {ov : Value}

theorem FaceS.along (h : FaceS w F bl b bo bi bp ks n q zs ov wr) (hw : Wd ks) (i : Nat) (hq : q ≤ 50000000) (hi : i < ks.length) :
    Calls Tryz.prog 126 #[.pointer (some ⟨bl, 0, none⟩), .int .i64 i] wr fun e w' => e = .returned (.int .i64 (ph ks i : Nat)) ∧ FaceS w F bl b bo bi bp ks n (q + 8) zs ov w' := by
  obtain ⟨F', hS, hF, hk, hown, hsep⟩ := h
  refine (lookAlong_in hS.mix.old hS.mix.after hS.own hS.sep hw i hq hi).mono ?_
  rintro e w' ⟨rfl, hM⟩
  refine ⟨rfl, grow F' wr w', hS.mixq hM, fun x hx => ?_, hk.trans hM.2 (fun x hx hf => ?_), hown.keeps hM.2 (fun g hg => (hsep g hg).1), fun g hg => ⟨fun hx => ?_, (hsep g hg).2⟩⟩
  · rcases hx with hx | hx
    · exact hF x hx
    · have := hk.size; exact .inr (by omega)
  · rcases hF x hf with h1 | h1
    · exact .inl h1
    · omega
  · rcases hx with hx | hx
    · exact (hsep g hg).1 hx
    · have := (hown.lt g hg).2; omega

theorem FaceS.pushed {x : Nat} {g2 cap2 k1 : Nat} {w3 : World} (h : FaceS w F bl b bo bi bp ks n q zs ov wr)
    (ho : OwnI w.heap.size w3 (.slice (some ⟨g2, 0, none⟩) k1 cap2) (nats zs ++ [(x : Int)])) (hk3 : Keeps (fun p => ov.ownBlock = some p) wr w3) (hat : ov.ownBlock = some g2 ∨ wr.heap.size ≤ g2) :
    FaceS w F bl b bo bi bp ks n q (zs ++ [x]) (.slice (some ⟨g2, 0, none⟩) k1 cap2) w3 := by
  obtain ⟨F', hS, hF, hk, hown, hsep⟩ := h
  have hlt := hS.lt
  have hold := hS.mix.old
  refine ⟨F', hS.keeps hk3 (fun y hy he => ?_), hF, hk.trans hk3 (fun y hy he => ?_), by rw [nats_snoc]; exact ho, fun g hg => ?_⟩
  · rcases hy with hy | hy
    · exact (hsep y he).1 hy
    · exact (hsep y he).2 hy
  · have := (hown.lt y he).1; omega
  · simp only [Value.ownBlock, Option.some.injEq] at hg
    subst hg
    rcases hat with h1 | h1
    · exact hsep _ h1
    · exact ⟨fun hx => by have := hold _ hx; omega, by omega⟩

theorem FaceS.more (h : FaceS w F bl b bo bi bp ks n q zs ov wr) {q' : Nat} (hq : q ≤ q') : FaceS w F bl b bo bi bp ks n q' zs ov wr := by
  obtain ⟨F', hS, h2⟩ := h
  exact ⟨F', ⟨hS.own, hS.mix.more hq, hS.sep⟩, h2⟩

end

end Go.Proofs.YtipelclohcdkcaaGreat
