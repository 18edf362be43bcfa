/- look: what there isn't; First. -/
import Derived.Test.YtipelclohcdkcaaGreatPsLook14
namespace Go.Proofs.YtipelclohcdkcaaGreat
open Go.RowKit

/-- A question that was asked behind blocks of the call's own, some of which are written last. -/
theorem LookQ.freshS {w W w2 w3 : World} {bl b bo : Nat} {bi bp : Nat → Nat} {ks : List Nat} {q q' : Nat} {F : Nat → Prop} {n m : Nat} (h : LookS w bl b bo bi bp ks q F n) (k : Keeps (fun _ => False) w W) (hQ : LookQ W bl b bo bi bp ks q' F m w2) {G : Nat → Prop} (k3 : Keeps G w2 w3) (hG : ∀ x, G x → w.heap.size ≤ x ∧ x < W.heap.size) : LookQ w bl b bo bi bp ks q' F m w3 := by
  have hb := h.lt
  have hsW := k.size
  have hs2 := hQ.2.size
  have hs3 := k3.size
  have hold := h.mix.old
  have hS := hQ.1.keeps k3 (fun x hx hg => by
    have := hG x hg
    rcases hx with hx | hx
    · rcases hx with hx | hx
      · have := hold x hx; omega
      · omega
    · omega)
  refine ⟨⟨hS.own, hS.mix.mono (fun x hx => ?_) (grow_old hold (by omega)), fun hx => ?_⟩, ((k.mono (fun _ _ h => h.elim)).trans hQ.2 (fun x hx hg => hg)).trans k3 (fun x hx hg => by have := hG x hg; omega)⟩
  · rcases hx with hx | hx
    · exact .inl hx
    · exact .inr ⟨by omega, by omega⟩
  · rcases hx with hx | hx
    · exact h.sep hx
    · omega

theorem LookQ.fresh {w W w2 : World} {bl b bo : Nat} {bi bp : Nat → Nat} {ks : List Nat} {q q' : Nat} {F : Nat → Prop} {n m : Nat} (h : LookS w bl b bo bi bp ks q F n) (k : Keeps (fun _ => False) w W) (hQ : LookQ W bl b bo bi bp ks q' F m w2) : LookQ w bl b bo bi bp ks q' F m w2 :=
  hQ.freshS h k (Keeps.refl (fun _ => False) w2) (fun _ h => h.elim)



end Go.Proofs.YtipelclohcdkcaaGreat
