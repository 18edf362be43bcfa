/- look: nil receivers. -/
import Derived.Test.YtipelclohcdkcaaGreatPsBase
namespace Go.Proofs.YtipelclohcdkcaaGreat
open Go.RowKit

/-- Two result cells, one behind the other, are written. -/
theorem res2 {W : World} {B : Nat} {t1 t2 : TypeId} {a b : Value} (h1 : W.heap[B]? = some (.cells #[a] t1 (0, 0))) (h2 : W.heap[B + 1]? = some (.cells #[b] t2 (0, 0))) (x y : Value) :
    ((W.setCell ⟨B, 0, none⟩ x).setCell ⟨B + 1, 0, none⟩ y).cell? ⟨B, 0, none⟩ = some x ∧ ((W.setCell ⟨B, 0, none⟩ x).setCell ⟨B + 1, 0, none⟩ y).cell? ⟨B + 1, 0, none⟩ = some y ∧ Keeps (fun k => k = B ∨ k = B + 1) W ((W.setCell ⟨B, 0, none⟩ x).setCell ⟨B + 1, 0, none⟩ y) ∧
    ((W.setCell ⟨B, 0, none⟩ x).setCell ⟨B + 1, 0, none⟩ y).heap[B]? = some (.cells #[x] t1 (0, 0)) := by
  have g1 : (W.setCell ⟨B, 0, none⟩ x).heap[B]? = some (.cells #[x] t1 (0, 0)) := heap_setCell_same h1 0 x
  have k1 := (Keeps.refl (fun k => k = B) W).setCell (p := ⟨B, 0, none⟩) (.inl rfl) x
  have g2 : (W.setCell ⟨B, 0, none⟩ x).heap[B + 1]? = some (.cells #[b] t2 (0, 0)) := k1.at h2 (by omega)
  have g3 : ((W.setCell ⟨B, 0, none⟩ x).setCell ⟨B + 1, 0, none⟩ y).heap[B + 1]? = some (.cells #[y] t2 (0, 0)) := heap_setCell_same g2 0 y
  have k2 := (Keeps.refl (fun k => k = B + 1) (W.setCell ⟨B, 0, none⟩ x)).setCell (p := ⟨B + 1, 0, none⟩) (.inl rfl) y
  have g4 := k2.at g1 (by omega)
  exact ⟨World.cell_of_heap g4 0, World.cell_of_heap g3 0, (k1.mono (fun _ _ h => .inl h)).trans (k2.mono (fun _ _ h => .inr h)) (fun _ _ h => h), g4⟩

end Go.Proofs.YtipelclohcdkcaaGreat
