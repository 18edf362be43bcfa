/- The references of layer 12: Plane. -/
import Derived.Deep.CutRange
import Derived.Maps.Own
import Derived.Maps.OwnOps
import Derived.Maps.OwnSet
import Derived.Maps.Views
import Derived.Test.YtblkkcpeodoclaaGreatDoorPtConn
import Derived.Test.YtblkkcpeodoclaaGreatDoorPtRef3
import Derived.Test.YtblkkcpeodoclaaGreatDoorPtDecode2
namespace Go.Proofs.YtblkkcpeodoclaaGreatDoor
open Go.RowKit

/-- A result of three cells is written whole. -/
theorem res3 {W : World} {B : Nat} {t : TypeId} {a b c : Value} (h1 : W.heap[B]? = some (.cells #[a, b, c] t (0, 0))) (x y z : Value) :
    (((W.setCell ⟨B, 0, none⟩ x).setCell ⟨B, 1, none⟩ y).setCell ⟨B, 2, none⟩ z).heap[B]? = some (.cells #[x, y, z] t (0, 0)) ∧ Keeps (fun k => k = B) W (((W.setCell ⟨B, 0, none⟩ x).setCell ⟨B, 1, none⟩ y).setCell ⟨B, 2, none⟩ z) :=
  ⟨heap_setCell_same (heap_setCell_same (heap_setCell_same h1 0 x) 1 y) 2 z, (((Keeps.refl (fun k => k = B) W).setCell (p := ⟨B, 0, none⟩) (.inl rfl) x).setCell (p := ⟨B, 1, none⟩) (.inl rfl) y).setCell (p := ⟨B, 2, none⟩) (.inl rfl) z⟩

end Go.Proofs.YtblkkcpeodoclaaGreatDoor
