/- slices.Clone of bytes; a literal of bytes. -/
import Derived.Test.YtblkkcpeodoclaaGreatDoorPtOwnY
import Derived.Test.YtblkkcpeodoclaaGreatDoorPtConn
namespace Go.Proofs.YtblkkcpeodoclaaGreatDoor
open Go.RowKit

theorem sl_const {w : World} {g : Nat} {bs : List Nat} {fr : Nat × Nat} (hb : w.heap[g]? = some (.cells (ys bs).toArray 5 fr)) (hl : bs.length ≤ 1000000000) : Sl .u8 w (.slice (some ⟨g, 0, none⟩) bs.length bs.length) (nats bs) := by
  refine ⟨some ⟨g, 0, none⟩, bs.length, (by rw [nats_len]), (by rw [nats_len]; exact Nat.le_refl _), (by omega), (fun h => nomatch h), fun j z hz => ⟨g, 0, rfl, ?_⟩⟩
  rw [World.cell_of_heap hb, Nat.zero_add]
  unfold ys
  simp [hz]

end Go.Proofs.YtblkkcpeodoclaaGreatDoor
