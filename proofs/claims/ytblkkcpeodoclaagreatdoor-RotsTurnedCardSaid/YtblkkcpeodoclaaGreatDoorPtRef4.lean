/- Joined texts: Ref04, Ref04b, Ref04c, Ref04d, Law04a. -/
import Derived.Deep.CutRange
import Derived.Test.YtblkkcpeodoclaaGreatDoorPtMixed
import Derived.Test.YtblkkcpeodoclaaGreatDoorPtRanks
import Derived.Test.YtblkkcpeodoclaaGreatDoorPtRef3
/- The references of layer 4: Count, Sort. -/
namespace Go.Proofs.YtblkkcpeodoclaaGreatDoor
open Go.RowKit

end Go.Proofs.YtblkkcpeodoclaaGreatDoor

/- The references of layer 4: Mates. -/
namespace Go.Proofs.YtblkkcpeodoclaaGreatDoor
open Go.RowKit

theorem OwnI.made (B : Nat) (w : World) (n : Nat) (hB : B ≤ w.heap.size) (hn : n ≤ 100000000) : OwnI B (w.alloc (.cells (madeCells #[.int .i64 0] n) 3)) (.slice (some ⟨w.heap.size, 0, none⟩) n n) (List.replicate n 0) := by
  have ht : (madeCells #[.int .i64 0] n).toList = ints (List.replicate n 0) := by rw [toList_madeCells_one]; simp [ints]
  have h1 := World.ownsRow_lit (base := B) (e := 3) (size := 1) w (madeCells #[.int .i64 0] n) n hB (by unfold maxLen; omega) (by rw [size_madeCells]; omega)
  rw [ht] at h1
  unfold OwnI
  rw [List.length_replicate]
  exact h1

end Go.Proofs.YtblkkcpeodoclaaGreatDoor

/- The references of layer 4: Owners. -/
namespace Go.Proofs.YtblkkcpeodoclaaGreatDoor
open Go.RowKit

end Go.Proofs.YtblkkcpeodoclaaGreatDoor

/- The references of layer 4: Any. -/
namespace Go.Proofs.YtblkkcpeodoclaaGreatDoor
open Go.RowKit

end Go.Proofs.YtblkkcpeodoclaaGreatDoor

/- Layer 4's statements: of, Index of a word, awake. -/
namespace Go.Proofs.YtblkkcpeodoclaaGreatDoor
open Go.RowKit

end Go.Proofs.YtblkkcpeodoclaaGreatDoor
