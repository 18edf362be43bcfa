/- ref07.Dec. -/
import Derived.Test.YtblkkcpeodoclaaGreatDoorPtRots11
namespace Go.Proofs.YtblkkcpeodoclaaGreatDoor
open Go.RowKit

theorem bytesA_app (a b : List UInt8) : bytesA a ++ bytesA b = bytesA (a ++ b) := by
  apply Go.WideShapes.bytes_inj
  simp [bytesA]

theorem add_run (a b : List UInt8) (h : a.length + b.length ≤ 9223372036854775807) (W : World) : (Op.stringOp .add (bytesA a) (bytesA b)).run Tryz.prog W = .ok (.string (bytesA (a ++ b))) W := by
  rw [← bytesA_app]
  exact run_string_add_sum _ _ _ (by rw [bytesA_size, bytesA_size]; exact h)

end Go.Proofs.YtblkkcpeodoclaaGreatDoor
