/- Slices of bytes of the call's own. -/
import Derived.ArgAppend
import Derived.Test.YtblkkcpeodoclaaGreatDoorPtBase
namespace Go.Proofs.YtblkkcpeodoclaaGreatDoor
open Go.RowKit

theorem infoY : (Tryz.prog.info? 5).map (fun i => (i.zero, i.size, i.bytes)) = some (some (.int .u8 0), 1, 1) := by kernel_rfl

def ys (bs : List Nat) : List Value := (nats bs).map fun z => Value.int .u8 z
end Go.Proofs.YtblkkcpeodoclaaGreatDoor
