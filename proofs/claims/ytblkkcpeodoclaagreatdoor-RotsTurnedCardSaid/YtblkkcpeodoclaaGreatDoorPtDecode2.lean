/- The references of layer 12: Decode, the walk. -/
import Derived.Maps.AppendAt
import Derived.Test.YtblkkcpeodoclaaGreatDoorPtTuran3
/- The references of layer 12: Decode. -/
namespace Go.Proofs.YtblkkcpeodoclaaGreatDoor
open Go.RowKit

end Go.Proofs.YtblkkcpeodoclaaGreatDoor

namespace Go.Proofs.YtblkkcpeodoclaaGreatDoor
open Go.RowKit



/-- A map that a call hands back. -/
def mapV (sv : Value) (rt ln : Int) : Value := .agg #[sv, .int .i64 rt, .int .i64 ln]

end Go.Proofs.YtblkkcpeodoclaaGreatDoor
