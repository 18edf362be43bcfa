/- Contracts at nil, and of the reference's Good. -/
import Derived.Test.YtblkkcpeodoclaaGreatDoorOf
namespace Go.Proofs.YtblkkcpeodoclaaGreatDoor
open Go.RowKit

end Go.Proofs.YtblkkcpeodoclaaGreatDoor
