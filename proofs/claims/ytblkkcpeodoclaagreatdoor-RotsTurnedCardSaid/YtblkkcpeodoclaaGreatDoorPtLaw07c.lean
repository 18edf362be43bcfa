/- RotsPrints. -/
import Derived.Shelf.RegionOpenPlain
import Derived.Test.YtblkkcpeodoclaaGreatDoorPtLaw07a
import Derived.Test.YtblkkcpeodoclaaGreatDoorPtRefP07
import Derived.Test.YtblkkcpeodoclaaGreatDoorPtCountR
import Derived.Test.YtblkkcpeodoclaaGreatDoorPtMix5
namespace Go.Proofs.YtblkkcpeodoclaaGreatDoor
open Go.RowKit

theorem convB (T : List UInt8) {w : World} {v : Value} (h : Sl .u8 w v (nats (natsB T))) : (convert 22 9 v).run Tryz.prog w = .ok (.string (bytesA T)) w := by
  have h1 := h.conv
  have h2 : strOfNums (nats (natsB T)) = bytesA T := by
    apply Go.WideShapes.bytes_inj
    have h3 := strN_list (natsB T)
    rw [bytes_list] at h3
    rw [h3, bytesA_list]
    exact u8s_natsB T
  rw [← h2]
  exact h1

end Go.Proofs.YtblkkcpeodoclaaGreatDoor
