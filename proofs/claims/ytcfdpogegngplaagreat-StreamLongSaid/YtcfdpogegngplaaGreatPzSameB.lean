/- bits.Same. -/
import Derived.Deep.RegionHeld3
import Derived.BigQuiet
import Derived.Test.YtcfdpogegngplaaGreatPzVecB
namespace Go.Proofs.YtcfdpogegngplaaGreat
open Go.RowKit

theorem VecAt.row {w : World} {b : Nat} {v : Value} {l : List Bool} (h : VecAt w b v l) : Sl .u64 w v (nats (words l)) := by
  have h2 := h.2
  have e : ((words l).map fun x : Nat => Value.int .u64 x) = (nats (words l)).map fun z => Value.int .u64 z := by simp [nats]
  rw [e] at h2
  exact Sl.of_owns h2

end Go.Proofs.YtcfdpogegngplaaGreat
