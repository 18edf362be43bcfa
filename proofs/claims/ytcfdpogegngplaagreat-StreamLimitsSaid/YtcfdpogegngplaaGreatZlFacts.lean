/- The frame's facts of the row, limb by limb. -/
import Derived.Test.YtcfdpogegngplaaGreatRows
import Derived.WalkKit
import Derived.ProofKit
import Derived.OpenShut
import Derived.ShutString
import Derived.ChangeOld
import Derived.Below
namespace Go.Proofs.YtcfdpogegngplaaGreat.streamLimits
open Go.ChangeShapes Go.WideShapes Go.ChangeAt Go.RowKit
open Go.ChangeMaps (open_string shut_string)
set_option linter.unusedVariables false

set_option maxHeartbeats 4000000 in
theorem closed : joinedFacts Tryz.prog 12 Tryz.f12 Rows.streamLimitsSpec Rows.streamLimitsRow = true := by
  unfold joinedFacts
  repeat' (with_reducible refine (Bool.and_eq_true_iff).2 ⟨?_, ?_⟩)
  all_goals (as_aux_lemma => kernel_rfl)

end Go.Proofs.YtcfdpogegngplaaGreat.streamLimits
