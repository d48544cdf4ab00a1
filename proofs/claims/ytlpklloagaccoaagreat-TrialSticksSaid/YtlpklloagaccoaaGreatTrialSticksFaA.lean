/- Closed facts of TrialSticks' row. No condition. -/
import Derived.Test.YtlpklloagaccoaaGreatRows
import Derived.WalkKit
import Derived.ProofKit
import Derived.OpenShut
namespace Go.Proofs.YtlpklloagaccoaaGreat.trialSticks
open Go.ChangeShapes Go.WideShapes Go.ChangeAt Go.RowKit
set_option linter.unusedVariables false

theorem f_inPlace : (Rows.trialSticksRow.inPlace == Tryz.prog.inPlace 23) = true := by kernel_rfl
theorem f_unfollowed : (Rows.trialSticksRow.unfollowed == Tryz.prog.unfollowed 23) = true := by kernel_rfl
end Go.Proofs.YtlpklloagaccoaaGreat.trialSticks
