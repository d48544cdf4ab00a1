/- Closed facts of TrialLinks' row. No condition. -/
import Derived.Test.YtlpklloagaccoaaGreatRows
import Derived.WalkKit
import Derived.ProofKit
import Derived.OpenShut
namespace Go.Proofs.YtlpklloagaccoaaGreat.trialLinks
open Go.ChangeShapes Go.WideShapes Go.ChangeAt Go.RowKit
set_option linter.unusedVariables false

theorem f_inPlace : (Rows.trialLinksRow.inPlace == Tryz.prog.inPlace 20) = true := by kernel_rfl
theorem f_unfollowed : (Rows.trialLinksRow.unfollowed == Tryz.prog.unfollowed 20) = true := by kernel_rfl
end Go.Proofs.YtlpklloagaccoaaGreat.trialLinks
