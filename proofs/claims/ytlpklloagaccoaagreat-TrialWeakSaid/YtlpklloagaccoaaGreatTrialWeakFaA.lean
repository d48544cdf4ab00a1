/- Closed facts of TrialWeak' row. No condition. -/
import Derived.Test.YtlpklloagaccoaaGreatRows
import Derived.WalkKit
import Derived.ProofKit
import Derived.OpenShut
namespace Go.Proofs.YtlpklloagaccoaaGreat.trialWeak
open Go.ChangeShapes Go.WideShapes Go.ChangeAt Go.RowKit
set_option linter.unusedVariables false

theorem f_inPlace : (Rows.trialWeakRow.inPlace == Tryz.prog.inPlace 24) = true := by kernel_rfl
theorem f_unfollowed : (Rows.trialWeakRow.unfollowed == Tryz.prog.unfollowed 24) = true := by kernel_rfl
end Go.Proofs.YtlpklloagaccoaaGreat.trialWeak
