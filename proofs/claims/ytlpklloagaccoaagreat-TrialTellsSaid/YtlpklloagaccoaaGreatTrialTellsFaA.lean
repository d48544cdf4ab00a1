/- Closed facts of TrialTells' row. No condition. -/
import Derived.Test.YtlpklloagaccoaaGreatRows
import Derived.WalkKit
import Derived.ProofKit
import Derived.OpenShut
namespace Go.Proofs.YtlpklloagaccoaaGreat.trialTells
open Go.ChangeShapes Go.WideShapes Go.ChangeAt Go.RowKit
set_option linter.unusedVariables false

theorem f_inPlace : (Rows.trialTellsRow.inPlace == Tryz.prog.inPlace 25) = true := by kernel_rfl
theorem f_unfollowed : (Rows.trialTellsRow.unfollowed == Tryz.prog.unfollowed 25) = true := by kernel_rfl
end Go.Proofs.YtlpklloagaccoaaGreat.trialTells
