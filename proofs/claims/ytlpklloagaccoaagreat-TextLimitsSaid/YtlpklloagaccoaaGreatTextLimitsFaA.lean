/- Closed facts of TextLimits' row. No condition. -/
import Derived.Test.YtlpklloagaccoaaGreatRows
import Derived.WalkKit
import Derived.ProofKit
import Derived.OpenShut
namespace Go.Proofs.YtlpklloagaccoaaGreat.textLimits
open Go.ChangeShapes Go.WideShapes Go.ChangeAt Go.RowKit
set_option linter.unusedVariables false

theorem f_inPlace : (Rows.textLimitsRow.inPlace == Tryz.prog.inPlace 14) = true := by kernel_rfl
theorem f_unfollowed : (Rows.textLimitsRow.unfollowed == Tryz.prog.unfollowed 14) = true := by kernel_rfl
end Go.Proofs.YtlpklloagaccoaaGreat.textLimits
