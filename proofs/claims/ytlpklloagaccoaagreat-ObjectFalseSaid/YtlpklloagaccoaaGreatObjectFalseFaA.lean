/- Closed facts of ObjectFalse' row. No condition. -/
import Derived.Test.YtlpklloagaccoaaGreatRows
import Derived.WalkKit
import Derived.ProofKit
import Derived.OpenShut
namespace Go.Proofs.YtlpklloagaccoaaGreat.objectFalse
open Go.ChangeShapes Go.WideShapes Go.ChangeAt Go.RowKit
set_option linter.unusedVariables false

theorem f_inPlace : (Rows.objectFalseRow.inPlace == Tryz.prog.inPlace 11) = true := by kernel_rfl
theorem f_unfollowed : (Rows.objectFalseRow.unfollowed == Tryz.prog.unfollowed 11) = true := by kernel_rfl
end Go.Proofs.YtlpklloagaccoaaGreat.objectFalse
