/- Closed facts of CountSticky' row. No condition. -/
import Derived.Test.YtlpklloagaccoaaGreatRows
import Derived.WalkKit
import Derived.ProofKit
import Derived.OpenShut
namespace Go.Proofs.YtlpklloagaccoaaGreat.countSticky
open Go.ChangeShapes Go.WideShapes Go.ChangeAt Go.RowKit
set_option linter.unusedVariables false

theorem f_inPlace : (Rows.countStickyRow.inPlace == Tryz.prog.inPlace 13) = true := by kernel_rfl
theorem f_unfollowed : (Rows.countStickyRow.unfollowed == Tryz.prog.unfollowed 13) = true := by kernel_rfl
end Go.Proofs.YtlpklloagaccoaaGreat.countSticky
