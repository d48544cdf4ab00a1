/- Closed facts of CountWeak' row. No condition. -/
import Derived.Test.YtlpklloagaccoaaGreatRows
import Derived.WalkKit
import Derived.ProofKit
import Derived.OpenShut
namespace Go.Proofs.YtlpklloagaccoaaGreat.countWeak
open Go.ChangeShapes Go.WideShapes Go.ChangeAt Go.RowKit
set_option linter.unusedVariables false

theorem f_inPlace : (Rows.countWeakRow.inPlace == Tryz.prog.inPlace 16) = true := by kernel_rfl
theorem f_unfollowed : (Rows.countWeakRow.unfollowed == Tryz.prog.unfollowed 16) = true := by kernel_rfl
end Go.Proofs.YtlpklloagaccoaaGreat.countWeak
