/- Closed facts of ListKeeps' row. No condition. -/
import Derived.Test.YtlpklloagaccoaaGreatRows
import Derived.WalkKit
import Derived.ProofKit
import Derived.OpenShut
namespace Go.Proofs.YtlpklloagaccoaaGreat.listKeeps
open Go.ChangeShapes Go.WideShapes Go.ChangeAt Go.RowKit
set_option linter.unusedVariables false

theorem f_inPlace : (Rows.listKeepsRow.inPlace == Tryz.prog.inPlace 5) = true := by kernel_rfl
theorem f_unfollowed : (Rows.listKeepsRow.unfollowed == Tryz.prog.unfollowed 5) = true := by kernel_rfl
end Go.Proofs.YtlpklloagaccoaaGreat.listKeeps
