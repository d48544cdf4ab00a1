/- Closed facts of ListFull' row. No condition. -/
import Derived.Test.YtlpklloagaccoaaGreatRows
import Derived.WalkKit
import Derived.ProofKit
import Derived.OpenShut
namespace Go.Proofs.YtlpklloagaccoaaGreat.listFull
open Go.ChangeShapes Go.WideShapes Go.ChangeAt Go.RowKit
set_option linter.unusedVariables false

theorem f_inPlace : (Rows.listFullRow.inPlace == Tryz.prog.inPlace 4) = true := by kernel_rfl
theorem f_unfollowed : (Rows.listFullRow.unfollowed == Tryz.prog.unfollowed 4) = true := by kernel_rfl
end Go.Proofs.YtlpklloagaccoaaGreat.listFull
