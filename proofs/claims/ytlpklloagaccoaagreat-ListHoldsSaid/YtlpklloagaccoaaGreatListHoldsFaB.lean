/- Closed facts of ListHolds' row. No condition. -/
import Derived.Test.YtlpklloagaccoaaGreatRows
import Derived.WalkKit
import Derived.ProofKit
import Derived.OpenShut
namespace Go.Proofs.YtlpklloagaccoaaGreat.listHolds
open Go.ChangeShapes Go.WideShapes Go.ChangeAt Go.RowKit
set_option linter.unusedVariables false

theorem f_recurses : (Rows.listHoldsRow.recurses == Tryz.prog.recurses 6) = true := by kernel_rfl
theorem f_named : (Rows.listHoldsRow.named == Tryz.prog.varsNamed 6) = true := by kernel_rfl
end Go.Proofs.YtlpklloagaccoaaGreat.listHolds
