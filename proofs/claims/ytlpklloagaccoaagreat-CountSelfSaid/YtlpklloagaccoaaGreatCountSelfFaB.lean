/- Closed facts of CountSelf' row. No condition. -/
import Derived.Test.YtlpklloagaccoaaGreatRows
import Derived.WalkKit
import Derived.ProofKit
import Derived.OpenShut
namespace Go.Proofs.YtlpklloagaccoaaGreat.countSelf
open Go.ChangeShapes Go.WideShapes Go.ChangeAt Go.RowKit
set_option linter.unusedVariables false

theorem f_recurses : (Rows.countSelfRow.recurses == Tryz.prog.recurses 17) = true := by kernel_rfl
theorem f_named : (Rows.countSelfRow.named == Tryz.prog.varsNamed 17) = true := by kernel_rfl
end Go.Proofs.YtlpklloagaccoaaGreat.countSelf
