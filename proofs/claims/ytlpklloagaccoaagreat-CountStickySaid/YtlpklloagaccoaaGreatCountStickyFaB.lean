/- Closed facts of CountSticky' row. No condition. -/
import Derived.Test.YtlpklloagaccoaaGreatRows
import Derived.WalkKit
import Derived.ProofKit
import Derived.OpenShut
namespace Go.Proofs.YtlpklloagaccoaaGreat.countSticky
open Go.ChangeShapes Go.WideShapes Go.ChangeAt Go.RowKit
set_option linter.unusedVariables false

theorem f_recurses : (Rows.countStickyRow.recurses == Tryz.prog.recurses 13) = true := by kernel_rfl
theorem f_named : (Rows.countStickyRow.named == Tryz.prog.varsNamed 13) = true := by kernel_rfl
end Go.Proofs.YtlpklloagaccoaaGreat.countSticky
