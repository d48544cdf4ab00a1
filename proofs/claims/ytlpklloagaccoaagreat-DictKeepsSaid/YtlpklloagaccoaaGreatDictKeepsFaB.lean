/- Closed facts of DictKeeps' row. No condition. -/
import Derived.Test.YtlpklloagaccoaaGreatRows
import Derived.WalkKit
import Derived.ProofKit
import Derived.OpenShut
namespace Go.Proofs.YtlpklloagaccoaaGreat.dictKeeps
open Go.ChangeShapes Go.WideShapes Go.ChangeAt Go.RowKit
set_option linter.unusedVariables false

theorem f_recurses : (Rows.dictKeepsRow.recurses == Tryz.prog.recurses 8) = true := by kernel_rfl
theorem f_named : (Rows.dictKeepsRow.named == Tryz.prog.varsNamed 8) = true := by kernel_rfl
end Go.Proofs.YtlpklloagaccoaaGreat.dictKeeps
