/- Closed facts of TextJoins' row. No condition. -/
import Derived.Test.YtlpklloagaccoaaRows
import Derived.WalkKit
import Derived.ProofKit
import Derived.OpenShut
namespace Go.Proofs.Ytlpklloagaccoaa.textJoins
open Go.ChangeShapes Go.WideShapes Go.ChangeAt Go.RowKit
set_option linter.unusedVariables false

theorem f_recurses : (Rows.textJoinsRow.recurses == Try.prog.recurses 4) = true := by kernel_rfl
theorem f_named : (Rows.textJoinsRow.named == Try.prog.varsNamed 4) = true := by kernel_rfl
end Go.Proofs.Ytlpklloagaccoaa.textJoins
