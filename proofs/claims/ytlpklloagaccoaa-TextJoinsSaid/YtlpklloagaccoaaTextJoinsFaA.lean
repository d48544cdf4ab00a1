/- Closed facts of TextJoins' row. No condition. -/
import Derived.Test.YtlpklloagaccoaaRows
import Derived.WalkKit
import Derived.ProofKit
import Derived.OpenShut
namespace Go.Proofs.Ytlpklloagaccoaa.textJoins
open Go.ChangeShapes Go.WideShapes Go.ChangeAt Go.RowKit
set_option linter.unusedVariables false

theorem f_inPlace : (Rows.textJoinsRow.inPlace == Try.prog.inPlace 4) = true := by kernel_rfl
theorem f_unfollowed : (Rows.textJoinsRow.unfollowed == Try.prog.unfollowed 4) = true := by kernel_rfl
end Go.Proofs.Ytlpklloagaccoaa.textJoins
