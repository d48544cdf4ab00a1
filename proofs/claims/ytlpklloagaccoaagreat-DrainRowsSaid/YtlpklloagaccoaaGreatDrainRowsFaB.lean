/- Closed facts of DrainRows' row. No condition. -/
import Derived.Test.YtlpklloagaccoaaGreatRows
import Derived.WalkKit
import Derived.ProofKit
import Derived.OpenShut
namespace Go.Proofs.YtlpklloagaccoaaGreat.drainRows
open Go.ChangeShapes Go.WideShapes Go.ChangeAt Go.RowKit
set_option linter.unusedVariables false

theorem f_recurses : (Rows.drainRowsRow.recurses == Tryz.prog.recurses 18) = true := by kernel_rfl
theorem f_named : (Rows.drainRowsRow.named == Tryz.prog.varsNamed 18) = true := by kernel_rfl
end Go.Proofs.YtlpklloagaccoaaGreat.drainRows
