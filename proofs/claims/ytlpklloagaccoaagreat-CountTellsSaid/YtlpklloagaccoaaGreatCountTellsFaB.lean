/- Closed facts of CountTells' row. No condition. -/
import Derived.Test.YtlpklloagaccoaaGreatRows
import Derived.WalkKit
import Derived.ProofKit
import Derived.OpenShut
namespace Go.Proofs.YtlpklloagaccoaaGreat.countTells
open Go.ChangeShapes Go.WideShapes Go.ChangeAt Go.RowKit
set_option linter.unusedVariables false

theorem f_recurses : (Rows.countTellsRow.recurses == Tryz.prog.recurses 15) = true := by kernel_rfl
theorem f_named : (Rows.countTellsRow.named == Tryz.prog.varsNamed 15) = true := by kernel_rfl
end Go.Proofs.YtlpklloagaccoaaGreat.countTells
