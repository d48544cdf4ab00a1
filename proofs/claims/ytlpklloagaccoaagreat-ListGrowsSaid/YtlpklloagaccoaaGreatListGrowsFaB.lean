/- Closed facts of ListGrows' row. No condition. -/
import Derived.Test.YtlpklloagaccoaaGreatRows
import Derived.WalkKit
import Derived.ProofKit
import Derived.OpenShut
namespace Go.Proofs.YtlpklloagaccoaaGreat.listGrows
open Go.ChangeShapes Go.WideShapes Go.ChangeAt Go.RowKit
set_option linter.unusedVariables false

theorem f_recurses : (Rows.listGrowsRow.recurses == Tryz.prog.recurses 3) = true := by kernel_rfl
theorem f_named : (Rows.listGrowsRow.named == Tryz.prog.varsNamed 3) = true := by kernel_rfl
end Go.Proofs.YtlpklloagaccoaaGreat.listGrows
