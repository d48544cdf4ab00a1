/- Closed facts of ObjectDamaged' row. No condition. -/
import Derived.Test.YtlpklloagaccoaaGreatRows
import Derived.WalkKit
import Derived.ProofKit
import Derived.OpenShut
namespace Go.Proofs.YtlpklloagaccoaaGreat.objectDamaged
open Go.ChangeShapes Go.WideShapes Go.ChangeAt Go.RowKit
set_option linter.unusedVariables false

theorem f_recurses : (Rows.objectDamagedRow.recurses == Tryz.prog.recurses 10) = true := by kernel_rfl
theorem f_named : (Rows.objectDamagedRow.named == Tryz.prog.varsNamed 10) = true := by kernel_rfl
end Go.Proofs.YtlpklloagaccoaaGreat.objectDamaged
