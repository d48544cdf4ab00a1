/- Closed facts of ObjectDamaged' row. No condition. -/
import Derived.Test.YtlpklloagaccoaaGreatRows
import Derived.WalkKit
import Derived.ProofKit
import Derived.OpenShut
namespace Go.Proofs.YtlpklloagaccoaaGreat.objectDamaged
open Go.ChangeShapes Go.WideShapes Go.ChangeAt Go.RowKit
set_option linter.unusedVariables false

theorem f_inPlace : (Rows.objectDamagedRow.inPlace == Tryz.prog.inPlace 10) = true := by kernel_rfl
theorem f_unfollowed : (Rows.objectDamagedRow.unfollowed == Tryz.prog.unfollowed 10) = true := by kernel_rfl
end Go.Proofs.YtlpklloagaccoaaGreat.objectDamaged
