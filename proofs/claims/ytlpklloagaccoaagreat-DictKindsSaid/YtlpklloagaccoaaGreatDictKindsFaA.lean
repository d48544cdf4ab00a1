/- Closed facts of DictKinds' row. No condition. -/
import Derived.Test.YtlpklloagaccoaaGreatRows
import Derived.WalkKit
import Derived.ProofKit
import Derived.OpenShut
namespace Go.Proofs.YtlpklloagaccoaaGreat.dictKinds
open Go.ChangeShapes Go.WideShapes Go.ChangeAt Go.RowKit
set_option linter.unusedVariables false

theorem f_inPlace : (Rows.dictKindsRow.inPlace == Tryz.prog.inPlace 7) = true := by kernel_rfl
theorem f_unfollowed : (Rows.dictKindsRow.unfollowed == Tryz.prog.unfollowed 7) = true := by kernel_rfl
end Go.Proofs.YtlpklloagaccoaaGreat.dictKinds
