/- Closed facts of CountTells' row. No condition. -/
import Derived.Test.YtlpklloagaccoaaGreatRows
import Derived.WalkKit
import Derived.ProofKit
import Derived.OpenShut
namespace Go.Proofs.YtlpklloagaccoaaGreat.countTells
open Go.ChangeShapes Go.WideShapes Go.ChangeAt Go.RowKit
set_option linter.unusedVariables false

theorem f_inPlace : (Rows.countTellsRow.inPlace == Tryz.prog.inPlace 15) = true := by kernel_rfl
theorem f_unfollowed : (Rows.countTellsRow.unfollowed == Tryz.prog.unfollowed 15) = true := by kernel_rfl
end Go.Proofs.YtlpklloagaccoaaGreat.countTells
