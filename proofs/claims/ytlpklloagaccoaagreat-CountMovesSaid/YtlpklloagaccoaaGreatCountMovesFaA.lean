/- Closed facts of CountMoves' row. No condition. -/
import Derived.Test.YtlpklloagaccoaaGreatRows
import Derived.WalkKit
import Derived.ProofKit
import Derived.OpenShut
namespace Go.Proofs.YtlpklloagaccoaaGreat.countMoves
open Go.ChangeShapes Go.WideShapes Go.ChangeAt Go.RowKit
set_option linter.unusedVariables false

theorem f_inPlace : (Rows.countMovesRow.inPlace == Tryz.prog.inPlace 12) = true := by kernel_rfl
theorem f_unfollowed : (Rows.countMovesRow.unfollowed == Tryz.prog.unfollowed 12) = true := by kernel_rfl
end Go.Proofs.YtlpklloagaccoaaGreat.countMoves
