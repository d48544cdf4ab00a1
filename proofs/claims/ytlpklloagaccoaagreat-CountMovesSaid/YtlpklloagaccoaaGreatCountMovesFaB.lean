/- Closed facts of CountMoves' row. No condition. -/
import Derived.Test.YtlpklloagaccoaaGreatRows
import Derived.WalkKit
import Derived.ProofKit
import Derived.OpenShut
namespace Go.Proofs.YtlpklloagaccoaaGreat.countMoves
open Go.ChangeShapes Go.WideShapes Go.ChangeAt Go.RowKit
set_option linter.unusedVariables false

theorem f_recurses : (Rows.countMovesRow.recurses == Tryz.prog.recurses 12) = true := by kernel_rfl
theorem f_named : (Rows.countMovesRow.named == Tryz.prog.varsNamed 12) = true := by kernel_rfl
end Go.Proofs.YtlpklloagaccoaaGreat.countMoves
