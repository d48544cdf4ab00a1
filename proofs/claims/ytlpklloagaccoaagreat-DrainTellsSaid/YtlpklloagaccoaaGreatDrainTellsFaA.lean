/- Closed facts of DrainTells' row. No condition. -/
import Derived.Test.YtlpklloagaccoaaGreatRows
import Derived.WalkKit
import Derived.ProofKit
import Derived.OpenShut
namespace Go.Proofs.YtlpklloagaccoaaGreat.drainTells
open Go.ChangeShapes Go.WideShapes Go.ChangeAt Go.RowKit
set_option linter.unusedVariables false

theorem f_inPlace : (Rows.drainTellsRow.inPlace == Tryz.prog.inPlace 21) = true := by kernel_rfl
theorem f_unfollowed : (Rows.drainTellsRow.unfollowed == Tryz.prog.unfollowed 21) = true := by kernel_rfl
end Go.Proofs.YtlpklloagaccoaaGreat.drainTells
