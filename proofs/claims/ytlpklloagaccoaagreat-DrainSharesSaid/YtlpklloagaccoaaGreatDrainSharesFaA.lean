/- Closed facts of DrainShares' row. No condition. -/
import Derived.Test.YtlpklloagaccoaaGreatRows
import Derived.WalkKit
import Derived.ProofKit
import Derived.OpenShut
namespace Go.Proofs.YtlpklloagaccoaaGreat.drainShares
open Go.ChangeShapes Go.WideShapes Go.ChangeAt Go.RowKit
set_option linter.unusedVariables false

theorem f_inPlace : (Rows.drainSharesRow.inPlace == Tryz.prog.inPlace 19) = true := by kernel_rfl
theorem f_unfollowed : (Rows.drainSharesRow.unfollowed == Tryz.prog.unfollowed 19) = true := by kernel_rfl
end Go.Proofs.YtlpklloagaccoaaGreat.drainShares
