/- Closed facts of DictTexts' row. No condition. -/
import Derived.Test.YtlpklloagaccoaaGreatRows
import Derived.WalkKit
import Derived.ProofKit
import Derived.OpenShut
namespace Go.Proofs.YtlpklloagaccoaaGreat.dictTexts
open Go.ChangeShapes Go.WideShapes Go.ChangeAt Go.RowKit
set_option linter.unusedVariables false

theorem f_inPlace : (Rows.dictTextsRow.inPlace == Tryz.prog.inPlace 9) = true := by kernel_rfl
theorem f_unfollowed : (Rows.dictTextsRow.unfollowed == Tryz.prog.unfollowed 9) = true := by kernel_rfl
end Go.Proofs.YtlpklloagaccoaaGreat.dictTexts
