/- Closed facts of DictTexts' row. No condition. -/
import Derived.Test.YtlpklloagaccoaaGreatRows
import Derived.WalkKit
import Derived.ProofKit
import Derived.OpenShut
namespace Go.Proofs.YtlpklloagaccoaaGreat.dictTexts
open Go.ChangeShapes Go.WideShapes Go.ChangeAt Go.RowKit
set_option linter.unusedVariables false

theorem f_recurses : (Rows.dictTextsRow.recurses == Tryz.prog.recurses 9) = true := by kernel_rfl
theorem f_named : (Rows.dictTextsRow.named == Tryz.prog.varsNamed 9) = true := by kernel_rfl
end Go.Proofs.YtlpklloagaccoaaGreat.dictTexts
