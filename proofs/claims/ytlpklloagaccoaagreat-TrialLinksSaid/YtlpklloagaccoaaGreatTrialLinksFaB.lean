/- Closed facts of TrialLinks' row. No condition. -/
import Derived.Test.YtlpklloagaccoaaGreatRows
import Derived.WalkKit
import Derived.ProofKit
import Derived.OpenShut
namespace Go.Proofs.YtlpklloagaccoaaGreat.trialLinks
open Go.ChangeShapes Go.WideShapes Go.ChangeAt Go.RowKit
set_option linter.unusedVariables false

theorem f_recurses : (Rows.trialLinksRow.recurses == Tryz.prog.recurses 20) = true := by kernel_rfl
theorem f_named : (Rows.trialLinksRow.named == Tryz.prog.varsNamed 20) = true := by kernel_rfl
end Go.Proofs.YtlpklloagaccoaaGreat.trialLinks
