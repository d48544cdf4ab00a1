/- Closed facts of TrialSticks' row. No condition. -/
import Derived.Test.YtlpklloagaccoaaGreatRows
import Derived.WalkKit
import Derived.ProofKit
import Derived.OpenShut
namespace Go.Proofs.YtlpklloagaccoaaGreat.trialSticks
open Go.ChangeShapes Go.WideShapes Go.ChangeAt Go.RowKit
set_option linter.unusedVariables false

theorem f_recurses : (Rows.trialSticksRow.recurses == Tryz.prog.recurses 23) = true := by kernel_rfl
theorem f_named : (Rows.trialSticksRow.named == Tryz.prog.varsNamed 23) = true := by kernel_rfl
end Go.Proofs.YtlpklloagaccoaaGreat.trialSticks
