/- Closed facts of TrialRings' row. No condition. -/
import Derived.Test.YtlpklloagaccoaaGreatRows
import Derived.WalkKit
import Derived.ProofKit
import Derived.OpenShut
namespace Go.Proofs.YtlpklloagaccoaaGreat.trialRings
open Go.ChangeShapes Go.WideShapes Go.ChangeAt Go.RowKit
set_option linter.unusedVariables false

theorem f_recurses : (Rows.trialRingsRow.recurses == Tryz.prog.recurses 22) = true := by kernel_rfl
theorem f_named : (Rows.trialRingsRow.named == Tryz.prog.varsNamed 22) = true := by kernel_rfl
end Go.Proofs.YtlpklloagaccoaaGreat.trialRings
