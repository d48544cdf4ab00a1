/- Closed facts of TrialTells' row. No condition. -/
import Derived.Test.YtlpklloagaccoaaGreatRows
import Derived.WalkKit
import Derived.ProofKit
import Derived.OpenShut
namespace Go.Proofs.YtlpklloagaccoaaGreat.trialTells
open Go.ChangeShapes Go.WideShapes Go.ChangeAt Go.RowKit
set_option linter.unusedVariables false

theorem f_recurses : (Rows.trialTellsRow.recurses == Tryz.prog.recurses 25) = true := by kernel_rfl
theorem f_named : (Rows.trialTellsRow.named == Tryz.prog.varsNamed 25) = true := by kernel_rfl
end Go.Proofs.YtlpklloagaccoaaGreat.trialTells
