/- Closed facts of TrialWeak' row. No condition. -/
import Derived.Test.YtlpklloagaccoaaGreatRows
import Derived.WalkKit
import Derived.ProofKit
import Derived.OpenShut
namespace Go.Proofs.YtlpklloagaccoaaGreat.trialWeak
open Go.ChangeShapes Go.WideShapes Go.ChangeAt Go.RowKit
set_option linter.unusedVariables false

theorem f_recurses : (Rows.trialWeakRow.recurses == Tryz.prog.recurses 24) = true := by kernel_rfl
theorem f_named : (Rows.trialWeakRow.named == Tryz.prog.varsNamed 24) = true := by kernel_rfl
end Go.Proofs.YtlpklloagaccoaaGreat.trialWeak
