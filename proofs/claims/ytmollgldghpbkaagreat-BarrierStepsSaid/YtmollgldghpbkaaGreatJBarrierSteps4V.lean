/- Contracts, lemmas; no condition. -/
import Derived.Test.YtmollgldghpbkaaGreatRows
import Derived.WalkKit
import Derived.ProofKit
import Derived.OpenShut
import Derived.ShutString
import Derived.ChangeOld
import Derived.Below
set_option linter.all false
namespace Go.Proofs.YtmollgldghpbkaaGreat.barrierSteps
open Go.ChangeShapes Go.WideShapes Go.ChangeAt Go.RowKit
set_option linter.unusedVariables false
theorem named : Tryz.checked.prog.funcNamed Rows.barrierStepsRow.func = some 3 := by kernel_rfl
theorem inst : Tryz.f3.isInstance Tryz.checked.prog Rows.barrierStepsRow.origin Rows.barrierStepsRow.targs := of_decide_eq_true (by kernel_rfl)
theorem wrap : Tryz.f3.isWrapper Tryz.checked.prog Rows.barrierStepsRow.wrapper Rows.barrierStepsRow.mainSum := by unfold Func.isWrapper; first | (rw [if_pos (by decide +kernel)]; kernel_rfl) | (rw [if_neg (by decide +kernel)]; exact ⟨rfl, rfl⟩)
end Go.Proofs.YtmollgldghpbkaaGreat.barrierSteps
