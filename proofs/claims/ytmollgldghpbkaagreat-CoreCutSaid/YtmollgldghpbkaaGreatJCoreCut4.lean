/- Contracts and plain lemmas of this seat; no condition. -/
import Derived.Test.YtmollgldghpbkaaGreatRows
import Derived.WalkKit
import Derived.ProofKit
import Derived.OpenShut
import Derived.ShutString
import Derived.ChangeOld
import Derived.Below
set_option linter.unusedSimpArgs false
set_option linter.unusedVariables false
namespace Go.Proofs.YtmollgldghpbkaaGreat.coreCut
open Go.ChangeShapes Go.WideShapes Go.ChangeAt Go.RowKit
set_option linter.unusedVariables false
theorem named : Tryz.checked.prog.funcNamed Rows.coreCutRow.func = some 7 := by kernel_rfl
theorem inst : Tryz.f7.isInstance Tryz.checked.prog Rows.coreCutRow.origin Rows.coreCutRow.targs := of_decide_eq_true (by kernel_rfl)
theorem wrap : Tryz.f7.isWrapper Tryz.checked.prog Rows.coreCutRow.wrapper Rows.coreCutRow.mainSum := by unfold Func.isWrapper; first | (rw [if_pos (by decide +kernel)]; kernel_rfl) | (rw [if_neg (by decide +kernel)]; exact ⟨rfl, rfl⟩)
end Go.Proofs.YtmollgldghpbkaaGreat.coreCut





