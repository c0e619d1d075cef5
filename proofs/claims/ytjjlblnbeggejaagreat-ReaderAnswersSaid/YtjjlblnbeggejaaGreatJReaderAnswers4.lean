/- Contracts, lemmas; no condition. -/
import Derived.Test.YtjjlblnbeggejaaGreatRows
import Derived.WalkKit
import Derived.ProofKit
import Derived.OpenShut
import Derived.ShutString
import Derived.ChangeOld
import Derived.Below
set_option linter.all false
namespace Go.Proofs.YtjjlblnbeggejaaGreat.readerAnswers
open Go.ChangeShapes Go.WideShapes Go.ChangeAt Go.RowKit
set_option linter.unusedVariables false
theorem named : Tryz.checked.prog.funcNamed Rows.readerAnswersRow.func = some 6 := by kernel_rfl
theorem inst : Tryz.f6.isInstance Tryz.checked.prog Rows.readerAnswersRow.origin Rows.readerAnswersRow.targs := of_decide_eq_true (by kernel_rfl)
theorem wrap : Tryz.f6.isWrapper Tryz.checked.prog Rows.readerAnswersRow.wrapper Rows.readerAnswersRow.mainSum := by unfold Func.isWrapper; first | (rw [if_pos (by decide +kernel)]; kernel_rfl) | (rw [if_neg (by decide +kernel)]; exact ⟨rfl, rfl⟩)
end Go.Proofs.YtjjlblnbeggejaaGreat.readerAnswers
