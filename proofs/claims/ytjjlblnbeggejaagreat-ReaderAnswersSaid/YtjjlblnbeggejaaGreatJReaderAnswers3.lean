/- Contracts, lemmas; no condition. -/
import Derived.Test.YtjjlblnbeggejaaGreatRows
import Derived.WalkKit
import Derived.ProofKit
import Derived.OpenShut
import Derived.ShutString
import Derived.ChangeOld
import Derived.Below
import Derived.Test.YtjjlblnbeggejaaGreatJReaderAnswers1
import Derived.Test.YtjjlblnbeggejaaGreatJReaderAnswers2
set_option linter.all false
namespace Go.Proofs.YtjjlblnbeggejaaGreat.readerAnswers
open Go.ChangeShapes Go.WideShapes Go.ChangeAt Go.RowKit
set_option linter.unusedVariables false
theorem j24 : (Tryz.checked.prog.stopsHeard) = true := by kernel_rfl
theorem j25 : (Tryz.checked.prog.mayEnter) = true := by kernel_rfl
theorem j26 : ((Rows.readerAnswersRow.lifted == Tryz.checked.prog.liftsFinal)) = true := by kernel_rfl
theorem j27 : ((Tryz.checked.prog.make == some Rows.readerAnswersRow.make)) = true := by kernel_rfl
theorem j28 : ((Rows.readerAnswersRow.kinds == (if Rows.readerAnswersRow.domain.isEmpty then [] else Tryz.f6.params.toList.map fun t => match Tryz.checked.prog.underlying t with | some (.int k) => some k | _ => none))) = true := by kernel_rfl
theorem j29 : ((Rows.readerAnswersRow.pinned == Rows.readerAnswersRow.pinnedBy)) = true := by kernel_rfl
theorem j30 : ((Rows.readerAnswersRow.veiled == (Tryz.f6.params.toList ++ Rows.readerAnswersSpec.plain.varTypes Tryz.checked.prog ++ Tryz.f6.resultTypes.toList).any (Tryz.checked.prog.veiledRec ·))) = true := by kernel_rfl
theorem j31 : (Rows.readerAnswersRow.veiledFits Tryz.checked.prog Tryz.f6.params.toList (Tryz.f6.params.toList ++ Rows.readerAnswersSpec.plain.varTypes Tryz.checked.prog ++ Tryz.f6.resultTypes.toList)) = true := by kernel_rfl
theorem both {a b : Bool} (h : a = true) (k : b = true) : (a && b) = true := by subst h; subst k; rfl
set_option maxRecDepth 100000 in
theorem closed : joinedFacts Tryz.checked.prog 6 Tryz.f6 Rows.readerAnswersSpec Rows.readerAnswersRow = true := by
 unfold joinedFacts
 exact (both (both (both (both (both (both (both (both (both (both (both (both (both (both (both (both (both (both (both (both (both (both (both (both (both (both (both (both (both (both (both j0 j1) j2) j3) j4) j5) j6) j7) j8) j9) j10) j11) j12) j13) j14) j15) j16) j17) j18) j19) j20) j21) j22) j23) j24) j25) j26) j27) j28) j29) j30) j31)
end Go.Proofs.YtjjlblnbeggejaaGreat.readerAnswers
