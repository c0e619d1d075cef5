/- Contracts, lemmas; no condition. -/
import Derived.Test.YtjjlblnbeggejaaGreatRows
import Derived.WalkKit
import Derived.ProofKit
import Derived.OpenShut
import Derived.ShutString
import Derived.ChangeOld
import Derived.Below
set_option linter.all false
namespace Go.Proofs.YtjjlblnbeggejaaGreat.readerAnswers
open Go.ChangeShapes Go.WideShapes Go.ChangeAt Go.RowKit
set_option linter.unusedVariables false
theorem j0 : (Rows.readerAnswersRow.wf (OpenSpec.ofChange Rows.readerAnswersSpec)) = true := by kernel_rfl
theorem j1 : (laidOutB Tryz.checked.prog) = true := by kernel_rfl
theorem j2 : (mapsRowed Tryz.checked.prog) = true := by kernel_rfl
theorem j3 : (Tryz.f6.params.all (Tryz.checked.prog.readableRec ·)) = true := by kernel_rfl
theorem j4 : (namedTie Tryz.checked.prog Rows.readerAnswersRow.named Rows.readerAnswersSpec.vars) = true := by kernel_rfl
theorem j5 : ((Rows.readerAnswersRow.stops == [])) = true := by kernel_rfl
theorem j6 : ((Tryz.checked.prog.stops == [])) = true := by kernel_rfl
theorem j7 : ((Rows.readerAnswersRow.knobs == [])) = true := by kernel_rfl
theorem j8 : ((Tryz.checked.prog.stopKnobs == [])) = true := by kernel_rfl
theorem j9 : ((Rows.readerAnswersRow.inPlace == Tryz.checked.prog.inPlace 6)) = true := by kernel_rfl
theorem j10 : ((Rows.readerAnswersRow.unfollowed == Tryz.checked.prog.unfollowed 6)) = true := by kernel_rfl
theorem j11 : ((Rows.readerAnswersRow.recurses == Tryz.checked.prog.recurses 6)) = true := by kernel_rfl
theorem j12 : ((Rows.readerAnswersRow.named == Tryz.checked.prog.varsNamed 6)) = true := by kernel_rfl
end Go.Proofs.YtjjlblnbeggejaaGreat.readerAnswers
