/- Contracts, lemmas; no condition. -/
import Derived.Test.YtmollgldghpbkaaGreatRows
import Derived.WalkKit
import Derived.ProofKit
import Derived.OpenShut
import Derived.ShutString
import Derived.ChangeOld
import Derived.Below
set_option linter.all false
namespace Go.Proofs.YtmollgldghpbkaaGreat.barrierSteps
open Go.ChangeShapes Go.WideShapes Go.ChangeAt Go.RowKit
set_option linter.unusedVariables false
theorem j0 : (Rows.barrierStepsRow.wf (OpenSpec.ofChange Rows.barrierStepsSpec)) = true := by kernel_rfl
theorem j1 : (laidOutB Tryz.checked.prog) = true := by kernel_rfl
theorem j2 : (mapsRowed Tryz.checked.prog) = true := by kernel_rfl
theorem j3 : (Tryz.f3.params.all (Tryz.checked.prog.readableRec ·)) = true := by kernel_rfl
theorem j4 : (namedTie Tryz.checked.prog Rows.barrierStepsRow.named Rows.barrierStepsSpec.vars) = true := by kernel_rfl
theorem j5 : ((Rows.barrierStepsRow.stops == [])) = true := by kernel_rfl
theorem j6 : ((Tryz.checked.prog.stops == [])) = true := by kernel_rfl
theorem j7 : ((Rows.barrierStepsRow.knobs == [])) = true := by kernel_rfl
theorem j8 : ((Tryz.checked.prog.stopKnobs == [])) = true := by kernel_rfl
theorem j9 : ((Rows.barrierStepsRow.inPlace == Tryz.checked.prog.inPlace 3)) = true := by kernel_rfl
theorem j10 : ((Rows.barrierStepsRow.unfollowed == Tryz.checked.prog.unfollowed 3)) = true := by kernel_rfl
theorem j11 : ((Rows.barrierStepsRow.recurses == Tryz.checked.prog.recurses 3)) = true := by kernel_rfl
theorem j12 : ((Rows.barrierStepsRow.named == Tryz.checked.prog.varsNamed 3)) = true := by kernel_rfl
end Go.Proofs.YtmollgldghpbkaaGreat.barrierSteps
