/- Contracts, lemmas; no condition. -/
import Derived.Test.YtmollgldghpbkaaGreatRows
import Derived.WalkKit
import Derived.ProofKit
import Derived.OpenShut
import Derived.ShutString
import Derived.ChangeOld
import Derived.Below
set_option linter.all false
namespace Go.Proofs.YtmollgldghpbkaaGreat.barrierWaits
open Go.ChangeShapes Go.WideShapes Go.ChangeAt Go.RowKit
set_option linter.unusedVariables false
theorem j0 : (Rows.barrierWaitsRow.wf (OpenSpec.ofChange Rows.barrierWaitsSpec)) = true := by kernel_rfl
theorem j1 : (laidOutB Tryz.checked.prog) = true := by kernel_rfl
theorem j2 : (mapsRowed Tryz.checked.prog) = true := by kernel_rfl
theorem j3 : (Tryz.f4.params.all (Tryz.checked.prog.readableRec ·)) = true := by kernel_rfl
theorem j4 : (namedTie Tryz.checked.prog Rows.barrierWaitsRow.named Rows.barrierWaitsSpec.vars) = true := by kernel_rfl
theorem j5 : ((Rows.barrierWaitsRow.stops == [])) = true := by kernel_rfl
theorem j6 : ((Tryz.checked.prog.stops == [])) = true := by kernel_rfl
theorem j7 : ((Rows.barrierWaitsRow.knobs == [])) = true := by kernel_rfl
theorem j8 : ((Tryz.checked.prog.stopKnobs == [])) = true := by kernel_rfl
theorem j9 : ((Rows.barrierWaitsRow.inPlace == Tryz.checked.prog.inPlace 4)) = true := by kernel_rfl
theorem j10 : ((Rows.barrierWaitsRow.unfollowed == Tryz.checked.prog.unfollowed 4)) = true := by kernel_rfl
theorem j11 : ((Rows.barrierWaitsRow.recurses == Tryz.checked.prog.recurses 4)) = true := by kernel_rfl
theorem j12 : ((Rows.barrierWaitsRow.named == Tryz.checked.prog.varsNamed 4)) = true := by kernel_rfl
end Go.Proofs.YtmollgldghpbkaaGreat.barrierWaits
