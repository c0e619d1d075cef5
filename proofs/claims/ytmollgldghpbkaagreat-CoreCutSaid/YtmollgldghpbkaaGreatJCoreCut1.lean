/- Contracts and plain lemmas of this seat; no condition. -/
import Derived.Test.YtmollgldghpbkaaGreatRows
import Derived.WalkKit
import Derived.ProofKit
import Derived.OpenShut
import Derived.ShutString
import Derived.ChangeOld
import Derived.Below
set_option linter.unusedSimpArgs false
set_option linter.unusedVariables false
namespace Go.Proofs.YtmollgldghpbkaaGreat.coreCut
open Go.ChangeShapes Go.WideShapes Go.ChangeAt Go.RowKit
set_option linter.unusedVariables false
theorem j0 : (Rows.coreCutRow.wf (OpenSpec.ofChange Rows.coreCutSpec)) = true := by kernel_rfl
theorem j1 : (laidOutB Tryz.checked.prog) = true := by kernel_rfl
theorem j2 : (mapsRowed Tryz.checked.prog) = true := by kernel_rfl
theorem j3 : (Tryz.f7.params.all (Tryz.checked.prog.readableRec ·)) = true := by kernel_rfl
theorem j4 : (namedTie Tryz.checked.prog Rows.coreCutRow.named Rows.coreCutSpec.vars) = true := by kernel_rfl
theorem j5 : ((Rows.coreCutRow.stops == [])) = true := by kernel_rfl
theorem j6 : ((Tryz.checked.prog.stops == [])) = true := by kernel_rfl
theorem j7 : ((Rows.coreCutRow.knobs == [])) = true := by kernel_rfl
theorem j8 : ((Tryz.checked.prog.stopKnobs == [])) = true := by kernel_rfl
theorem j9 : ((Rows.coreCutRow.inPlace == Tryz.checked.prog.inPlace 7)) = true := by kernel_rfl
theorem j10 : ((Rows.coreCutRow.unfollowed == Tryz.checked.prog.unfollowed 7)) = true := by kernel_rfl
theorem j11 : ((Rows.coreCutRow.recurses == Tryz.checked.prog.recurses 7)) = true := by kernel_rfl
theorem j12 : ((Rows.coreCutRow.named == Tryz.checked.prog.varsNamed 7)) = true := by kernel_rfl
end Go.Proofs.YtmollgldghpbkaaGreat.coreCut





