/- Part of the proofs of laws of this seat: contracts and plain lemmas; no condition is added to a statement. -/
import Derived.Test.YtmollgldghpbkaaGreatRows
import Derived.WalkKit
import Derived.ProofKit
import Derived.OpenShut
import Derived.ShutString
import Derived.ChangeOld
import Derived.Below
set_option linter.unusedSimpArgs false
set_option linter.unusedVariables false
namespace Go.Proofs.YtmollgldghpbkaaGreat.coreEvents
open Go.ChangeShapes Go.WideShapes Go.ChangeAt Go.RowKit
set_option linter.unusedVariables false
theorem j0 : (Rows.coreEventsRow.wf (OpenSpec.ofChange Rows.coreEventsSpec)) = true := by kernel_rfl
theorem j1 : (laidOutB Tryz.checked.prog) = true := by kernel_rfl
theorem j2 : (mapsRowed Tryz.checked.prog) = true := by kernel_rfl
theorem j3 : (Tryz.f5.params.all (Tryz.checked.prog.readableRec ·)) = true := by kernel_rfl
theorem j4 : (namedTie Tryz.checked.prog Rows.coreEventsRow.named Rows.coreEventsSpec.vars) = true := by kernel_rfl
theorem j5 : ((Rows.coreEventsRow.stops == [])) = true := by kernel_rfl
theorem j6 : ((Tryz.checked.prog.stops == [])) = true := by kernel_rfl
theorem j7 : ((Rows.coreEventsRow.knobs == [])) = true := by kernel_rfl
theorem j8 : ((Tryz.checked.prog.stopKnobs == [])) = true := by kernel_rfl
theorem j9 : ((Rows.coreEventsRow.inPlace == Tryz.checked.prog.inPlace 5)) = true := by kernel_rfl
theorem j10 : ((Rows.coreEventsRow.unfollowed == Tryz.checked.prog.unfollowed 5)) = true := by kernel_rfl
theorem j11 : ((Rows.coreEventsRow.recurses == Tryz.checked.prog.recurses 5)) = true := by kernel_rfl
theorem j12 : ((Rows.coreEventsRow.named == Tryz.checked.prog.varsNamed 5)) = true := by kernel_rfl
end Go.Proofs.YtmollgldghpbkaaGreat.coreEvents







