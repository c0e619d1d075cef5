/- Part of the proofs of laws of this seat: contracts and plain lemmas; no condition is added to a statement. -/
import Derived.Test.YtmollgldghpbkaaGreatRows
import Derived.WalkKit
import Derived.ProofKit
import Derived.OpenShut
import Derived.ShutString
import Derived.ChangeOld
import Derived.Below
set_option linter.unusedSimpArgs false
set_option linter.unusedVariables false
namespace Go.Proofs.YtmollgldghpbkaaGreat.coreEvents
open Go.ChangeShapes Go.WideShapes Go.ChangeAt Go.RowKit
set_option linter.unusedVariables false
theorem j13 : ((Rows.coreEventsRow.maps == (Tryz.f5.params.toList ++ Rows.coreEventsSpec.plain.varTypes Tryz.checked.prog).any (Tryz.checked.prog.mapsRec ·))) = true := by kernel_rfl
theorem j14 : ((Rows.coreEventsRow.ifaces == (Tryz.f5.params.toList ++ Rows.coreEventsSpec.plain.varTypes Tryz.checked.prog).any (Tryz.checked.prog.ifacesRec ·))) = true := by kernel_rfl
theorem j15 : ((Rows.coreEventsRow.mapsOut == Tryz.checked.prog.mapsAmong Tryz.f5.resultTypes.toList)) = true := by kernel_rfl
theorem j16 : ((Rows.coreEventsRow.loops == (Tryz.f5.params.toList ++ Rows.coreEventsSpec.plain.varTypes Tryz.checked.prog).any (Tryz.checked.prog.loopsFrom ·))) = true := by kernel_rfl
theorem j17 : ((Rows.coreEventsRow.wideKeys == (Tryz.f5.params.toList ++ Rows.coreEventsSpec.plain.varTypes Tryz.checked.prog ++ Tryz.f5.resultTypes.toList).any (Tryz.checked.prog.wideKeysFrom ·))) = true := by kernel_rfl
theorem j18 : (Rows.coreEventsSpec.vars.all (Tryz.checked.prog.varReadable ·)) = true := by kernel_rfl
theorem j19 : (Tryz.f5.resultTypes.all (fun t => Tryz.checked.prog.readableRec t && decide (t < Tryz.checked.prog.types.size))) = true := by kernel_rfl
theorem j20 : ((Rows.coreEventsRow.ifacesOut == Tryz.f5.resultTypes.toList.any (Tryz.checked.prog.ifacesRec ·))) = true := by kernel_rfl
theorem j21 : ((Rows.coreEventsRow.loopsOut == Tryz.f5.resultTypes.toList.any (Tryz.checked.prog.loopsFrom ·))) = true := by kernel_rfl
theorem j22 : ((Rows.coreEventsRow.plainKeys == Tryz.checked.prog.plainKeys)) = true := by kernel_rfl
theorem j23 : (Rows.coreEventsRow.shortTexts.isNone) = true := by kernel_rfl
end Go.Proofs.YtmollgldghpbkaaGreat.coreEvents







