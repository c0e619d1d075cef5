/- Contracts, lemmas; no condition. -/
import Derived.Test.YtmollgldghpbkaaGreatRows
import Derived.WalkKit
import Derived.ProofKit
import Derived.OpenShut
import Derived.ShutString
import Derived.ChangeOld
import Derived.Below
set_option linter.all false
namespace Go.Proofs.YtmollgldghpbkaaGreat.coreClosed
open Go.ChangeShapes Go.WideShapes Go.ChangeAt Go.RowKit
set_option linter.unusedVariables false
theorem j13 : ((Rows.coreClosedRow.maps == (Tryz.f6.params.toList ++ Rows.coreClosedSpec.plain.varTypes Tryz.checked.prog).any (Tryz.checked.prog.mapsRec ·))) = true := by kernel_rfl
theorem j14 : ((Rows.coreClosedRow.ifaces == (Tryz.f6.params.toList ++ Rows.coreClosedSpec.plain.varTypes Tryz.checked.prog).any (Tryz.checked.prog.ifacesRec ·))) = true := by kernel_rfl
theorem j15 : ((Rows.coreClosedRow.mapsOut == Tryz.checked.prog.mapsAmong Tryz.f6.resultTypes.toList)) = true := by kernel_rfl
theorem j16 : ((Rows.coreClosedRow.loops == (Tryz.f6.params.toList ++ Rows.coreClosedSpec.plain.varTypes Tryz.checked.prog).any (Tryz.checked.prog.loopsFrom ·))) = true := by kernel_rfl
theorem j17 : ((Rows.coreClosedRow.wideKeys == (Tryz.f6.params.toList ++ Rows.coreClosedSpec.plain.varTypes Tryz.checked.prog ++ Tryz.f6.resultTypes.toList).any (Tryz.checked.prog.wideKeysFrom ·))) = true := by kernel_rfl
theorem j18 : (Rows.coreClosedSpec.vars.all (Tryz.checked.prog.varReadable ·)) = true := by kernel_rfl
theorem j19 : (Tryz.f6.resultTypes.all (fun t => Tryz.checked.prog.readableRec t && decide (t < Tryz.checked.prog.types.size))) = true := by kernel_rfl
theorem j20 : ((Rows.coreClosedRow.ifacesOut == Tryz.f6.resultTypes.toList.any (Tryz.checked.prog.ifacesRec ·))) = true := by kernel_rfl
theorem j21 : ((Rows.coreClosedRow.loopsOut == Tryz.f6.resultTypes.toList.any (Tryz.checked.prog.loopsFrom ·))) = true := by kernel_rfl
theorem j22 : ((Rows.coreClosedRow.plainKeys == Tryz.checked.prog.plainKeys)) = true := by kernel_rfl
theorem j23 : (Rows.coreClosedRow.shortTexts.isNone) = true := by kernel_rfl
end Go.Proofs.YtmollgldghpbkaaGreat.coreClosed
