/- Contracts and plain lemmas of this seat; no condition. -/
import Derived.Test.YtmollgldghpbkaaGreatRows
import Derived.WalkKit
import Derived.ProofKit
import Derived.OpenShut
import Derived.ShutString
import Derived.ChangeOld
import Derived.Below
set_option linter.unusedSimpArgs false
set_option linter.unusedVariables false
namespace Go.Proofs.YtmollgldghpbkaaGreat.coreCut
open Go.ChangeShapes Go.WideShapes Go.ChangeAt Go.RowKit
set_option linter.unusedVariables false
theorem j13 : ((Rows.coreCutRow.maps == (Tryz.f7.params.toList ++ Rows.coreCutSpec.plain.varTypes Tryz.checked.prog).any (Tryz.checked.prog.mapsRec ·))) = true := by kernel_rfl
theorem j14 : ((Rows.coreCutRow.ifaces == (Tryz.f7.params.toList ++ Rows.coreCutSpec.plain.varTypes Tryz.checked.prog).any (Tryz.checked.prog.ifacesRec ·))) = true := by kernel_rfl
theorem j15 : ((Rows.coreCutRow.mapsOut == Tryz.checked.prog.mapsAmong Tryz.f7.resultTypes.toList)) = true := by kernel_rfl
theorem j16 : ((Rows.coreCutRow.loops == (Tryz.f7.params.toList ++ Rows.coreCutSpec.plain.varTypes Tryz.checked.prog).any (Tryz.checked.prog.loopsFrom ·))) = true := by kernel_rfl
theorem j17 : ((Rows.coreCutRow.wideKeys == (Tryz.f7.params.toList ++ Rows.coreCutSpec.plain.varTypes Tryz.checked.prog ++ Tryz.f7.resultTypes.toList).any (Tryz.checked.prog.wideKeysFrom ·))) = true := by kernel_rfl
theorem j18 : (Rows.coreCutSpec.vars.all (Tryz.checked.prog.varReadable ·)) = true := by kernel_rfl
theorem j19 : (Tryz.f7.resultTypes.all (fun t => Tryz.checked.prog.readableRec t && decide (t < Tryz.checked.prog.types.size))) = true := by kernel_rfl
theorem j20 : ((Rows.coreCutRow.ifacesOut == Tryz.f7.resultTypes.toList.any (Tryz.checked.prog.ifacesRec ·))) = true := by kernel_rfl
theorem j21 : ((Rows.coreCutRow.loopsOut == Tryz.f7.resultTypes.toList.any (Tryz.checked.prog.loopsFrom ·))) = true := by kernel_rfl
theorem j22 : ((Rows.coreCutRow.plainKeys == Tryz.checked.prog.plainKeys)) = true := by kernel_rfl
theorem j23 : (Rows.coreCutRow.shortTexts.isNone) = true := by kernel_rfl
end Go.Proofs.YtmollgldghpbkaaGreat.coreCut





