/- Contracts, lemmas; no condition. -/
import Derived.Test.YtmollgldghpbkaaGreatRows
import Derived.WalkKit
import Derived.ProofKit
import Derived.OpenShut
import Derived.ShutString
import Derived.ChangeOld
import Derived.Below
set_option linter.all false
namespace Go.Proofs.YtmollgldghpbkaaGreat.barrierWaits
open Go.ChangeShapes Go.WideShapes Go.ChangeAt Go.RowKit
set_option linter.unusedVariables false
theorem j13 : ((Rows.barrierWaitsRow.maps == (Tryz.f4.params.toList ++ Rows.barrierWaitsSpec.plain.varTypes Tryz.checked.prog).any (Tryz.checked.prog.mapsRec ·))) = true := by kernel_rfl
theorem j14 : ((Rows.barrierWaitsRow.ifaces == (Tryz.f4.params.toList ++ Rows.barrierWaitsSpec.plain.varTypes Tryz.checked.prog).any (Tryz.checked.prog.ifacesRec ·))) = true := by kernel_rfl
theorem j15 : ((Rows.barrierWaitsRow.mapsOut == Tryz.checked.prog.mapsAmong Tryz.f4.resultTypes.toList)) = true := by kernel_rfl
theorem j16 : ((Rows.barrierWaitsRow.loops == (Tryz.f4.params.toList ++ Rows.barrierWaitsSpec.plain.varTypes Tryz.checked.prog).any (Tryz.checked.prog.loopsFrom ·))) = true := by kernel_rfl
theorem j17 : ((Rows.barrierWaitsRow.wideKeys == (Tryz.f4.params.toList ++ Rows.barrierWaitsSpec.plain.varTypes Tryz.checked.prog ++ Tryz.f4.resultTypes.toList).any (Tryz.checked.prog.wideKeysFrom ·))) = true := by kernel_rfl
theorem j18 : (Rows.barrierWaitsSpec.vars.all (Tryz.checked.prog.varReadable ·)) = true := by kernel_rfl
theorem j19 : (Tryz.f4.resultTypes.all (fun t => Tryz.checked.prog.readableRec t && decide (t < Tryz.checked.prog.types.size))) = true := by kernel_rfl
theorem j20 : ((Rows.barrierWaitsRow.ifacesOut == Tryz.f4.resultTypes.toList.any (Tryz.checked.prog.ifacesRec ·))) = true := by kernel_rfl
theorem j21 : ((Rows.barrierWaitsRow.loopsOut == Tryz.f4.resultTypes.toList.any (Tryz.checked.prog.loopsFrom ·))) = true := by kernel_rfl
theorem j22 : ((Rows.barrierWaitsRow.plainKeys == Tryz.checked.prog.plainKeys)) = true := by kernel_rfl
theorem j23 : (Rows.barrierWaitsRow.shortTexts.isNone) = true := by kernel_rfl
end Go.Proofs.YtmollgldghpbkaaGreat.barrierWaits
