/- Contracts, lemmas; no condition. -/
import Derived.Test.YtjjlblnbeggejaaGreatRows
import Derived.WalkKit
import Derived.ProofKit
import Derived.OpenShut
import Derived.ShutString
import Derived.ChangeOld
import Derived.Below
set_option linter.all false
namespace Go.Proofs.YtjjlblnbeggejaaGreat.laneFills
open Go.ChangeShapes Go.WideShapes Go.ChangeAt Go.RowKit
set_option linter.unusedVariables false
theorem j13 : ((Rows.laneFillsRow.maps == (Tryz.f7.params.toList ++ Rows.laneFillsSpec.plain.varTypes Tryz.checked.prog).any (Tryz.checked.prog.mapsRec ·))) = true := by kernel_rfl
theorem j14 : ((Rows.laneFillsRow.ifaces == (Tryz.f7.params.toList ++ Rows.laneFillsSpec.plain.varTypes Tryz.checked.prog).any (Tryz.checked.prog.ifacesRec ·))) = true := by kernel_rfl
theorem j15 : ((Rows.laneFillsRow.mapsOut == Tryz.checked.prog.mapsAmong Tryz.f7.resultTypes.toList)) = true := by kernel_rfl
theorem j16 : ((Rows.laneFillsRow.loops == (Tryz.f7.params.toList ++ Rows.laneFillsSpec.plain.varTypes Tryz.checked.prog).any (Tryz.checked.prog.loopsFrom ·))) = true := by kernel_rfl
theorem j17 : ((Rows.laneFillsRow.wideKeys == (Tryz.f7.params.toList ++ Rows.laneFillsSpec.plain.varTypes Tryz.checked.prog ++ Tryz.f7.resultTypes.toList).any (Tryz.checked.prog.wideKeysFrom ·))) = true := by kernel_rfl
theorem j18 : (Rows.laneFillsSpec.vars.all (Tryz.checked.prog.varReadable ·)) = true := by kernel_rfl
theorem j19 : (Tryz.f7.resultTypes.all (fun t => Tryz.checked.prog.readableRec t && decide (t < Tryz.checked.prog.types.size))) = true := by kernel_rfl
theorem j20 : ((Rows.laneFillsRow.ifacesOut == Tryz.f7.resultTypes.toList.any (Tryz.checked.prog.ifacesRec ·))) = true := by kernel_rfl
theorem j21 : ((Rows.laneFillsRow.loopsOut == Tryz.f7.resultTypes.toList.any (Tryz.checked.prog.loopsFrom ·))) = true := by kernel_rfl
theorem j22 : ((Rows.laneFillsRow.plainKeys == Tryz.checked.prog.plainKeys)) = true := by kernel_rfl
theorem j23 : (Rows.laneFillsRow.shortTexts.isNone) = true := by kernel_rfl
end Go.Proofs.YtjjlblnbeggejaaGreat.laneFills
