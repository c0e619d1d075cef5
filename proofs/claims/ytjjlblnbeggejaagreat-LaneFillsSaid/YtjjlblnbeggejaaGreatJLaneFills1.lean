/- Contracts, lemmas; no condition. -/
import Derived.Test.YtjjlblnbeggejaaGreatRows
import Derived.WalkKit
import Derived.ProofKit
import Derived.OpenShut
import Derived.ShutString
import Derived.ChangeOld
import Derived.Below
set_option linter.all false
namespace Go.Proofs.YtjjlblnbeggejaaGreat.laneFills
open Go.ChangeShapes Go.WideShapes Go.ChangeAt Go.RowKit
set_option linter.unusedVariables false
theorem j0 : (Rows.laneFillsRow.wf (OpenSpec.ofChange Rows.laneFillsSpec)) = true := by kernel_rfl
theorem j1 : (laidOutB Tryz.checked.prog) = true := by kernel_rfl
theorem j2 : (mapsRowed Tryz.checked.prog) = true := by kernel_rfl
theorem j3 : (Tryz.f7.params.all (Tryz.checked.prog.readableRec ·)) = true := by kernel_rfl
theorem j4 : (namedTie Tryz.checked.prog Rows.laneFillsRow.named Rows.laneFillsSpec.vars) = true := by kernel_rfl
theorem j5 : ((Rows.laneFillsRow.stops == [])) = true := by kernel_rfl
theorem j6 : ((Tryz.checked.prog.stops == [])) = true := by kernel_rfl
theorem j7 : ((Rows.laneFillsRow.knobs == [])) = true := by kernel_rfl
theorem j8 : ((Tryz.checked.prog.stopKnobs == [])) = true := by kernel_rfl
theorem j9 : ((Rows.laneFillsRow.inPlace == Tryz.checked.prog.inPlace 7)) = true := by kernel_rfl
theorem j10 : ((Rows.laneFillsRow.unfollowed == Tryz.checked.prog.unfollowed 7)) = true := by kernel_rfl
theorem j11 : ((Rows.laneFillsRow.recurses == Tryz.checked.prog.recurses 7)) = true := by kernel_rfl
theorem j12 : ((Rows.laneFillsRow.named == Tryz.checked.prog.varsNamed 7)) = true := by kernel_rfl
end Go.Proofs.YtjjlblnbeggejaaGreat.laneFills
