/- Part of the proofs of laws of this seat: contracts and plain lemmas; no condition is added to a statement. -/
import Derived.Test.YtmpoogflpmaijaaGreatLinC
import Derived.Test.YtmpoogflpmaijaaGreatLi7
import Derived.Test.YtmpoogflpmaijaaGreatP2
set_option linter.unusedSimpArgs false
set_option linter.unusedVariables false
open Go Go.Am
namespace Go.Proofs
def five : ByteArray := valueS 5
def wA : Evt := { ret := false, queue := 0, serial := 1, kind := 2, block := 0, data := five, err := 0, rdata := ByteArray.empty }
def rA (s : Int) : Evt := { ret := false, queue := 0, serial := s, kind := 1, block := 0, data := ByteArray.empty, err := 0, rdata := ByteArray.empty }
def ansA (x : Evt) (d : ByteArray) : Evt := { x with ret := true, rdata := d }
def histN : List Evt := [wA, rA 2, ansA (rA 2) five, rA 3, ansA (rA 3) zeroB, ansA wA ByteArray.empty]
def histY : List Evt := [wA, rA 2, ansA (rA 2) zeroB, rA 3, ansA (rA 3) five, ansA wA ByteArray.empty]
set_option maxRecDepth 100000
theorem five_zero : five ≠ zeroB := by decide +kernel
theorem histN_single : singleM zeroB histN = true := by decide +kernel
theorem histY_single : singleM zeroB histY = true := by decide +kernel
theorem histN_ends : endsM zeroB histN true = [] := by decide +kernel
theorem histY_ends1 : endsM zeroB histY true = [(five, [2, 1, 3])] := by decide +kernel
theorem histY_ends : endsM zeroB histY false = [(five, [2, 1, 3])] := by decide +kernel
theorem histY_check : lcheckM [zeroB] histY [2, 1, 3] = 0 := by decide +kernel
theorem sortB_one (v : ByteArray) : sortB [v] = [v] := List.perm_singleton.1 (sortB_perm [v])
theorem histN_block : blockM zeroB histN = ([], false) := by unfold blockM; rw [if_pos histN_single, histN_ends]
theorem histY_block : blockM zeroB histY = ([2, 1, 3], true) := by unfold blockM; rw [if_pos histY_single, histY_ends1]
theorem histY_values : valuesM zeroB histY = [five] := by unfold valuesM; rw [if_pos histY_single, histY_ends]; exact sortB_one _
end Go.Proofs
