/- Part of the proofs of laws of this seat: contracts and plain lemmas; no condition is added to a statement. -/
import Derived.Test.YtbdhjlanfigdgaaMediaV
import Derived.Test.YtbdhjlanfigdgaaMakeBV
import Derived.Test.YtbdhjlanfigdgaaX1V
set_option linter.unusedSimpArgs false
set_option linter.unusedVariables false
open Go Go.Am
namespace Go.Proofs
def rollA : List Int := [0, 0, 0, 0, 8, 0, 0, 0, 0]
def dA3 : DiceM := ⟨rollA, 3⟩
theorem checkR_data {b v : Int} {p : ByteArray} (hb : 0 ≤ b ∧ b ≤ 4294967295) (hv : 0 ≤ v ∧ v ≤ 1099511627776) (hp : p.size = 16) : checkR ⟨1, b, v, 0, p⟩ = 0 := by
  simp only [checkR]
  rw [if_pos (by simp), if_pos (by simp only [decide_eq_true_eq]; omega), if_pos (by simp only [decide_eq_true_eq]; omega)]
theorem checkR_trim {b v : Int} {p : ByteArray} (hb : 0 ≤ b ∧ b ≤ 4294967295) (hv : 0 ≤ v ∧ v ≤ 1099511627776) (hp : p.size = 0) : checkR ⟨2, b, v, 0, p⟩ = 0 := by
  simp only [checkR]
  rw [if_pos (by simp), if_pos (by simp only [decide_eq_true_eq]; omega), if_pos (by simp only [decide_eq_true_eq]; omega)]
theorem cmdS_size (d : DiceM) : (cmdS d).size = 40 := by
  unfold cmdS
  refine encR_size ?_
  have h1 := d.step.step.next_range (n := 40) (by omega) (by omega)
  have h2 := d.step.step.step.next_range (n := 5) (by omega) (by omega)
  rw [wrap_id _ (by omega) (by omega)]
  unfold recR
  split
  · exact checkR_trim (by omega) (by omega) rfl
  · exact checkR_data (by omega) (by omega) (valueS_size _)
theorem deviceA : deviceD rollA = dB (cmdS dA3) := by
  have e0 : deviceD rollA = devF 9 dA3 (newX 2 3 1 2) 2 := by rfl
  have e1 : devF 9 dA3 (newX 2 3 1 2) 2 = devF 8 (cmdD dA3 2) (cmdX dA3 (newX 2 3 1 2) 2) 2 := by rfl
  have e2 : ∀ x, devF 8 (cmdD dA3 2) x 2 = x := fun x => by rfl
  have e3 : cmdX dA3 (newX 2 3 1 2) 2 = appendD (newX 2 3 1 2) 0 (cmdS dA3) := by rfl
  rw [e0, e1, e2, e3]
  exact (dA_app (cmdS_size _)).2.2

def dS (s : ByteArray) : Dev := ⟨3, 1, 2, [⟨1, 1, [s]⟩, zone0]⟩
def dL : Dev := ⟨3, 1, 2, [zone0, zone0]⟩
def dK (s : ByteArray) : Dev := ⟨3, 1, 2, [⟨3, 1, [s]⟩, zone0]⟩
section
variable {s : ByteArray} (h : s.size = 40)
include h
theorem dB_crash : crashD (dB s) [] = dL := by
  simp only [crashD, dB_check h]
  rfl
theorem dB_sync : syncD (dB s) = dS s := by
  simp only [syncD, dB_check h]
  rfl
theorem dS_check : check (dS s) = 0 := by
  simp [check, dS, confOk, right, zone0, secsOk, h, cntOpen, cntActive, isOpen, isActive]
theorem dS_crash : crashD (dS s) [] = dK s := by
  simp only [crashD, dS_check h]
  rfl
end

set_option maxRecDepth 100000 in
theorem awake6_spec : PSpec Try.prog 14 [] (.c (.bool true)) := by
  obtain ⟨s, hs, hd⟩ : ∃ s : ByteArray, s.size = 40 ∧ deviceD rollA = dB s := ⟨_, cmdS_size dA3, deviceA⟩
  have A1 := device_spec rollA (by decide)
  rw [hd] at A1
  have A2 := crash_spec (dB s) []
  rw [dB_crash hs, dB_check hs] at A2
  have A3 := sync_spec (dB s) (small2 _ _ _ _ _ (by simp) (Nat.zero_le _))
  rw [dB_sync hs, dB_check hs] at A3
  have A4 := crash_spec (dS s) []
  rw [dS_crash hs, dS_check hs] at A4
  have A5 := volatile_spec (dB s) (small2 _ _ _ _ _ (by simp) (Nat.zero_le _))
  have e5 : volL (dB s).zones = [1, 0] := rfl
  rw [e5] at A5
  refine PSpec.rm ?_
  refine CSpec.of_vc hΓ Try.func14 rfl 87 0 [.tmp 0] Try.ntmps14 rfl (by rw [Try.results14]) rfl ?_
  conv => whnf
  repeat' ((first | refine Need.auto ?_ | refine Have.mk (fun _h => ?_)); conv => whnf)
  have hl : ∀ i, i < 9 → ∀ j, j < 1 → flatG 1 [.int .i64 0, .int .i64 0, .int .i64 0, .int .i64 0, .int .i64 8, .int .i64 0, .int .i64 0, .int .i64 0, .int .i64 0] i j = intsG .i64 rollA i j := fun i hi j hj => lit_ints (l := rollA) rfl hi hj
  refine CallN.fzK 0 [] [(0, .c (.bool false))] [] [.c (intsC rollA)] rfl (Nat.zero_le _) (fun i hi j hj => (congrArg C.imm (hl i hi j hj)).trans rfl) (by (repeat' (first | exact WA.nil | refine WA.cons rfl ?_ ?_ | exact WB.nil | refine WB.cons ?_ ?_ | exact WT.nil | refine WT.cons ?_ ?_ | exact WH.nil | refine WH.cons ?_ ?_ | exact WR.nil | refine WR.cons rfl ?_ ?_ | refine WO.vr ?_ | exact WO.dead | refine WO.arr (by first | with_reducible rfl | assumption | (symm; assumption) | omega | (dsimp only; omega) | (rw [wrap_id _ (by omega) (by omega)]; first | rfl | omega | (push_cast; omega)) | rfl | (simp; done)) ?_ | exact WS.u | refine WS.c ?_ | refine WS.a ?_ | refine WS.t ?_ | exact WL.nil | refine WL.cons ?_ ?_ | exact WTL.nil | refine WTL.consC ?_ ?_ | refine WTL.consL ?_ ?_ | exact WC.nils | exact WC.nil rfl | exact WC.nilp | exact WC.fz (by first | with_reducible rfl | assumption | (symm; assumption) | omega | (dsimp only; omega) | (rw [wrap_id _ (by omega) (by omega)]; first | rfl | omega | (push_cast; omega)) | rfl | (simp; done)) (by first | with_reducible rfl | assumption | (symm; assumption) | omega | (dsimp only; omega) | (rw [wrap_id _ (by omega) (by omega)]; first | rfl | omega | (push_cast; omega)) | rfl | (simp; done)) (fun _ _ _ _ => leF.refl) (by first | (intro e; cases e; done) | (intro _; exact ⟨rfl, by first | with_reducible rfl | assumption | (symm; assumption) | omega | (dsimp only; omega) | (rw [wrap_id _ (by omega) (by omega)]; first | rfl | omega | (push_cast; omega)) | rfl | (simp; done)⟩)) | exact WC.ptr rfl (Nat.le_of_ble_eq_true rfl) | exact WC.sl rfl (Nat.le_of_ble_eq_true rfl) (by first | with_reducible rfl | assumption | (symm; assumption) | omega | (dsimp only; omega) | (rw [wrap_id _ (by omega) (by omega)]; first | rfl | omega | (push_cast; omega)) | rfl | (simp; done)) (by first | with_reducible rfl | assumption | (symm; assumption) | omega | (dsimp only; omega) | (rw [wrap_id _ (by omega) (by omega)]; first | rfl | omega | (push_cast; omega)) | rfl | (simp; done)) (fun e => e) | (refine WC.int ?_; try first | with_reducible rfl | assumption | (symm; assumption) | omega | (dsimp only; omega) | (rw [wrap_id _ (by omega) (by omega)]; first | rfl | omega | (push_cast; omega)) | rfl | (simp; done)) | (refine WC.bool ?_; try first | with_reducible rfl | assumption | (symm; assumption) | omega | (dsimp only; omega) | (rw [wrap_id _ (by omega) (by omega)]; first | rfl | omega | (push_cast; omega)) | rfl | (simp; done)) | (refine WC.str ?_; try first | with_reducible rfl | assumption | (symm; assumption) | omega | (dsimp only; omega) | (rw [wrap_id _ (by omega) (by omega)]; first | rfl | omega | (push_cast; omega)) | rfl | (simp; done)) | exact WC.imm rfl))) (by (repeat' (first | exact WA.nil | refine WA.cons rfl ?_ ?_ | exact WB.nil | refine WB.cons ?_ ?_ | exact WT.nil | refine WT.cons ?_ ?_ | exact WH.nil | refine WH.cons ?_ ?_ | exact WR.nil | refine WR.cons rfl ?_ ?_ | refine WO.vr ?_ | exact WO.dead | refine WO.arr (by first | with_reducible rfl | assumption | (symm; assumption) | omega | (dsimp only; omega) | (rw [wrap_id _ (by omega) (by omega)]; first | rfl | omega | (push_cast; omega)) | rfl | (simp; done)) ?_ | exact WS.u | refine WS.c ?_ | refine WS.a ?_ | refine WS.t ?_ | exact WL.nil | refine WL.cons ?_ ?_ | exact WTL.nil | refine WTL.consC ?_ ?_ | refine WTL.consL ?_ ?_ | exact WC.nils | exact WC.nil rfl | exact WC.nilp | exact WC.fz (by first | with_reducible rfl | assumption | (symm; assumption) | omega | (dsimp only; omega) | (rw [wrap_id _ (by omega) (by omega)]; first | rfl | omega | (push_cast; omega)) | rfl | (simp; done)) (by first | with_reducible rfl | assumption | (symm; assumption) | omega | (dsimp only; omega) | (rw [wrap_id _ (by omega) (by omega)]; first | rfl | omega | (push_cast; omega)) | rfl | (simp; done)) (fun _ _ _ _ => leF.refl) (by first | (intro e; cases e; done) | (intro _; exact ⟨rfl, by first | with_reducible rfl | assumption | (symm; assumption) | omega | (dsimp only; omega) | (rw [wrap_id _ (by omega) (by omega)]; first | rfl | omega | (push_cast; omega)) | rfl | (simp; done)⟩)) | exact WC.ptr rfl (Nat.le_of_ble_eq_true rfl) | exact WC.sl rfl (Nat.le_of_ble_eq_true rfl) (by first | with_reducible rfl | assumption | (symm; assumption) | omega | (dsimp only; omega) | (rw [wrap_id _ (by omega) (by omega)]; first | rfl | omega | (push_cast; omega)) | rfl | (simp; done)) (by first | with_reducible rfl | assumption | (symm; assumption) | omega | (dsimp only; omega) | (rw [wrap_id _ (by omega) (by omega)]; first | rfl | omega | (push_cast; omega)) | rfl | (simp; done)) (fun e => e) | (refine WC.int ?_; try first | with_reducible rfl | assumption | (symm; assumption) | omega | (dsimp only; omega) | (rw [wrap_id _ (by omega) (by omega)]; first | rfl | omega | (push_cast; omega)) | rfl | (simp; done)) | (refine WC.bool ?_; try first | with_reducible rfl | assumption | (symm; assumption) | omega | (dsimp only; omega) | (rw [wrap_id _ (by omega) (by omega)]; first | rfl | omega | (push_cast; omega)) | rfl | (simp; done)) | (refine WC.str ?_; try first | with_reducible rfl | assumption | (symm; assumption) | omega | (dsimp only; omega) | (rw [wrap_id _ (by omega) (by omega)]; first | rfl | omega | (push_cast; omega)) | rfl | (simp; done)) | exact WC.imm rfl))) ?_ (Nat.le_of_ble_eq_true rfl) ?_
  · (repeat' (first | exact WA.nil | refine WA.cons rfl ?_ ?_ | exact WB.nil | refine WB.cons ?_ ?_ | exact WT.nil | refine WT.cons ?_ ?_ | exact WH.nil | refine WH.cons ?_ ?_ | exact WR.nil | refine WR.cons rfl ?_ ?_ | refine WO.vr ?_ | exact WO.dead | refine WO.arr (by first | with_reducible rfl | assumption | (symm; assumption) | omega | (dsimp only; omega) | (rw [wrap_id _ (by omega) (by omega)]; first | rfl | omega | (push_cast; omega)) | rfl | (simp; done)) ?_ | exact WS.u | refine WS.c ?_ | refine WS.a ?_ | refine WS.t ?_ | exact WL.nil | refine WL.cons ?_ ?_ | exact WTL.nil | refine WTL.consC ?_ ?_ | refine WTL.consL ?_ ?_ | exact WC.nils | exact WC.nil rfl | exact WC.nilp | exact WC.fz (by first | with_reducible rfl | assumption | (symm; assumption) | omega | (dsimp only; omega) | (rw [wrap_id _ (by omega) (by omega)]; first | rfl | omega | (push_cast; omega)) | rfl | (simp; done)) (by first | with_reducible rfl | assumption | (symm; assumption) | omega | (dsimp only; omega) | (rw [wrap_id _ (by omega) (by omega)]; first | rfl | omega | (push_cast; omega)) | rfl | (simp; done)) (fun _ _ _ _ => leF.refl) (by first | (intro e; cases e; done) | (intro _; exact ⟨rfl, by first | with_reducible rfl | assumption | (symm; assumption) | omega | (dsimp only; omega) | (rw [wrap_id _ (by omega) (by omega)]; first | rfl | omega | (push_cast; omega)) | rfl | (simp; done)⟩)) | exact WC.ptr rfl (Nat.le_of_ble_eq_true rfl) | exact WC.sl rfl (Nat.le_of_ble_eq_true rfl) (by first | with_reducible rfl | assumption | (symm; assumption) | omega | (dsimp only; omega) | (rw [wrap_id _ (by omega) (by omega)]; first | rfl | omega | (push_cast; omega)) | rfl | (simp; done)) (by first | with_reducible rfl | assumption | (symm; assumption) | omega | (dsimp only; omega) | (rw [wrap_id _ (by omega) (by omega)]; first | rfl | omega | (push_cast; omega)) | rfl | (simp; done)) (fun e => e) | (refine WC.int ?_; try first | with_reducible rfl | assumption | (symm; assumption) | omega | (dsimp only; omega) | (rw [wrap_id _ (by omega) (by omega)]; first | rfl | omega | (push_cast; omega)) | rfl | (simp; done)) | (refine WC.bool ?_; try first | with_reducible rfl | assumption | (symm; assumption) | omega | (dsimp only; omega) | (rw [wrap_id _ (by omega) (by omega)]; first | rfl | omega | (push_cast; omega)) | rfl | (simp; done)) | (refine WC.str ?_; try first | with_reducible rfl | assumption | (symm; assumption) | omega | (dsimp only; omega) | (rw [wrap_id _ (by omega) (by omega)]; first | rfl | omega | (push_cast; omega)) | rfl | (simp; done)) | exact WC.imm rfl))
    exact WC.fz rfl rfl (fun i hi j hj => leF.of_eq (hl i hi j hj)) (fun e => by cases e)
  refine CallN.pureA device_body A1 ?_
  conv => whnf
  repeat' ((first | refine Need.auto ?_ | refine Have.mk (fun _h => ?_)); conv => whnf)
  refine CallN.pureA crash_body A2 ?_
  conv => whnf
  repeat' ((first | refine Need.auto ?_ | refine Have.mk (fun _h => ?_)); conv => whnf)
  refine CallN.pureA sync_body A3 ?_
  conv => whnf
  repeat' ((first | refine Need.auto ?_ | refine Have.mk (fun _h => ?_)); conv => whnf)
  refine CallN.pureA crash_body A4 ?_
  conv => whnf
  repeat' ((first | refine Need.auto ?_ | refine Have.mk (fun _h => ?_)); conv => whnf)
  refine CallN.pureA volatile_body A5 ?_
  conv => whnf
  repeat' ((first | refine Need.auto ?_ | refine Have.mk (fun _h => ?_)); conv => whnf)
  refine RM.immW rfl ?_; (repeat' (first | exact WA.nil | refine WA.cons rfl ?_ ?_ | exact WB.nil | refine WB.cons ?_ ?_ | exact WT.nil | refine WT.cons ?_ ?_ | exact WH.nil | refine WH.cons ?_ ?_ | exact WR.nil | refine WR.cons rfl ?_ ?_ | refine WO.vr ?_ | exact WO.dead | refine WO.arr (by first | with_reducible rfl | assumption | (symm; assumption) | omega | (dsimp only; omega) | (rw [wrap_id _ (by omega) (by omega)]; first | rfl | omega | (push_cast; omega)) | rfl | (simp; done)) ?_ | exact WS.u | refine WS.c ?_ | refine WS.a ?_ | refine WS.t ?_ | exact WL.nil | refine WL.cons ?_ ?_ | exact WTL.nil | refine WTL.consC ?_ ?_ | refine WTL.consL ?_ ?_ | exact WC.nils | exact WC.nil rfl | exact WC.nilp | exact WC.fz (by first | with_reducible rfl | assumption | (symm; assumption) | omega | (dsimp only; omega) | (rw [wrap_id _ (by omega) (by omega)]; first | rfl | omega | (push_cast; omega)) | rfl | (simp; done)) (by first | with_reducible rfl | assumption | (symm; assumption) | omega | (dsimp only; omega) | (rw [wrap_id _ (by omega) (by omega)]; first | rfl | omega | (push_cast; omega)) | rfl | (simp; done)) (fun _ _ _ _ => leF.refl) (by first | (intro e; cases e; done) | (intro _; exact ⟨rfl, by first | with_reducible rfl | assumption | (symm; assumption) | omega | (dsimp only; omega) | (rw [wrap_id _ (by omega) (by omega)]; first | rfl | omega | (push_cast; omega)) | rfl | (simp; done)⟩)) | exact WC.ptr rfl (Nat.le_of_ble_eq_true rfl) | exact WC.sl rfl (Nat.le_of_ble_eq_true rfl) (by first | with_reducible rfl | assumption | (symm; assumption) | omega | (dsimp only; omega) | (rw [wrap_id _ (by omega) (by omega)]; first | rfl | omega | (push_cast; omega)) | rfl | (simp; done)) (by first | with_reducible rfl | assumption | (symm; assumption) | omega | (dsimp only; omega) | (rw [wrap_id _ (by omega) (by omega)]; first | rfl | omega | (push_cast; omega)) | rfl | (simp; done)) (fun e => e) | (refine WC.int ?_; try first | with_reducible rfl | assumption | (symm; assumption) | omega | (dsimp only; omega) | (rw [wrap_id _ (by omega) (by omega)]; first | rfl | omega | (push_cast; omega)) | rfl | (simp; done)) | (refine WC.bool ?_; try first | with_reducible rfl | assumption | (symm; assumption) | omega | (dsimp only; omega) | (rw [wrap_id _ (by omega) (by omega)]; first | rfl | omega | (push_cast; omega)) | rfl | (simp; done)) | (refine WC.str ?_; try first | with_reducible rfl | assumption | (symm; assumption) | omega | (dsimp only; omega) | (rw [wrap_id _ (by omega) (by omega)]; first | rfl | omega | (push_cast; omega)) | rfl | (simp; done)) | exact WC.imm rfl))
theorem awake6_body : HasBody Try.prog 14 := ⟨⟨Try.f14, Try.func14, rfl, by kernel_rfl⟩⟩

theorem agree6_spec (d : Dev) (hd : d.small) (hw : ∀ i, (d.zones.getD i default).durable ≤ 9223372036854775807) (keep : List Int) : PSpec Try.prog 13 [d.s, .c (intsC keep)] (.c (.bool true)) := by
  refine PSpec.rm ?_
  refine CSpec.of_vc hΓ Try.func13 rfl 60 0 [.tmp 4] Try.ntmps13 rfl (by rw [Try.results13]) rfl ?_
  have hz := hd.z
  conv => whnf
  refine CallN.pureA sync_body (sync_spec d hd ) ?_
  conv => whnf
  repeat' ((first | refine Need.auto ?_ | refine Have.mk (fun _h => ?_)); conv => whnf)
  refine CallN.pureA sync_ref_body (sync_ref_spec d hd ) ?_
  conv => whnf
  repeat' ((first | refine Need.auto ?_ | refine Have.mk (fun _h => ?_)); conv => whnf)
  refine CallN.pureA crash_body (crash_spec d keep ) ?_
  conv => whnf
  repeat' ((first | refine Need.auto ?_ | refine Have.mk (fun _h => ?_)); conv => whnf)
  refine CallN.pureA crash_ref_body (crash_ref_spec d hd hw keep ) ?_
  conv => whnf
  repeat' ((first | refine Need.auto ?_ | refine Have.mk (fun _h => ?_)); conv => whnf)
  refine Dr.mk hΓ hMix (by kernel_rfl) ?_; conv => whnf
  repeat' ((first | refine Need.auto ?_ | refine Have.mk (fun _h => ?_)); conv => whnf)
  refine CallP.autoG same_body (fun _ => same_spec (syncD d) (syncD d) ) ?_
  conv => whnf
  repeat' ((first | refine Need.auto ?_ | refine Have.mk (fun _h => ?_)); conv => whnf)
  refine CallP.autoG same_body (fun _ => same_spec (crashD d keep) (crashD d keep) ) ?_
  conv => whnf
  repeat' ((first | refine Need.auto ?_ | refine Have.mk (fun _h => ?_)); conv => whnf)
  refine CallP.autoG volatile_body (fun _ => volatile_spec d hd ) ?_
  conv => whnf
  repeat' ((first | refine Need.auto ?_ | refine Have.mk (fun _h => ?_)); conv => whnf)
  refine CallP.autoG volatile_ref_body (fun _ => volatile_ref_spec d hd hw ) ?_
  conv => whnf
  repeat' ((first | refine Need.auto ?_ | refine Have.mk (fun _h => ?_)); conv => whnf)
  refine CallP.autoG sameI_body (fun _ => sameI_spec (volL d.zones) (volL d.zones) (by simpa using hz) ) ?_
  conv => whnf
  repeat' ((first | refine Need.auto ?_ | refine Have.mk (fun _h => ?_)); conv => whnf)
  refine RM.immW rfl ?_; (repeat' (first | exact WA.nil | refine WA.cons rfl ?_ ?_ | exact WB.nil | refine WB.cons ?_ ?_ | exact WT.nil | refine WT.cons ?_ ?_ | exact WH.nil | refine WH.cons ?_ ?_ | exact WR.nil | refine WR.cons rfl ?_ ?_ | refine WO.vr ?_ | exact WO.dead | refine WO.arr (by first | with_reducible rfl | assumption | (symm; assumption) | omega | (dsimp only; omega) | (rw [wrap_id _ (by omega) (by omega)]; first | rfl | omega | (push_cast; omega)) | rfl | (simp; done)) ?_ | exact WS.u | refine WS.c ?_ | refine WS.a ?_ | refine WS.t ?_ | exact WL.nil | refine WL.cons ?_ ?_ | exact WTL.nil | refine WTL.consC ?_ ?_ | refine WTL.consL ?_ ?_ | exact WC.nils | exact WC.nil rfl | exact WC.nilp | exact WC.fz (by first | with_reducible rfl | assumption | (symm; assumption) | omega | (dsimp only; omega) | (rw [wrap_id _ (by omega) (by omega)]; first | rfl | omega | (push_cast; omega)) | rfl | (simp; done)) (by first | with_reducible rfl | assumption | (symm; assumption) | omega | (dsimp only; omega) | (rw [wrap_id _ (by omega) (by omega)]; first | rfl | omega | (push_cast; omega)) | rfl | (simp; done)) (fun _ _ _ _ => leF.refl) (by first | (intro e; cases e; done) | (intro _; exact ⟨rfl, by first | with_reducible rfl | assumption | (symm; assumption) | omega | (dsimp only; omega) | (rw [wrap_id _ (by omega) (by omega)]; first | rfl | omega | (push_cast; omega)) | rfl | (simp; done)⟩)) | exact WC.ptr rfl (Nat.le_of_ble_eq_true rfl) | exact WC.sl rfl (Nat.le_of_ble_eq_true rfl) (by first | with_reducible rfl | assumption | (symm; assumption) | omega | (dsimp only; omega) | (rw [wrap_id _ (by omega) (by omega)]; first | rfl | omega | (push_cast; omega)) | rfl | (simp; done)) (by first | with_reducible rfl | assumption | (symm; assumption) | omega | (dsimp only; omega) | (rw [wrap_id _ (by omega) (by omega)]; first | rfl | omega | (push_cast; omega)) | rfl | (simp; done)) (fun e => e) | (refine WC.int ?_; try first | with_reducible rfl | assumption | (symm; assumption) | omega | (dsimp only; omega) | (rw [wrap_id _ (by omega) (by omega)]; first | rfl | omega | (push_cast; omega)) | rfl | (simp; done)) | (refine WC.bool ?_; try first | with_reducible rfl | assumption | (symm; assumption) | omega | (dsimp only; omega) | (rw [wrap_id _ (by omega) (by omega)]; first | rfl | omega | (push_cast; omega)) | rfl | (simp; done)) | (refine WC.str ?_; try first | with_reducible rfl | assumption | (symm; assumption) | omega | (dsimp only; omega) | (rw [wrap_id _ (by omega) (by omega)]; first | rfl | omega | (push_cast; omega)) | rfl | (simp; done)) | exact WC.imm rfl))
  simp [same_refl]
theorem agree6_body : HasBody Try.prog 13 := ⟨⟨Try.f13, Try.func13, rfl, by kernel_rfl⟩⟩

theorem mediaMade_spec (l keep : List Int) (what at_ by_ : Int) : PSpec Try.prog 4 [.c (intsC l), .c (intsC keep), .c (.int .i64 what), .c (.int .i64 at_), .c (.int .i64 by_)] (.c (.bool true)) := by
  refine PSpec.rm ?_
  refine CSpec.of_vc hΓ Try.func4 rfl 38 0 [.tmp 10] Try.ntmps4 rfl (by rw [Try.results4]) rfl ?_
  conv => whnf
  refine CallN.pureA light_body (light_spec l ) ?_
  conv => whnf
  repeat' ((first | refine Need.auto ?_ | refine Have.mk (fun _h => ?_)); conv => whnf)
  (first | refine Br.lt (fun h => ?_) (fun h => ?_) | refine Br.le (fun h => ?_) (fun h => ?_) | refine Br.gt (fun h => ?_) (fun h => ?_) | refine Br.ge (fun h => ?_) (fun h => ?_) | refine Br.eq (fun h => ?_) (fun h => ?_) | refine Br.ne (fun h => ?_) (fun h => ?_) | refine Br.not (fun h => ?_) (fun h => ?_) | (refine Br.mk (fun h => ?_) (fun h => ?_) <;> simp [-List.length_eq_zero_iff, -List.getD_eq_getElem?_getD] at h)) <;> (try simp only [Int.toNat_natCast] at h) <;> (conv => whnf)
  · repeat' ((first | refine Need.auto ?_ | refine Have.mk (fun _h => ?_)); conv => whnf)
    refine CallN.pureA awake6_body awake6_spec ?_
    conv => whnf
    repeat' ((first | refine Need.auto ?_ | refine Have.mk (fun _h => ?_)); conv => whnf)
    refine RM.immW rfl ?_; (repeat' (first | exact WA.nil | refine WA.cons rfl ?_ ?_ | exact WB.nil | refine WB.cons ?_ ?_ | exact WT.nil | refine WT.cons ?_ ?_ | exact WH.nil | refine WH.cons ?_ ?_ | exact WR.nil | refine WR.cons rfl ?_ ?_ | refine WO.vr ?_ | exact WO.dead | refine WO.arr (by first | with_reducible rfl | assumption | (symm; assumption) | omega | (dsimp only; omega) | (rw [wrap_id _ (by omega) (by omega)]; first | rfl | omega | (push_cast; omega)) | rfl | (simp; done)) ?_ | exact WS.u | refine WS.c ?_ | refine WS.a ?_ | refine WS.t ?_ | exact WL.nil | refine WL.cons ?_ ?_ | exact WTL.nil | refine WTL.consC ?_ ?_ | refine WTL.consL ?_ ?_ | exact WC.nils | exact WC.nil rfl | exact WC.nilp | exact WC.fz (by first | with_reducible rfl | assumption | (symm; assumption) | omega | (dsimp only; omega) | (rw [wrap_id _ (by omega) (by omega)]; first | rfl | omega | (push_cast; omega)) | rfl | (simp; done)) (by first | with_reducible rfl | assumption | (symm; assumption) | omega | (dsimp only; omega) | (rw [wrap_id _ (by omega) (by omega)]; first | rfl | omega | (push_cast; omega)) | rfl | (simp; done)) (fun _ _ _ _ => leF.refl) (by first | (intro e; cases e; done) | (intro _; exact ⟨rfl, by first | with_reducible rfl | assumption | (symm; assumption) | omega | (dsimp only; omega) | (rw [wrap_id _ (by omega) (by omega)]; first | rfl | omega | (push_cast; omega)) | rfl | (simp; done)⟩)) | exact WC.ptr rfl (Nat.le_of_ble_eq_true rfl) | exact WC.sl rfl (Nat.le_of_ble_eq_true rfl) (by first | with_reducible rfl | assumption | (symm; assumption) | omega | (dsimp only; omega) | (rw [wrap_id _ (by omega) (by omega)]; first | rfl | omega | (push_cast; omega)) | rfl | (simp; done)) (by first | with_reducible rfl | assumption | (symm; assumption) | omega | (dsimp only; omega) | (rw [wrap_id _ (by omega) (by omega)]; first | rfl | omega | (push_cast; omega)) | rfl | (simp; done)) (fun e => e) | (refine WC.int ?_; try first | with_reducible rfl | assumption | (symm; assumption) | omega | (dsimp only; omega) | (rw [wrap_id _ (by omega) (by omega)]; first | rfl | omega | (push_cast; omega)) | rfl | (simp; done)) | (refine WC.bool ?_; try first | with_reducible rfl | assumption | (symm; assumption) | omega | (dsimp only; omega) | (rw [wrap_id _ (by omega) (by omega)]; first | rfl | omega | (push_cast; omega)) | rfl | (simp; done)) | (refine WC.str ?_; try first | with_reducible rfl | assumption | (symm; assumption) | omega | (dsimp only; omega) | (rw [wrap_id _ (by omega) (by omega)]; first | rfl | omega | (push_cast; omega)) | rfl | (simp; done)) | exact WC.imm rfl))
  · repeat' ((first | refine Need.auto ?_ | refine Have.mk (fun _h => ?_)); conv => whnf)
    have ok := (deviceD_ok l).1
    obtain ⟨os, od⟩ := odd_fit ok what at_ by_
    refine CallN.pureA device_body (device_spec l (by omega) ) ?_
    conv => whnf
    repeat' ((first | refine Need.auto ?_ | refine Have.mk (fun _h => ?_)); conv => whnf)
    refine CallN.pureA agree6_body (agree6_spec (deviceD l) ok.small ok.dur keep ) ?_
    conv => whnf
    repeat' ((first | refine Need.auto ?_ | refine Have.mk (fun _h => ?_)); conv => whnf)
    refine CallG.auto odd_body (fun _ => odd_spec (deviceD l) ok.small what at_ by_ ) ?_
    conv => whnf
    repeat' ((first | refine Need.auto ?_ | refine Have.mk (fun _h => ?_)); conv => whnf)
    refine CallG.auto agree6_body (fun _ => agree6_spec (oddD (deviceD l) what at_ by_) os od keep ) ?_
    conv => whnf
    repeat' ((first | refine Need.auto ?_ | refine Have.mk (fun _h => ?_)); conv => whnf)
    refine CallG.auto awake6_body (fun _ => awake6_spec) ?_
    conv => whnf
    repeat' ((first | refine Need.auto ?_ | refine Have.mk (fun _h => ?_)); conv => whnf)
    refine RM.immW rfl ?_; (repeat' (first | exact WA.nil | refine WA.cons rfl ?_ ?_ | exact WB.nil | refine WB.cons ?_ ?_ | exact WT.nil | refine WT.cons ?_ ?_ | exact WH.nil | refine WH.cons ?_ ?_ | exact WR.nil | refine WR.cons rfl ?_ ?_ | refine WO.vr ?_ | exact WO.dead | refine WO.arr (by first | with_reducible rfl | assumption | (symm; assumption) | omega | (dsimp only; omega) | (rw [wrap_id _ (by omega) (by omega)]; first | rfl | omega | (push_cast; omega)) | rfl | (simp; done)) ?_ | exact WS.u | refine WS.c ?_ | refine WS.a ?_ | refine WS.t ?_ | exact WL.nil | refine WL.cons ?_ ?_ | exact WTL.nil | refine WTL.consC ?_ ?_ | refine WTL.consL ?_ ?_ | exact WC.nils | exact WC.nil rfl | exact WC.nilp | exact WC.fz (by first | with_reducible rfl | assumption | (symm; assumption) | omega | (dsimp only; omega) | (rw [wrap_id _ (by omega) (by omega)]; first | rfl | omega | (push_cast; omega)) | rfl | (simp; done)) (by first | with_reducible rfl | assumption | (symm; assumption) | omega | (dsimp only; omega) | (rw [wrap_id _ (by omega) (by omega)]; first | rfl | omega | (push_cast; omega)) | rfl | (simp; done)) (fun _ _ _ _ => leF.refl) (by first | (intro e; cases e; done) | (intro _; exact ⟨rfl, by first | with_reducible rfl | assumption | (symm; assumption) | omega | (dsimp only; omega) | (rw [wrap_id _ (by omega) (by omega)]; first | rfl | omega | (push_cast; omega)) | rfl | (simp; done)⟩)) | exact WC.ptr rfl (Nat.le_of_ble_eq_true rfl) | exact WC.sl rfl (Nat.le_of_ble_eq_true rfl) (by first | with_reducible rfl | assumption | (symm; assumption) | omega | (dsimp only; omega) | (rw [wrap_id _ (by omega) (by omega)]; first | rfl | omega | (push_cast; omega)) | rfl | (simp; done)) (by first | with_reducible rfl | assumption | (symm; assumption) | omega | (dsimp only; omega) | (rw [wrap_id _ (by omega) (by omega)]; first | rfl | omega | (push_cast; omega)) | rfl | (simp; done)) (fun e => e) | (refine WC.int ?_; try first | with_reducible rfl | assumption | (symm; assumption) | omega | (dsimp only; omega) | (rw [wrap_id _ (by omega) (by omega)]; first | rfl | omega | (push_cast; omega)) | rfl | (simp; done)) | (refine WC.bool ?_; try first | with_reducible rfl | assumption | (symm; assumption) | omega | (dsimp only; omega) | (rw [wrap_id _ (by omega) (by omega)]; first | rfl | omega | (push_cast; omega)) | rfl | (simp; done)) | (refine WC.str ?_; try first | with_reducible rfl | assumption | (symm; assumption) | omega | (dsimp only; omega) | (rw [wrap_id _ (by omega) (by omega)]; first | rfl | omega | (push_cast; omega)) | rfl | (simp; done)) | exact WC.imm rfl))
theorem mediaMade_body : HasBody Try.prog 4 := ⟨⟨Try.f4, Try.func4, rfl, by kernel_rfl⟩⟩
end Go.Proofs
