/- Part of the proofs of laws of this seat: contracts and plain lemmas; no condition is added to a statement. -/
import Derived.Test.YtbdhjlanfigdgaaMakeB
import Derived.Test.YtbdhjlanfigdgaaX1
import Derived.Test.YtbdhjlanfigdgaaZns
import Derived.Test.YtbdhjlanfigdgaaMods
set_option linter.unusedSimpArgs false
set_option linter.unusedVariables false
open Go Go.Am
namespace Go.Proofs
theorem agree5_spec (d : Dev) (hd : d.small) (zone off : Int) (s : ByteArray) : PSpec Try.prog 29 [d.s, .c (.int .i64 zone), .c (.int .i64 off), .c (.str s)] (.c (.bool true)) := by
  refine PSpec.rm ?_
  refine CSpec.of_vc hΓ Try.func29 rfl 183 0 [.tmp 8] Try.ntmps29 rfl (by rw [Try.results29]) rfl ?_
  have hz := hd.z
  conv => whnf
  refine CallN.pureA append_body (append_spec d hd zone s ) ?_
  conv => whnf
  repeat' ((first | refine Need.auto ?_ | refine Have.mk (fun _h => ?_)); conv => whnf)
  refine CallN.pureA append_ref_body (append_ref_spec d hd zone s ) ?_
  conv => whnf
  repeat' ((first | refine Need.auto ?_ | refine Have.mk (fun _h => ?_)); conv => whnf)
  refine CallG.auto same_body (fun _ => same_spec (appendD d zone s) (appendD d zone s) ) ?_
  conv => whnf
  repeat' ((first | refine Need.auto ?_ | refine Have.mk (fun _h => ?_)); conv => whnf)
  refine Br.no (by rw [same_refl]; simp) ?_
  conv => whnf
  refine CallN.pureA read_body (read_spec d zone off ) ?_
  conv => whnf
  repeat' ((first | refine Need.auto ?_ | refine Have.mk (fun _h => ?_)); conv => whnf)
  refine CallN.pureA read_ref_body (read_ref_spec d zone off ) ?_
  conv => whnf
  repeat' ((first | refine Need.auto ?_ | refine Have.mk (fun _h => ?_)); conv => whnf)
  refine Br.no (by simp) ?_
  conv => whnf
  refine CallN.pureA reset_body (reset_spec d hd zone ) ?_
  conv => whnf
  repeat' ((first | refine Need.auto ?_ | refine Have.mk (fun _h => ?_)); conv => whnf)
  refine CallN.pureA reset_ref_body (reset_ref_spec d hd zone ) ?_
  conv => whnf
  repeat' ((first | refine Need.auto ?_ | refine Have.mk (fun _h => ?_)); conv => whnf)
  refine CallG.auto same_body (fun _ => same_spec (resetD d zone) (resetD d zone) ) ?_
  conv => whnf
  repeat' ((first | refine Need.auto ?_ | refine Have.mk (fun _h => ?_)); conv => whnf)
  refine Br.no (by rw [same_refl]; simp) ?_
  conv => whnf
  refine CallN.pureA finish_body (finish_spec d hd zone ) ?_
  conv => whnf
  repeat' ((first | refine Need.auto ?_ | refine Have.mk (fun _h => ?_)); conv => whnf)
  refine CallN.pureA finish_ref_body (finish_ref_spec d hd zone ) ?_
  conv => whnf
  repeat' ((first | refine Need.auto ?_ | refine Have.mk (fun _h => ?_)); conv => whnf)
  refine CallG.auto same_body (fun _ => same_spec (finishD d zone) (finishD d zone) ) ?_
  conv => whnf
  repeat' ((first | refine Need.auto ?_ | refine Have.mk (fun _h => ?_)); conv => whnf)
  refine Br.no (by rw [same_refl]; simp) ?_
  conv => whnf
  refine CallN.pureA open_body (open_spec d hd zone ) ?_
  conv => whnf
  repeat' ((first | refine Need.auto ?_ | refine Have.mk (fun _h => ?_)); conv => whnf)
  refine CallN.pureA open_ref_body (open_ref_spec d hd zone ) ?_
  conv => whnf
  repeat' ((first | refine Need.auto ?_ | refine Have.mk (fun _h => ?_)); conv => whnf)
  refine CallG.auto same_body (fun _ => same_spec (openD d zone) (openD d zone) ) ?_
  conv => whnf
  repeat' ((first | refine Need.auto ?_ | refine Have.mk (fun _h => ?_)); conv => whnf)
  refine Br.no (by rw [same_refl]; simp) ?_
  conv => whnf
  refine CallN.pureA close_body (close_spec d hd zone ) ?_
  conv => whnf
  repeat' ((first | refine Need.auto ?_ | refine Have.mk (fun _h => ?_)); conv => whnf)
  refine CallN.pureA close_ref_body (close_ref_spec d hd zone ) ?_
  conv => whnf
  repeat' ((first | refine Need.auto ?_ | refine Have.mk (fun _h => ?_)); conv => whnf)
  refine CallN.pureA counts_body (counts_spec d ) ?_
  conv => whnf
  repeat' ((first | refine Need.auto ?_ | refine Have.mk (fun _h => ?_)); conv => whnf)
  refine CallN.pureA counts_ref_body (counts_ref_spec d ) ?_
  conv => whnf
  repeat' ((first | refine Need.auto ?_ | refine Have.mk (fun _h => ?_)); conv => whnf)
  refine Dr.mk hΓ hMix (by kernel_rfl) ?_; conv => whnf
  repeat' ((first | refine Need.auto ?_ | refine Have.mk (fun _h => ?_)); conv => whnf)
  refine CallP.autoG same_body (fun _ => same_spec (closeD d zone) (closeD d zone) ) ?_
  conv => whnf
  repeat' ((first | refine Need.auto ?_ | refine Have.mk (fun _h => ?_)); conv => whnf)
  refine CallP.autoG check_body (fun _ => check_spec d ) ?_
  conv => whnf
  repeat' ((first | refine Need.auto ?_ | refine Have.mk (fun _h => ?_)); conv => whnf)
  refine CallP.autoG check_ref_body (fun _ => check_ref_spec d ) ?_
  conv => whnf
  repeat' ((first | refine Need.auto ?_ | refine Have.mk (fun _h => ?_)); conv => whnf)
  refine RM.immW rfl ?_; (repeat' (first | exact WA.nil | refine WA.cons rfl ?_ ?_ | exact WB.nil | refine WB.cons ?_ ?_ | exact WT.nil | refine WT.cons ?_ ?_ | exact WH.nil | refine WH.cons ?_ ?_ | exact WR.nil | refine WR.cons rfl ?_ ?_ | refine WO.vr ?_ | exact WO.dead | refine WO.arr (by first | with_reducible rfl | assumption | (symm; assumption) | omega | (dsimp only; omega) | (rw [wrap_id _ (by omega) (by omega)]; first | rfl | omega | (push_cast; omega)) | rfl | (simp; done)) ?_ | exact WS.u | refine WS.c ?_ | refine WS.a ?_ | refine WS.t ?_ | exact WL.nil | refine WL.cons ?_ ?_ | exact WTL.nil | refine WTL.consC ?_ ?_ | refine WTL.consL ?_ ?_ | exact WC.nils | exact WC.nil rfl | exact WC.nilp | exact WC.fz (by first | with_reducible rfl | assumption | (symm; assumption) | omega | (dsimp only; omega) | (rw [wrap_id _ (by omega) (by omega)]; first | rfl | omega | (push_cast; omega)) | rfl | (simp; done)) (by first | with_reducible rfl | assumption | (symm; assumption) | omega | (dsimp only; omega) | (rw [wrap_id _ (by omega) (by omega)]; first | rfl | omega | (push_cast; omega)) | rfl | (simp; done)) (fun _ _ _ _ => leF.refl) (by first | (intro e; cases e; done) | (intro _; exact ⟨rfl, by first | with_reducible rfl | assumption | (symm; assumption) | omega | (dsimp only; omega) | (rw [wrap_id _ (by omega) (by omega)]; first | rfl | omega | (push_cast; omega)) | rfl | (simp; done)⟩)) | exact WC.ptr rfl (Nat.le_of_ble_eq_true rfl) | exact WC.sl rfl (Nat.le_of_ble_eq_true rfl) (by first | with_reducible rfl | assumption | (symm; assumption) | omega | (dsimp only; omega) | (rw [wrap_id _ (by omega) (by omega)]; first | rfl | omega | (push_cast; omega)) | rfl | (simp; done)) (by first | with_reducible rfl | assumption | (symm; assumption) | omega | (dsimp only; omega) | (rw [wrap_id _ (by omega) (by omega)]; first | rfl | omega | (push_cast; omega)) | rfl | (simp; done)) (fun e => e) | (refine WC.int ?_; try first | with_reducible rfl | assumption | (symm; assumption) | omega | (dsimp only; omega) | (rw [wrap_id _ (by omega) (by omega)]; first | rfl | omega | (push_cast; omega)) | rfl | (simp; done)) | (refine WC.bool ?_; try first | with_reducible rfl | assumption | (symm; assumption) | omega | (dsimp only; omega) | (rw [wrap_id _ (by omega) (by omega)]; first | rfl | omega | (push_cast; omega)) | rfl | (simp; done)) | (refine WC.str ?_; try first | with_reducible rfl | assumption | (symm; assumption) | omega | (dsimp only; omega) | (rw [wrap_id _ (by omega) (by omega)]; first | rfl | omega | (push_cast; omega)) | rfl | (simp; done)) | exact WC.imm rfl))
  simp [same_refl]
theorem agree5_body : HasBody Try.prog 29 := ⟨⟨Try.f29, Try.func29, rfl, by kernel_rfl⟩⟩

def trimS (v : Int) : ByteArray := encR ⟨2, 0, v, 0, ByteArray.empty⟩
theorem trimS_size {v : Int} (h : 0 ≤ v ∧ v ≤ 1099511627776) : (trimS v).size = 40 := encR_size (by
  simp only [checkR]
  rw [if_pos (by simp), if_pos (by simp only [decide_eq_true_eq]; omega), if_pos (by simp only [decide_eq_true_eq]; exact ⟨by decide, fun e => (by cases e), fun _ => rfl⟩)])

theorem znsMade_spec (l : List Int) (zone off what by_ : Int) : PSpec Try.prog 10 [.c (intsC l), .c (.int .i64 zone), .c (.int .i64 off), .c (.int .i64 what), .c (.int .i64 by_)] (.c (.bool true)) := by
  refine PSpec.rm ?_
  refine CSpec.of_vc hΓ Try.func10 rfl 47 0 [.tmp 10] Try.ntmps10 rfl (by rw [Try.results10]) rfl ?_
  conv => whnf
  refine CallN.pureA light_body (light_spec l ) ?_
  conv => whnf
  repeat' ((first | refine Need.auto ?_ | refine Have.mk (fun _h => ?_)); conv => whnf)
  (first | refine Br.lt (fun h => ?_) (fun h => ?_) | refine Br.le (fun h => ?_) (fun h => ?_) | refine Br.gt (fun h => ?_) (fun h => ?_) | refine Br.ge (fun h => ?_) (fun h => ?_) | refine Br.eq (fun h => ?_) (fun h => ?_) | refine Br.ne (fun h => ?_) (fun h => ?_) | refine Br.not (fun h => ?_) (fun h => ?_) | (refine Br.mk (fun h => ?_) (fun h => ?_) <;> simp [-List.length_eq_zero_iff, -List.getD_eq_getElem?_getD] at h)) <;> (try simp only [Int.toNat_natCast] at h) <;> (conv => whnf)
  · repeat' ((first | refine Need.auto ?_ | refine Have.mk (fun _h => ?_)); conv => whnf)
    refine CallN.pureA awake5_body awake5_spec ?_
    conv => whnf
    repeat' ((first | refine Need.auto ?_ | refine Have.mk (fun _h => ?_)); conv => whnf)
    refine RM.immW rfl ?_; (repeat' (first | exact WA.nil | refine WA.cons rfl ?_ ?_ | exact WB.nil | refine WB.cons ?_ ?_ | exact WT.nil | refine WT.cons ?_ ?_ | exact WH.nil | refine WH.cons ?_ ?_ | exact WR.nil | refine WR.cons rfl ?_ ?_ | refine WO.vr ?_ | exact WO.dead | refine WO.arr (by first | with_reducible rfl | assumption | (symm; assumption) | omega | (dsimp only; omega) | (rw [wrap_id _ (by omega) (by omega)]; first | rfl | omega | (push_cast; omega)) | rfl | (simp; done)) ?_ | exact WS.u | refine WS.c ?_ | refine WS.a ?_ | refine WS.t ?_ | exact WL.nil | refine WL.cons ?_ ?_ | exact WTL.nil | refine WTL.consC ?_ ?_ | refine WTL.consL ?_ ?_ | exact WC.nils | exact WC.nil rfl | exact WC.nilp | exact WC.fz (by first | with_reducible rfl | assumption | (symm; assumption) | omega | (dsimp only; omega) | (rw [wrap_id _ (by omega) (by omega)]; first | rfl | omega | (push_cast; omega)) | rfl | (simp; done)) (by first | with_reducible rfl | assumption | (symm; assumption) | omega | (dsimp only; omega) | (rw [wrap_id _ (by omega) (by omega)]; first | rfl | omega | (push_cast; omega)) | rfl | (simp; done)) (fun _ _ _ _ => leF.refl) (by first | (intro e; cases e; done) | (intro _; exact ⟨rfl, by first | with_reducible rfl | assumption | (symm; assumption) | omega | (dsimp only; omega) | (rw [wrap_id _ (by omega) (by omega)]; first | rfl | omega | (push_cast; omega)) | rfl | (simp; done)⟩)) | exact WC.ptr rfl (Nat.le_of_ble_eq_true rfl) | exact WC.sl rfl (Nat.le_of_ble_eq_true rfl) (by first | with_reducible rfl | assumption | (symm; assumption) | omega | (dsimp only; omega) | (rw [wrap_id _ (by omega) (by omega)]; first | rfl | omega | (push_cast; omega)) | rfl | (simp; done)) (by first | with_reducible rfl | assumption | (symm; assumption) | omega | (dsimp only; omega) | (rw [wrap_id _ (by omega) (by omega)]; first | rfl | omega | (push_cast; omega)) | rfl | (simp; done)) (fun e => e) | (refine WC.int ?_; try first | with_reducible rfl | assumption | (symm; assumption) | omega | (dsimp only; omega) | (rw [wrap_id _ (by omega) (by omega)]; first | rfl | omega | (push_cast; omega)) | rfl | (simp; done)) | (refine WC.bool ?_; try first | with_reducible rfl | assumption | (symm; assumption) | omega | (dsimp only; omega) | (rw [wrap_id _ (by omega) (by omega)]; first | rfl | omega | (push_cast; omega)) | rfl | (simp; done)) | (refine WC.str ?_; try first | with_reducible rfl | assumption | (symm; assumption) | omega | (dsimp only; omega) | (rw [wrap_id _ (by omega) (by omega)]; first | rfl | omega | (push_cast; omega)) | rfl | (simp; done)) | exact WC.imm rfl))
  · repeat' ((first | refine Need.auto ?_ | refine Have.mk (fun _h => ?_)); conv => whnf)
    have ok := (deviceD_ok l).1
    have hl : l.length ≤ 300 := by simpa using h
    refine CallN.pureA device_body (device_spec l (by omega) ) ?_
    conv => whnf
    generalize deviceD l = d at ok ⊢
    obtain ⟨os, od⟩ := odd_fit ok what zone by_
    conv => whnf
    repeat' ((first | refine Need.auto ?_ | refine Have.mk (fun _h => ?_)); conv => whnf)
    refine CallN.pureA sector_body (sector_spec ⟨2, 0, 3, 0, ByteArray.empty⟩ ) ?_
    conv => whnf
    repeat' ((first | refine Need.auto ?_ | refine Have.mk (fun _h => ?_)); conv => whnf)
    refine CallN.pureA mod_body (mod_spec zone d.zones.length ) ?_
    conv => whnf
    repeat' ((first | refine Need.auto ?_ | refine Have.mk (fun _h => ?_)); conv => whnf)
    refine Dr.mk hΓ hMix (by kernel_rfl) ?_; conv => whnf
    repeat' ((first | refine Need.auto ?_ | refine Have.mk (fun _h => ?_)); conv => whnf)
    refine CallP.auto mod_body (mod_spec off 6 ) ?_
    conv => whnf
    repeat' ((first | refine Need.auto ?_ | refine Have.mk (fun _h => ?_)); conv => whnf)
    refine CallP.auto agree5_body (agree5_spec d ok.small _ _ _ ) ?_
    conv => whnf
    repeat' ((first | refine Need.auto ?_ | refine Have.mk (fun _h => ?_)); conv => whnf)
    refine CallP.autoG odd_body (fun _ => odd_spec d ok.small what zone by_ ) ?_
    conv => whnf
    repeat' ((first | refine Need.auto ?_ | refine Have.mk (fun _h => ?_)); conv => whnf)
    refine CallP.autoG agree5_body (fun _ => agree5_spec (oddD d what zone by_) os _ _ _ ) ?_
    conv => whnf
    repeat' ((first | refine Need.auto ?_ | refine Have.mk (fun _h => ?_)); conv => whnf)
    refine CallP.autoG awake5_body (fun _ => awake5_spec) ?_
    conv => whnf
    repeat' ((first | refine Need.auto ?_ | refine Have.mk (fun _h => ?_)); conv => whnf)
    refine RM.immW rfl ?_; (repeat' (first | exact WA.nil | refine WA.cons rfl ?_ ?_ | exact WB.nil | refine WB.cons ?_ ?_ | exact WT.nil | refine WT.cons ?_ ?_ | exact WH.nil | refine WH.cons ?_ ?_ | exact WR.nil | refine WR.cons rfl ?_ ?_ | refine WO.vr ?_ | exact WO.dead | refine WO.arr (by first | with_reducible rfl | assumption | (symm; assumption) | omega | (dsimp only; omega) | (rw [wrap_id _ (by omega) (by omega)]; first | rfl | omega | (push_cast; omega)) | rfl | (simp; done)) ?_ | exact WS.u | refine WS.c ?_ | refine WS.a ?_ | refine WS.t ?_ | exact WL.nil | refine WL.cons ?_ ?_ | exact WTL.nil | refine WTL.consC ?_ ?_ | refine WTL.consL ?_ ?_ | exact WC.nils | exact WC.nil rfl | exact WC.nilp | exact WC.fz (by first | with_reducible rfl | assumption | (symm; assumption) | omega | (dsimp only; omega) | (rw [wrap_id _ (by omega) (by omega)]; first | rfl | omega | (push_cast; omega)) | rfl | (simp; done)) (by first | with_reducible rfl | assumption | (symm; assumption) | omega | (dsimp only; omega) | (rw [wrap_id _ (by omega) (by omega)]; first | rfl | omega | (push_cast; omega)) | rfl | (simp; done)) (fun _ _ _ _ => leF.refl) (by first | (intro e; cases e; done) | (intro _; exact ⟨rfl, by first | with_reducible rfl | assumption | (symm; assumption) | omega | (dsimp only; omega) | (rw [wrap_id _ (by omega) (by omega)]; first | rfl | omega | (push_cast; omega)) | rfl | (simp; done)⟩)) | exact WC.ptr rfl (Nat.le_of_ble_eq_true rfl) | exact WC.sl rfl (Nat.le_of_ble_eq_true rfl) (by first | with_reducible rfl | assumption | (symm; assumption) | omega | (dsimp only; omega) | (rw [wrap_id _ (by omega) (by omega)]; first | rfl | omega | (push_cast; omega)) | rfl | (simp; done)) (by first | with_reducible rfl | assumption | (symm; assumption) | omega | (dsimp only; omega) | (rw [wrap_id _ (by omega) (by omega)]; first | rfl | omega | (push_cast; omega)) | rfl | (simp; done)) (fun e => e) | (refine WC.int ?_; try first | with_reducible rfl | assumption | (symm; assumption) | omega | (dsimp only; omega) | (rw [wrap_id _ (by omega) (by omega)]; first | rfl | omega | (push_cast; omega)) | rfl | (simp; done)) | (refine WC.bool ?_; try first | with_reducible rfl | assumption | (symm; assumption) | omega | (dsimp only; omega) | (rw [wrap_id _ (by omega) (by omega)]; first | rfl | omega | (push_cast; omega)) | rfl | (simp; done)) | (refine WC.str ?_; try first | with_reducible rfl | assumption | (symm; assumption) | omega | (dsimp only; omega) | (rw [wrap_id _ (by omega) (by omega)]; first | rfl | omega | (push_cast; omega)) | rfl | (simp; done)) | exact WC.imm rfl))
theorem znsMade_body : HasBody Try.prog 10 := ⟨⟨Try.f10, Try.func10, rfl, by kernel_rfl⟩⟩

/-- A command of the laws of 05: the device, the error. -/
def stepD (d : Dev) (z k : Int) : Dev := if k = 0 then resetD d z else if k = 1 then finishD d z else if k = 2 then openD d z else if k = 3 then closeD d z else appendD d z (trimS 9)
def stepE (d : Dev) (z k : Int) : Int := if k = 0 then beginE d z else if k = 1 then beginE d z else if k = 2 then openE d z else if k = 3 then closeE d z else appendE d z (trimS 9)
theorem append_sec {d : Dev} {zone : Int} {s : ByteArray} (h : appendE d zone s = 0) : ((appendD d zone s).zones.getD zone.toNat default).sectors = (d.zones.getD zone.toNat default).sectors ++ [s] := by
  obtain ⟨hb, -, -, -⟩ := appendE_zero h
  obtain ⟨_, h0, h1⟩ := beginE_zone hb
  have hk : zone.toNat < (openL d zone.toNat).length := by rw [openL_len]; omega
  simp only [appendD, if_pos h]
  have e : ((openL d zone.toNat).set zone.toNat (grow ((openL d zone.toNat).getD zone.toNat default) d.size s)).getD zone.toNat default = grow ((openL d zone.toNat).getD zone.toNat default) d.size s := by simp [List.getD, hk]
  rw [e]
  have e2 : ∀ z : Zone, (grow z d.size s).sectors = z.sectors ++ [s] := by
    intro z; unfold grow; split <;> rfl
  rw [e2, openL_get]
theorem step_spec (d : Dev) (hd : d.small) (z k : Int) (hz : 0 ≤ z ∧ z < d.zones.length) : PSpec Try.prog 30 [d.s, .c (.int .i64 z), .c (.int .i64 k)] (Dev.out (stepD d z k) (stepE d z k)) := by
  refine PSpec.rm ?_
  refine CSpec.of_vc hΓ Try.func30 rfl 87 0 [.cell 6 24, .tmp 7] Try.ntmps30 rfl (by rw [Try.results30]) rfl ?_
  have hzz := hd.z
  conv => whnf
  repeat' ((first | refine Need.auto ?_ | refine Have.mk (fun _h => ?_)); conv => whnf)
  (first | refine Br.lt (fun h0 => ?_) (fun h0 => ?_) | refine Br.le (fun h0 => ?_) (fun h0 => ?_) | refine Br.gt (fun h0 => ?_) (fun h0 => ?_) | refine Br.ge (fun h0 => ?_) (fun h0 => ?_) | refine Br.eq (fun h0 => ?_) (fun h0 => ?_) | refine Br.ne (fun h0 => ?_) (fun h0 => ?_) | refine Br.not (fun h0 => ?_) (fun h0 => ?_) | refine Br.mk (fun h0 => ?_) (fun h0 => ?_)) <;> (try simp only [Int.toNat_natCast] at h0) <;> (conv => whnf)
  · repeat' ((first | refine Need.auto ?_ | refine Have.mk (fun _h => ?_)); conv => whnf)
    refine CallN.pureA reset_body (reset_spec d hd z ) ?_
    conv => whnf
    repeat' ((first | refine Need.auto ?_ | refine Have.mk (fun _h => ?_)); conv => whnf)
    simp only [stepD, stepE, if_pos h0]
    refine RM.immW rfl ?_; (repeat' (first | exact WA.nil | refine WA.cons rfl ?_ ?_ | exact WB.nil | refine WB.cons ?_ ?_ | exact WT.nil | refine WT.cons ?_ ?_ | exact WH.nil | refine WH.cons ?_ ?_ | exact WR.nil | refine WR.cons rfl ?_ ?_ | refine WO.vr ?_ | exact WO.dead | refine WO.arr (by first | with_reducible rfl | assumption | (symm; assumption) | omega | (dsimp only; omega) | (rw [wrap_id _ (by omega) (by omega)]; first | rfl | omega | (push_cast; omega)) | rfl | (simp; done)) ?_ | exact WS.u | refine WS.c ?_ | refine WS.a ?_ | refine WS.t ?_ | exact WL.nil | refine WL.cons ?_ ?_ | exact WTL.nil | refine WTL.consC ?_ ?_ | refine WTL.consL ?_ ?_ | exact WC.nils | exact WC.nil rfl | exact WC.nilp | exact WC.fz (by first | with_reducible rfl | assumption | (symm; assumption) | omega | (dsimp only; omega) | (rw [wrap_id _ (by omega) (by omega)]; first | rfl | omega | (push_cast; omega)) | rfl | (simp; done)) (by first | with_reducible rfl | assumption | (symm; assumption) | omega | (dsimp only; omega) | (rw [wrap_id _ (by omega) (by omega)]; first | rfl | omega | (push_cast; omega)) | rfl | (simp; done)) (fun _ _ _ _ => leF.refl) (by first | (intro e; cases e; done) | (intro _; exact ⟨rfl, by first | with_reducible rfl | assumption | (symm; assumption) | omega | (dsimp only; omega) | (rw [wrap_id _ (by omega) (by omega)]; first | rfl | omega | (push_cast; omega)) | rfl | (simp; done)⟩)) | exact WC.ptr rfl (Nat.le_of_ble_eq_true rfl) | exact WC.sl rfl (Nat.le_of_ble_eq_true rfl) (by first | with_reducible rfl | assumption | (symm; assumption) | omega | (dsimp only; omega) | (rw [wrap_id _ (by omega) (by omega)]; first | rfl | omega | (push_cast; omega)) | rfl | (simp; done)) (by first | with_reducible rfl | assumption | (symm; assumption) | omega | (dsimp only; omega) | (rw [wrap_id _ (by omega) (by omega)]; first | rfl | omega | (push_cast; omega)) | rfl | (simp; done)) (fun e => e) | (refine WC.int ?_; try first | with_reducible rfl | assumption | (symm; assumption) | omega | (dsimp only; omega) | (rw [wrap_id _ (by omega) (by omega)]; first | rfl | omega | (push_cast; omega)) | rfl | (simp; done)) | (refine WC.bool ?_; try first | with_reducible rfl | assumption | (symm; assumption) | omega | (dsimp only; omega) | (rw [wrap_id _ (by omega) (by omega)]; first | rfl | omega | (push_cast; omega)) | rfl | (simp; done)) | (refine WC.str ?_; try first | with_reducible rfl | assumption | (symm; assumption) | omega | (dsimp only; omega) | (rw [wrap_id _ (by omega) (by omega)]; first | rfl | omega | (push_cast; omega)) | rfl | (simp; done)) | exact WC.imm rfl))
  · repeat' ((first | refine Need.auto ?_ | refine Have.mk (fun _h => ?_)); conv => whnf)
    (first | refine Br.lt (fun h1 => ?_) (fun h1 => ?_) | refine Br.le (fun h1 => ?_) (fun h1 => ?_) | refine Br.gt (fun h1 => ?_) (fun h1 => ?_) | refine Br.ge (fun h1 => ?_) (fun h1 => ?_) | refine Br.eq (fun h1 => ?_) (fun h1 => ?_) | refine Br.ne (fun h1 => ?_) (fun h1 => ?_) | refine Br.not (fun h1 => ?_) (fun h1 => ?_) | refine Br.mk (fun h1 => ?_) (fun h1 => ?_)) <;> (try simp only [Int.toNat_natCast] at h1) <;> (conv => whnf)
    · repeat' ((first | refine Need.auto ?_ | refine Have.mk (fun _h => ?_)); conv => whnf)
      refine CallN.pureA finish_body (finish_spec d hd z ) ?_
      conv => whnf
      repeat' ((first | refine Need.auto ?_ | refine Have.mk (fun _h => ?_)); conv => whnf)
      simp only [stepD, stepE, if_neg h0, if_pos h1]
      refine RM.immW rfl ?_; (repeat' (first | exact WA.nil | refine WA.cons rfl ?_ ?_ | exact WB.nil | refine WB.cons ?_ ?_ | exact WT.nil | refine WT.cons ?_ ?_ | exact WH.nil | refine WH.cons ?_ ?_ | exact WR.nil | refine WR.cons rfl ?_ ?_ | refine WO.vr ?_ | exact WO.dead | refine WO.arr (by first | with_reducible rfl | assumption | (symm; assumption) | omega | (dsimp only; omega) | (rw [wrap_id _ (by omega) (by omega)]; first | rfl | omega | (push_cast; omega)) | rfl | (simp; done)) ?_ | exact WS.u | refine WS.c ?_ | refine WS.a ?_ | refine WS.t ?_ | exact WL.nil | refine WL.cons ?_ ?_ | exact WTL.nil | refine WTL.consC ?_ ?_ | refine WTL.consL ?_ ?_ | exact WC.nils | exact WC.nil rfl | exact WC.nilp | exact WC.fz (by first | with_reducible rfl | assumption | (symm; assumption) | omega | (dsimp only; omega) | (rw [wrap_id _ (by omega) (by omega)]; first | rfl | omega | (push_cast; omega)) | rfl | (simp; done)) (by first | with_reducible rfl | assumption | (symm; assumption) | omega | (dsimp only; omega) | (rw [wrap_id _ (by omega) (by omega)]; first | rfl | omega | (push_cast; omega)) | rfl | (simp; done)) (fun _ _ _ _ => leF.refl) (by first | (intro e; cases e; done) | (intro _; exact ⟨rfl, by first | with_reducible rfl | assumption | (symm; assumption) | omega | (dsimp only; omega) | (rw [wrap_id _ (by omega) (by omega)]; first | rfl | omega | (push_cast; omega)) | rfl | (simp; done)⟩)) | exact WC.ptr rfl (Nat.le_of_ble_eq_true rfl) | exact WC.sl rfl (Nat.le_of_ble_eq_true rfl) (by first | with_reducible rfl | assumption | (symm; assumption) | omega | (dsimp only; omega) | (rw [wrap_id _ (by omega) (by omega)]; first | rfl | omega | (push_cast; omega)) | rfl | (simp; done)) (by first | with_reducible rfl | assumption | (symm; assumption) | omega | (dsimp only; omega) | (rw [wrap_id _ (by omega) (by omega)]; first | rfl | omega | (push_cast; omega)) | rfl | (simp; done)) (fun e => e) | (refine WC.int ?_; try first | with_reducible rfl | assumption | (symm; assumption) | omega | (dsimp only; omega) | (rw [wrap_id _ (by omega) (by omega)]; first | rfl | omega | (push_cast; omega)) | rfl | (simp; done)) | (refine WC.bool ?_; try first | with_reducible rfl | assumption | (symm; assumption) | omega | (dsimp only; omega) | (rw [wrap_id _ (by omega) (by omega)]; first | rfl | omega | (push_cast; omega)) | rfl | (simp; done)) | (refine WC.str ?_; try first | with_reducible rfl | assumption | (symm; assumption) | omega | (dsimp only; omega) | (rw [wrap_id _ (by omega) (by omega)]; first | rfl | omega | (push_cast; omega)) | rfl | (simp; done)) | exact WC.imm rfl))
    · repeat' ((first | refine Need.auto ?_ | refine Have.mk (fun _h => ?_)); conv => whnf)
      (first | refine Br.lt (fun h2 => ?_) (fun h2 => ?_) | refine Br.le (fun h2 => ?_) (fun h2 => ?_) | refine Br.gt (fun h2 => ?_) (fun h2 => ?_) | refine Br.ge (fun h2 => ?_) (fun h2 => ?_) | refine Br.eq (fun h2 => ?_) (fun h2 => ?_) | refine Br.ne (fun h2 => ?_) (fun h2 => ?_) | refine Br.not (fun h2 => ?_) (fun h2 => ?_) | refine Br.mk (fun h2 => ?_) (fun h2 => ?_)) <;> (try simp only [Int.toNat_natCast] at h2) <;> (conv => whnf)
      · repeat' ((first | refine Need.auto ?_ | refine Have.mk (fun _h => ?_)); conv => whnf)
        refine CallN.pureA open_body (open_spec d hd z ) ?_
        conv => whnf
        repeat' ((first | refine Need.auto ?_ | refine Have.mk (fun _h => ?_)); conv => whnf)
        simp only [stepD, stepE, if_neg h0, if_neg h1, if_pos h2]
        refine RM.immW rfl ?_; (repeat' (first | exact WA.nil | refine WA.cons rfl ?_ ?_ | exact WB.nil | refine WB.cons ?_ ?_ | exact WT.nil | refine WT.cons ?_ ?_ | exact WH.nil | refine WH.cons ?_ ?_ | exact WR.nil | refine WR.cons rfl ?_ ?_ | refine WO.vr ?_ | exact WO.dead | refine WO.arr (by first | with_reducible rfl | assumption | (symm; assumption) | omega | (dsimp only; omega) | (rw [wrap_id _ (by omega) (by omega)]; first | rfl | omega | (push_cast; omega)) | rfl | (simp; done)) ?_ | exact WS.u | refine WS.c ?_ | refine WS.a ?_ | refine WS.t ?_ | exact WL.nil | refine WL.cons ?_ ?_ | exact WTL.nil | refine WTL.consC ?_ ?_ | refine WTL.consL ?_ ?_ | exact WC.nils | exact WC.nil rfl | exact WC.nilp | exact WC.fz (by first | with_reducible rfl | assumption | (symm; assumption) | omega | (dsimp only; omega) | (rw [wrap_id _ (by omega) (by omega)]; first | rfl | omega | (push_cast; omega)) | rfl | (simp; done)) (by first | with_reducible rfl | assumption | (symm; assumption) | omega | (dsimp only; omega) | (rw [wrap_id _ (by omega) (by omega)]; first | rfl | omega | (push_cast; omega)) | rfl | (simp; done)) (fun _ _ _ _ => leF.refl) (by first | (intro e; cases e; done) | (intro _; exact ⟨rfl, by first | with_reducible rfl | assumption | (symm; assumption) | omega | (dsimp only; omega) | (rw [wrap_id _ (by omega) (by omega)]; first | rfl | omega | (push_cast; omega)) | rfl | (simp; done)⟩)) | exact WC.ptr rfl (Nat.le_of_ble_eq_true rfl) | exact WC.sl rfl (Nat.le_of_ble_eq_true rfl) (by first | with_reducible rfl | assumption | (symm; assumption) | omega | (dsimp only; omega) | (rw [wrap_id _ (by omega) (by omega)]; first | rfl | omega | (push_cast; omega)) | rfl | (simp; done)) (by first | with_reducible rfl | assumption | (symm; assumption) | omega | (dsimp only; omega) | (rw [wrap_id _ (by omega) (by omega)]; first | rfl | omega | (push_cast; omega)) | rfl | (simp; done)) (fun e => e) | (refine WC.int ?_; try first | with_reducible rfl | assumption | (symm; assumption) | omega | (dsimp only; omega) | (rw [wrap_id _ (by omega) (by omega)]; first | rfl | omega | (push_cast; omega)) | rfl | (simp; done)) | (refine WC.bool ?_; try first | with_reducible rfl | assumption | (symm; assumption) | omega | (dsimp only; omega) | (rw [wrap_id _ (by omega) (by omega)]; first | rfl | omega | (push_cast; omega)) | rfl | (simp; done)) | (refine WC.str ?_; try first | with_reducible rfl | assumption | (symm; assumption) | omega | (dsimp only; omega) | (rw [wrap_id _ (by omega) (by omega)]; first | rfl | omega | (push_cast; omega)) | rfl | (simp; done)) | exact WC.imm rfl))
      · repeat' ((first | refine Need.auto ?_ | refine Have.mk (fun _h => ?_)); conv => whnf)
        (first | refine Br.lt (fun h3 => ?_) (fun h3 => ?_) | refine Br.le (fun h3 => ?_) (fun h3 => ?_) | refine Br.gt (fun h3 => ?_) (fun h3 => ?_) | refine Br.ge (fun h3 => ?_) (fun h3 => ?_) | refine Br.eq (fun h3 => ?_) (fun h3 => ?_) | refine Br.ne (fun h3 => ?_) (fun h3 => ?_) | refine Br.not (fun h3 => ?_) (fun h3 => ?_) | refine Br.mk (fun h3 => ?_) (fun h3 => ?_)) <;> (try simp only [Int.toNat_natCast] at h3) <;> (conv => whnf)
        · repeat' ((first | refine Need.auto ?_ | refine Have.mk (fun _h => ?_)); conv => whnf)
          refine CallN.pureA close_body (close_spec d hd z ) ?_
          conv => whnf
          repeat' ((first | refine Need.auto ?_ | refine Have.mk (fun _h => ?_)); conv => whnf)
          simp only [stepD, stepE, if_neg h0, if_neg h1, if_neg h2, if_pos h3]
          refine RM.immW rfl ?_; (repeat' (first | exact WA.nil | refine WA.cons rfl ?_ ?_ | exact WB.nil | refine WB.cons ?_ ?_ | exact WT.nil | refine WT.cons ?_ ?_ | exact WH.nil | refine WH.cons ?_ ?_ | exact WR.nil | refine WR.cons rfl ?_ ?_ | refine WO.vr ?_ | exact WO.dead | refine WO.arr (by first | with_reducible rfl | assumption | (symm; assumption) | omega | (dsimp only; omega) | (rw [wrap_id _ (by omega) (by omega)]; first | rfl | omega | (push_cast; omega)) | rfl | (simp; done)) ?_ | exact WS.u | refine WS.c ?_ | refine WS.a ?_ | refine WS.t ?_ | exact WL.nil | refine WL.cons ?_ ?_ | exact WTL.nil | refine WTL.consC ?_ ?_ | refine WTL.consL ?_ ?_ | exact WC.nils | exact WC.nil rfl | exact WC.nilp | exact WC.fz (by first | with_reducible rfl | assumption | (symm; assumption) | omega | (dsimp only; omega) | (rw [wrap_id _ (by omega) (by omega)]; first | rfl | omega | (push_cast; omega)) | rfl | (simp; done)) (by first | with_reducible rfl | assumption | (symm; assumption) | omega | (dsimp only; omega) | (rw [wrap_id _ (by omega) (by omega)]; first | rfl | omega | (push_cast; omega)) | rfl | (simp; done)) (fun _ _ _ _ => leF.refl) (by first | (intro e; cases e; done) | (intro _; exact ⟨rfl, by first | with_reducible rfl | assumption | (symm; assumption) | omega | (dsimp only; omega) | (rw [wrap_id _ (by omega) (by omega)]; first | rfl | omega | (push_cast; omega)) | rfl | (simp; done)⟩)) | exact WC.ptr rfl (Nat.le_of_ble_eq_true rfl) | exact WC.sl rfl (Nat.le_of_ble_eq_true rfl) (by first | with_reducible rfl | assumption | (symm; assumption) | omega | (dsimp only; omega) | (rw [wrap_id _ (by omega) (by omega)]; first | rfl | omega | (push_cast; omega)) | rfl | (simp; done)) (by first | with_reducible rfl | assumption | (symm; assumption) | omega | (dsimp only; omega) | (rw [wrap_id _ (by omega) (by omega)]; first | rfl | omega | (push_cast; omega)) | rfl | (simp; done)) (fun e => e) | (refine WC.int ?_; try first | with_reducible rfl | assumption | (symm; assumption) | omega | (dsimp only; omega) | (rw [wrap_id _ (by omega) (by omega)]; first | rfl | omega | (push_cast; omega)) | rfl | (simp; done)) | (refine WC.bool ?_; try first | with_reducible rfl | assumption | (symm; assumption) | omega | (dsimp only; omega) | (rw [wrap_id _ (by omega) (by omega)]; first | rfl | omega | (push_cast; omega)) | rfl | (simp; done)) | (refine WC.str ?_; try first | with_reducible rfl | assumption | (symm; assumption) | omega | (dsimp only; omega) | (rw [wrap_id _ (by omega) (by omega)]; first | rfl | omega | (push_cast; omega)) | rfl | (simp; done)) | exact WC.imm rfl))
        · repeat' ((first | refine Need.auto ?_ | refine Have.mk (fun _h => ?_)); conv => whnf)
          refine Dr.mkE hΓ hMix [] [(7, 10), (8, 10)] (by kernel_rfl) ?_; conv => whnf
          repeat' ((first | refine Need.auto ?_ | refine Have.mk (fun _h => ?_)); conv => whnf)
          refine CallP.auto sector_body (sector_spec ⟨2, 0, 9, 0, ByteArray.empty⟩ ) ?_
          conv => whnf
          repeat' ((first | refine Need.auto ?_ | refine Have.mk (fun _h => ?_)); conv => whnf)
          refine CallP.auto append_body (append_spec d hd z (trimS 9) ) ?_
          conv => whnf
          repeat' ((first | refine Need.auto ?_ | refine Have.mk (fun _h => ?_)); conv => whnf)
          have hs := hd.s z.toNat
          refine Br.no ?_ ?_
          · by_cases e : appendE d z (trimS 9) = 0
            · have e1 : appendI d z (trimS 9) = (d.zones.getD z.toNat default).sectors.length := if_pos e
              rw [e1, append_len, append_sec e, wrap_id _ (by omega) (by omega)]
              simp
            · simp [e]
          conv => whnf
          repeat' ((first | refine Need.auto ?_ | refine Have.mk (fun _h => ?_)); conv => whnf)
          simp only [stepD, stepE, if_neg h0, if_neg h1, if_neg h2, if_neg h3]
          refine RM.immW rfl ?_; (repeat' (first | exact WA.nil | refine WA.cons rfl ?_ ?_ | exact WB.nil | refine WB.cons ?_ ?_ | exact WT.nil | refine WT.cons ?_ ?_ | exact WH.nil | refine WH.cons ?_ ?_ | exact WR.nil | refine WR.cons rfl ?_ ?_ | refine WO.vr ?_ | exact WO.dead | refine WO.arr (by first | with_reducible rfl | assumption | (symm; assumption) | omega | (dsimp only; omega) | (rw [wrap_id _ (by omega) (by omega)]; first | rfl | omega | (push_cast; omega)) | rfl | (simp; done)) ?_ | exact WS.u | refine WS.c ?_ | refine WS.a ?_ | refine WS.t ?_ | exact WL.nil | refine WL.cons ?_ ?_ | exact WTL.nil | refine WTL.consC ?_ ?_ | refine WTL.consL ?_ ?_ | exact WC.nils | exact WC.nil rfl | exact WC.nilp | exact WC.fz (by first | with_reducible rfl | assumption | (symm; assumption) | omega | (dsimp only; omega) | (rw [wrap_id _ (by omega) (by omega)]; first | rfl | omega | (push_cast; omega)) | rfl | (simp; done)) (by first | with_reducible rfl | assumption | (symm; assumption) | omega | (dsimp only; omega) | (rw [wrap_id _ (by omega) (by omega)]; first | rfl | omega | (push_cast; omega)) | rfl | (simp; done)) (fun _ _ _ _ => leF.refl) (by first | (intro e; cases e; done) | (intro _; exact ⟨rfl, by first | with_reducible rfl | assumption | (symm; assumption) | omega | (dsimp only; omega) | (rw [wrap_id _ (by omega) (by omega)]; first | rfl | omega | (push_cast; omega)) | rfl | (simp; done)⟩)) | exact WC.ptr rfl (Nat.le_of_ble_eq_true rfl) | exact WC.sl rfl (Nat.le_of_ble_eq_true rfl) (by first | with_reducible rfl | assumption | (symm; assumption) | omega | (dsimp only; omega) | (rw [wrap_id _ (by omega) (by omega)]; first | rfl | omega | (push_cast; omega)) | rfl | (simp; done)) (by first | with_reducible rfl | assumption | (symm; assumption) | omega | (dsimp only; omega) | (rw [wrap_id _ (by omega) (by omega)]; first | rfl | omega | (push_cast; omega)) | rfl | (simp; done)) (fun e => e) | (refine WC.int ?_; try first | with_reducible rfl | assumption | (symm; assumption) | omega | (dsimp only; omega) | (rw [wrap_id _ (by omega) (by omega)]; first | rfl | omega | (push_cast; omega)) | rfl | (simp; done)) | (refine WC.bool ?_; try first | with_reducible rfl | assumption | (symm; assumption) | omega | (dsimp only; omega) | (rw [wrap_id _ (by omega) (by omega)]; first | rfl | omega | (push_cast; omega)) | rfl | (simp; done)) | (refine WC.str ?_; try first | with_reducible rfl | assumption | (symm; assumption) | omega | (dsimp only; omega) | (rw [wrap_id _ (by omega) (by omega)]; first | rfl | omega | (push_cast; omega)) | rfl | (simp; done)) | exact WC.imm rfl))
theorem step_body : HasBody Try.prog 30 := ⟨⟨Try.f30, Try.func30, rfl, by kernel_rfl⟩⟩
theorem stepD_ok {d : Dev} (h : d.ok) (z k : Int) : (stepD d z k).ok := by
  unfold stepD
  split
  · exact reset_ok h _
  split
  · exact finish_ok h _
  split
  · exact open_ok h _
  split
  · exact close_ok h _
  · exact append_ok h _ _
theorem stepD_len (d : Dev) (z k : Int) : (stepD d z k).zones.length = d.zones.length := by
  unfold stepD
  split
  · exact reset_len _ _
  split
  · exact finish_len _ _
  split
  · exact open_len _ _
  split
  · exact close_len _ _
  · exact append_len _ _ _
theorem stepE_err {d : Dev} {z k : Int} (h : stepE d z k ≠ 0) : stepD d z k = d := by
  unfold stepE at h
  unfold stepD
  split at h
  · rename_i c; rw [if_pos c]; exact if_neg h
  · rename_i c; rw [if_neg c]
    split at h
    · rename_i c; rw [if_pos c]; exact if_neg h
    · rename_i c; rw [if_neg c]
      split at h
      · rename_i c; rw [if_pos c]; exact if_neg h
      · rename_i c; rw [if_neg c]
        split at h
        · rename_i c; rw [if_pos c]; exact if_neg h
        · rename_i c; rw [if_neg c]; exact if_neg h
/-- The sectors of a zone stay at the beginning, if it is not reset. -/
theorem step_sec {d : Dev} {z k : Int} {j : Nat} (h : k ≠ 0 ∨ (j : Int) ≠ z ∨ stepE d z k ≠ 0) : ∃ r, ((stepD d z k).zones.getD j default).sectors = (d.zones.getD j default).sectors ++ r := by
  have base : ∃ r, (d.zones.getD j default).sectors = (d.zones.getD j default).sectors ++ r := ⟨[], by simp⟩
  have set0 : ∀ (l : List Zone) (i : Nat) (x : Zone), (∀ q, (l.getD q default).sectors = (d.zones.getD q default).sectors) → (∃ r, x.sectors = (d.zones.getD i default).sectors ++ r) → ∃ r, ((l.set i x).getD j default).sectors = (d.zones.getD j default).sectors ++ r := by
    intro l i x hl ⟨r, hx⟩
    by_cases c : j = i
    · subst c
      by_cases hj : j < l.length
      · have e : (l.set j x).getD j default = x := by simp [List.getD, hj]
        rw [e]; exact ⟨r, hx⟩
      · rw [List.set_eq_of_length_le (by omega), hl]; exact base
    · have e : (l.set i x).getD j default = l.getD j default := by
        simp only [List.getD]
        rw [List.getElem?_set_ne (Ne.symm c)]
      rw [e, hl]; exact base
  by_cases he : stepE d z k = 0
  · have he0 := he
    unfold stepD
    unfold stepE at he
    split
    · rename_i c
      rw [if_pos c] at he
      obtain ⟨_, h0, h1⟩ := beginE_zone he
      have hj : j ≠ z.toNat := by
        rcases h with h | h | h
        · exact absurd c h
        · omega
        · exact absurd he0 h
      rw [show resetD d z = { d with zones := d.zones.set z.toNat zone0 } from if_pos he]
      dsimp only
      have e : (d.zones.set z.toNat zone0).getD j default = d.zones.getD j default := by
        simp only [List.getD]
        rw [List.getElem?_set_ne (Ne.symm hj)]
      rw [e]; exact base
    · rename_i c
      rw [if_neg c] at he
      split
      · rename_i c
        unfold finishD
        split
        · exact set0 _ _ _ (fun _ => rfl) (by unfold finishZ; split <;> exact ⟨[], by simp⟩)
        · exact base
      · split
        · unfold openD
          split
          · exact set0 _ _ _ (fun q => openL_get d z.toNat q) ⟨[], by dsimp only; rw [openL_get]; simp⟩
          · exact base
        · split
          · unfold closeD
            split
            · split
              · exact set0 _ _ _ (fun _ => rfl) ⟨[], by simp [shutZ]⟩
              · exact base
            · exact base
          · unfold appendD
            split
            · refine set0 _ _ _ (fun q => openL_get d z.toNat q) ⟨[trimS 9], ?_⟩
              have e2 : ∀ x : Zone, (grow x d.size (trimS 9)).sectors = x.sectors ++ [trimS 9] := by
                intro x; unfold grow; split <;> rfl
              rw [e2, openL_get]
            · exact base
  · rw [stepE_err he]; exact base
theorem read_ok {d : Dev} (h : d.ok) {j o : Nat} (hj : j < d.zones.length) (ho : o < (d.zones.getD j default).sectors.length) : readE d j o = 0 ∧ readS d j o = (d.zones.getD j default).sectors.getD o ByteArray.empty := by
  have h5 : (d.zones.getD j default).state ≠ 5 := by
    intro h5
    have := (h.all.get hj).emp (.inr h5)
    omega
  have hb : beginE d j = 0 := by
    simp only [beginE, check_ok.2 h, if_pos]
    rw [decide_eq_true (by omega), if_pos rfl, Int.toNat_natCast, if_neg h5]
  have he : readE d j o = 0 := by
    simp only [readE, if_pos hb]
    rw [Int.toNat_natCast, decide_eq_true (by omega)]; rfl
  exact ⟨he, by simp only [readS, if_pos he, Int.toNat_natCast]⟩

/-- The command out of a number. -/
theorem cmd_range (s : Int) (n : Nat) (h : 0 ≤ s ∧ s ≤ 65535) (hn : 1 ≤ n) : 0 ≤ s.tmod n ∧ s.tmod n < n := by
  exact ⟨Int.tmod_nonneg _ h.1, Int.tmod_lt_of_pos _ (by omega)⟩
theorem u16_i64 {s : Int} (h : 0 ≤ s ∧ s ≤ 65535) : IntKind.i64.wrap s = s := wrap_id _ (by omega) (by omega)

theorem znsStays_spec (l steps : List Int) (hst : ∀ n ∈ steps, 0 ≤ n ∧ n ≤ 65535) : PSpec Try.prog 11 [.c (intsC l), .c (.isl 1 steps.length (intsG .u16 steps) false)] (.c (.bool true)) := by
  refine PSpec.rm ?_
  refine CSpec.of_vc hΓ Try.func11 rfl 131 0 [.tmp 4] Try.ntmps11 rfl (by rw [Try.results11]) rfl ?_
  conv => whnf
  refine CallN.pureA light_body (light_spec l ) ?_
  conv => whnf
  repeat' ((first | refine Need.auto ?_ | refine Have.mk (fun _h => ?_)); conv => whnf)
  (first | refine Br.lt (fun h => ?_) (fun h => ?_) | refine Br.le (fun h => ?_) (fun h => ?_) | refine Br.gt (fun h => ?_) (fun h => ?_) | refine Br.ge (fun h => ?_) (fun h => ?_) | refine Br.eq (fun h => ?_) (fun h => ?_) | refine Br.ne (fun h => ?_) (fun h => ?_) | refine Br.not (fun h => ?_) (fun h => ?_) | (refine Br.mk (fun h => ?_) (fun h => ?_) <;> simp [-List.length_eq_zero_iff, -List.getD_eq_getElem?_getD] at h)) <;> (try simp only [Int.toNat_natCast] at h) <;> (conv => whnf)
  · repeat' ((first | refine Need.auto ?_ | refine Have.mk (fun _h => ?_)); conv => whnf)
    refine CallN.pureA awake5_body awake5_spec ?_
    conv => whnf
    repeat' ((first | refine Need.auto ?_ | refine Have.mk (fun _h => ?_)); conv => whnf)
    refine RM.immW rfl ?_; (repeat' (first | exact WA.nil | refine WA.cons rfl ?_ ?_ | exact WB.nil | refine WB.cons ?_ ?_ | exact WT.nil | refine WT.cons ?_ ?_ | exact WH.nil | refine WH.cons ?_ ?_ | exact WR.nil | refine WR.cons rfl ?_ ?_ | refine WO.vr ?_ | exact WO.dead | refine WO.arr (by first | with_reducible rfl | assumption | (symm; assumption) | omega | (dsimp only; omega) | (rw [wrap_id _ (by omega) (by omega)]; first | rfl | omega | (push_cast; omega)) | rfl | (simp; done)) ?_ | exact WS.u | refine WS.c ?_ | refine WS.a ?_ | refine WS.t ?_ | exact WL.nil | refine WL.cons ?_ ?_ | exact WTL.nil | refine WTL.consC ?_ ?_ | refine WTL.consL ?_ ?_ | exact WC.nils | exact WC.nil rfl | exact WC.nilp | exact WC.fz (by first | with_reducible rfl | assumption | (symm; assumption) | omega | (dsimp only; omega) | (rw [wrap_id _ (by omega) (by omega)]; first | rfl | omega | (push_cast; omega)) | rfl | (simp; done)) (by first | with_reducible rfl | assumption | (symm; assumption) | omega | (dsimp only; omega) | (rw [wrap_id _ (by omega) (by omega)]; first | rfl | omega | (push_cast; omega)) | rfl | (simp; done)) (fun _ _ _ _ => leF.refl) (by first | (intro e; cases e; done) | (intro _; exact ⟨rfl, by first | with_reducible rfl | assumption | (symm; assumption) | omega | (dsimp only; omega) | (rw [wrap_id _ (by omega) (by omega)]; first | rfl | omega | (push_cast; omega)) | rfl | (simp; done)⟩)) | exact WC.ptr rfl (Nat.le_of_ble_eq_true rfl) | exact WC.sl rfl (Nat.le_of_ble_eq_true rfl) (by first | with_reducible rfl | assumption | (symm; assumption) | omega | (dsimp only; omega) | (rw [wrap_id _ (by omega) (by omega)]; first | rfl | omega | (push_cast; omega)) | rfl | (simp; done)) (by first | with_reducible rfl | assumption | (symm; assumption) | omega | (dsimp only; omega) | (rw [wrap_id _ (by omega) (by omega)]; first | rfl | omega | (push_cast; omega)) | rfl | (simp; done)) (fun e => e) | (refine WC.int ?_; try first | with_reducible rfl | assumption | (symm; assumption) | omega | (dsimp only; omega) | (rw [wrap_id _ (by omega) (by omega)]; first | rfl | omega | (push_cast; omega)) | rfl | (simp; done)) | (refine WC.bool ?_; try first | with_reducible rfl | assumption | (symm; assumption) | omega | (dsimp only; omega) | (rw [wrap_id _ (by omega) (by omega)]; first | rfl | omega | (push_cast; omega)) | rfl | (simp; done)) | (refine WC.str ?_; try first | with_reducible rfl | assumption | (symm; assumption) | omega | (dsimp only; omega) | (rw [wrap_id _ (by omega) (by omega)]; first | rfl | omega | (push_cast; omega)) | rfl | (simp; done)) | exact WC.imm rfl))
  · repeat' ((first | refine Need.auto ?_ | refine Have.mk (fun _h => ?_)); conv => whnf)
    have ok := (deviceD_ok l).1
    have hl : l.length ≤ 300 := by simpa using h.1
    have hn1 := (confOk_iff.1 ok.conf).n
    refine CallN.pureA device_body (device_spec l (by omega) ) ?_
    conv => whnf
    generalize deviceD l = d0 at ok hn1 ⊢
    conv => whnf
    repeat' ((first | refine Need.auto ?_ | refine Have.mk (fun _h => ?_)); conv => whnf)
    have hN : 1 ≤ d0.zones.length ∧ d0.zones.length ≤ 32 := hn1
    refine Lp.mkK hΓ (ι := Nat × Dev) [1, 5] (fun p => [(7, .c (.int .i64 p.1)), (6, .c (.int .i64 d0.zones.length))]) (fun p => [.vr p.2.cells]) (fun p => p.1 ≤ steps.length ∧ p.2.ok ∧ p.2.zones.length = d0.zones.length) (fun p => steps.length - p.1) (0, d0) ⟨Nat.zero_le _, ok, rfl⟩ ?_ ?_
    · refine Mv.mkW ?_ ?_ (Nat.le_of_ble_eq_true rfl) <;> (repeat' (first | exact WA.nil | refine WA.cons rfl ?_ ?_ | exact WB.nil | refine WB.cons ?_ ?_ | exact WT.nil | refine WT.cons ?_ ?_ | exact WH.nil | refine WH.cons ?_ ?_ | exact WR.nil | refine WR.cons rfl ?_ ?_ | refine WO.vr ?_ | exact WO.dead | refine WO.arr (by first | with_reducible rfl | assumption | (symm; assumption) | omega | (dsimp only; omega) | (rw [wrap_id _ (by omega) (by omega)]; first | rfl | omega | (push_cast; omega)) | rfl | (simp; done)) ?_ | exact WS.u | refine WS.c ?_ | refine WS.a ?_ | refine WS.t ?_ | exact WL.nil | refine WL.cons ?_ ?_ | exact WTL.nil | refine WTL.consC ?_ ?_ | refine WTL.consL ?_ ?_ | exact WC.nils | exact WC.nil rfl | exact WC.nilp | exact WC.fz (by first | with_reducible rfl | assumption | (symm; assumption) | omega | (dsimp only; omega) | (rw [wrap_id _ (by omega) (by omega)]; first | rfl | omega | (push_cast; omega)) | rfl | (simp; done)) (by first | with_reducible rfl | assumption | (symm; assumption) | omega | (dsimp only; omega) | (rw [wrap_id _ (by omega) (by omega)]; first | rfl | omega | (push_cast; omega)) | rfl | (simp; done)) (fun _ _ _ _ => leF.refl) (by first | (intro e; cases e; done) | (intro _; exact ⟨rfl, by first | with_reducible rfl | assumption | (symm; assumption) | omega | (dsimp only; omega) | (rw [wrap_id _ (by omega) (by omega)]; first | rfl | omega | (push_cast; omega)) | rfl | (simp; done)⟩)) | exact WC.ptr rfl (Nat.le_of_ble_eq_true rfl) | exact WC.sl rfl (Nat.le_of_ble_eq_true rfl) (by first | with_reducible rfl | assumption | (symm; assumption) | omega | (dsimp only; omega) | (rw [wrap_id _ (by omega) (by omega)]; first | rfl | omega | (push_cast; omega)) | rfl | (simp; done)) (by first | with_reducible rfl | assumption | (symm; assumption) | omega | (dsimp only; omega) | (rw [wrap_id _ (by omega) (by omega)]; first | rfl | omega | (push_cast; omega)) | rfl | (simp; done)) (fun e => e) | (refine WC.int ?_; try first | with_reducible rfl | assumption | (symm; assumption) | omega | (dsimp only; omega) | (rw [wrap_id _ (by omega) (by omega)]; first | rfl | omega | (push_cast; omega)) | rfl | (simp; done)) | (refine WC.bool ?_; try first | with_reducible rfl | assumption | (symm; assumption) | omega | (dsimp only; omega) | (rw [wrap_id _ (by omega) (by omega)]; first | rfl | omega | (push_cast; omega)) | rfl | (simp; done)) | (refine WC.str ?_; try first | with_reducible rfl | assumption | (symm; assumption) | omega | (dsimp only; omega) | (rw [wrap_id _ (by omega) (by omega)]; first | rfl | omega | (push_cast; omega)) | rfl | (simp; done)) | exact WC.imm rfl))
    · rintro ⟨i, d⟩ ⟨hi, hd, hdn⟩
      dsimp only at hi hd hdn
      conv => whnf
      repeat' ((first | refine Need.auto ?_ | refine Have.mk (fun _h => ?_)); conv => whnf)
      (first | refine Br.lt (fun h1 => ?_) (fun h1 => ?_) | refine Br.le (fun h1 => ?_) (fun h1 => ?_) | refine Br.gt (fun h1 => ?_) (fun h1 => ?_) | refine Br.ge (fun h1 => ?_) (fun h1 => ?_) | refine Br.eq (fun h1 => ?_) (fun h1 => ?_) | refine Br.ne (fun h1 => ?_) (fun h1 => ?_) | refine Br.not (fun h1 => ?_) (fun h1 => ?_) | refine Br.mk (fun h1 => ?_) (fun h1 => ?_)) <;> (try simp only [Int.toNat_natCast] at h1) <;> (conv => whnf)
      · repeat' ((first | refine Need.auto ?_ | refine Have.mk (fun _h => ?_)); conv => whnf)
        have hlt : i < steps.length := by omega
        have hs := hst (steps.getD i 0) (by
          have : steps.getD i 0 = steps[i] := by simp [List.getD, hlt]
          rw [this]; exact List.getElem_mem hlt)
        have hsw := u16_i64 hs
        obtain ⟨z0, z1⟩ := cmd_range (steps.getD i 0) d0.zones.length hs hN.1
        refine Dr.mk hΓ hMix (by kernel_rfl) ?_; conv => whnf
        repeat' ((first | refine Need.auto ?_ | refine Have.mk (fun _h => ?_)); conv => whnf)
        rw [← hsw] at z0 z1
        obtain ⟨zc, hzc⟩ : ∃ zc : Int, (IntKind.i64.wrap (steps.getD i 0)).tmod d0.zones.length = zc := ⟨_, rfl⟩
        obtain ⟨kc, hkc⟩ : ∃ kc : Int, (IntKind.i64.wrap ((IntKind.i64.wrap (steps.getD i 0)).tdiv d0.zones.length)).tmod 5 = kc := ⟨_, rfl⟩
        rw [hzc] at z0 z1
        refine CallN.pureA step_body (step_spec d hd.small zc kc (by omega) ) ?_
        conv => whnf
        repeat' ((first | refine Need.auto ?_ | refine Have.mk (fun _h => ?_)); conv => whnf)
        have hok2 := stepD_ok hd zc kc
        have hln2 := stepD_len d zc kc
        refine CallN.pureA check_body (check_spec (stepD d zc kc) ) ?_
        conv => whnf
        repeat' ((first | refine Need.auto ?_ | refine Have.mk (fun _h => ?_)); conv => whnf)
        refine CallG.auto same_body (fun _ => same_spec (stepD d zc kc) d ) ?_
        conv => whnf
        repeat' ((first | refine Need.auto ?_ | refine Have.mk (fun _h => ?_)); conv => whnf)
        refine Br.no ?_ ?_
        · rw [check_ok.2 hok2, hln2, hdn]
          by_cases e : stepE d zc kc = 0
          · simp [e]
          · rw [stepE_err e, same_refl]; simp
        conv => whnf
        repeat' ((first | refine Need.auto ?_ | refine Have.mk (fun _h => ?_)); conv => whnf)
        have hdz := hd.small.z
        refine Lp.mkH hΓ (ι := Nat) [5, 6, 7, 8, 9, 10, 11, 1] (fun j => [(12, .c (.int .i64 j))]) (fun j => j ≤ d.zones.length) (fun j => d.zones.length - j) 0 (Nat.zero_le _) ?_ ?_
        · refine Mv.mkW ?_ ?_ (Nat.le_of_ble_eq_true rfl) <;> (repeat' (first | exact WA.nil | refine WA.cons rfl ?_ ?_ | exact WB.nil | refine WB.cons ?_ ?_ | exact WT.nil | refine WT.cons ?_ ?_ | exact WH.nil | refine WH.cons ?_ ?_ | exact WR.nil | refine WR.cons rfl ?_ ?_ | refine WO.vr ?_ | exact WO.dead | refine WO.arr (by first | with_reducible rfl | assumption | (symm; assumption) | omega | (dsimp only; omega) | (rw [wrap_id _ (by omega) (by omega)]; first | rfl | omega | (push_cast; omega)) | rfl | (simp; done)) ?_ | exact WS.u | refine WS.c ?_ | refine WS.a ?_ | refine WS.t ?_ | exact WL.nil | refine WL.cons ?_ ?_ | exact WTL.nil | refine WTL.consC ?_ ?_ | refine WTL.consL ?_ ?_ | exact WC.nils | exact WC.nil rfl | exact WC.nilp | exact WC.fz (by first | with_reducible rfl | assumption | (symm; assumption) | omega | (dsimp only; omega) | (rw [wrap_id _ (by omega) (by omega)]; first | rfl | omega | (push_cast; omega)) | rfl | (simp; done)) (by first | with_reducible rfl | assumption | (symm; assumption) | omega | (dsimp only; omega) | (rw [wrap_id _ (by omega) (by omega)]; first | rfl | omega | (push_cast; omega)) | rfl | (simp; done)) (fun _ _ _ _ => leF.refl) (by first | (intro e; cases e; done) | (intro _; exact ⟨rfl, by first | with_reducible rfl | assumption | (symm; assumption) | omega | (dsimp only; omega) | (rw [wrap_id _ (by omega) (by omega)]; first | rfl | omega | (push_cast; omega)) | rfl | (simp; done)⟩)) | exact WC.ptr rfl (Nat.le_of_ble_eq_true rfl) | exact WC.sl rfl (Nat.le_of_ble_eq_true rfl) (by first | with_reducible rfl | assumption | (symm; assumption) | omega | (dsimp only; omega) | (rw [wrap_id _ (by omega) (by omega)]; first | rfl | omega | (push_cast; omega)) | rfl | (simp; done)) (by first | with_reducible rfl | assumption | (symm; assumption) | omega | (dsimp only; omega) | (rw [wrap_id _ (by omega) (by omega)]; first | rfl | omega | (push_cast; omega)) | rfl | (simp; done)) (fun e => e) | (refine WC.int ?_; try first | with_reducible rfl | assumption | (symm; assumption) | omega | (dsimp only; omega) | (rw [wrap_id _ (by omega) (by omega)]; first | rfl | omega | (push_cast; omega)) | rfl | (simp; done)) | (refine WC.bool ?_; try first | with_reducible rfl | assumption | (symm; assumption) | omega | (dsimp only; omega) | (rw [wrap_id _ (by omega) (by omega)]; first | rfl | omega | (push_cast; omega)) | rfl | (simp; done)) | (refine WC.str ?_; try first | with_reducible rfl | assumption | (symm; assumption) | omega | (dsimp only; omega) | (rw [wrap_id _ (by omega) (by omega)]; first | rfl | omega | (push_cast; omega)) | rfl | (simp; done)) | exact WC.imm rfl))
        · intro j hj
          conv => whnf
          repeat' ((first | refine Need.auto ?_ | refine Have.mk (fun _h => ?_)); conv => whnf)
          (first | refine Br.lt (fun h2 => ?_) (fun h2 => ?_) | refine Br.le (fun h2 => ?_) (fun h2 => ?_) | refine Br.gt (fun h2 => ?_) (fun h2 => ?_) | refine Br.ge (fun h2 => ?_) (fun h2 => ?_) | refine Br.eq (fun h2 => ?_) (fun h2 => ?_) | refine Br.ne (fun h2 => ?_) (fun h2 => ?_) | refine Br.not (fun h2 => ?_) (fun h2 => ?_) | refine Br.mk (fun h2 => ?_) (fun h2 => ?_)) <;> (try simp only [Int.toNat_natCast] at h2) <;> (conv => whnf)
          · repeat' ((first | refine Need.auto ?_ | refine Have.mk (fun _h => ?_)); conv => whnf)
            have hjl : j < d.zones.length := by omega
            refine Lp.mkH hΓ (ι := Nat) [5, 6, 7, 8, 9, 10, 11, 12, 1] (fun o => [(13, .c (.int .i64 o))]) (fun o => o ≤ (d.zones.getD j default).sectors.length) (fun o => (d.zones.getD j default).sectors.length - o) 0 (Nat.zero_le _) ?_ ?_
            · refine Mv.mkW ?_ ?_ (Nat.le_of_ble_eq_true rfl) <;> (repeat' (first | exact WA.nil | refine WA.cons rfl ?_ ?_ | exact WB.nil | refine WB.cons ?_ ?_ | exact WT.nil | refine WT.cons ?_ ?_ | exact WH.nil | refine WH.cons ?_ ?_ | exact WR.nil | refine WR.cons rfl ?_ ?_ | refine WO.vr ?_ | exact WO.dead | refine WO.arr (by first | with_reducible rfl | assumption | (symm; assumption) | omega | (dsimp only; omega) | (rw [wrap_id _ (by omega) (by omega)]; first | rfl | omega | (push_cast; omega)) | rfl | (simp; done)) ?_ | exact WS.u | refine WS.c ?_ | refine WS.a ?_ | refine WS.t ?_ | exact WL.nil | refine WL.cons ?_ ?_ | exact WTL.nil | refine WTL.consC ?_ ?_ | refine WTL.consL ?_ ?_ | exact WC.nils | exact WC.nil rfl | exact WC.nilp | exact WC.fz (by first | with_reducible rfl | assumption | (symm; assumption) | omega | (dsimp only; omega) | (rw [wrap_id _ (by omega) (by omega)]; first | rfl | omega | (push_cast; omega)) | rfl | (simp; done)) (by first | with_reducible rfl | assumption | (symm; assumption) | omega | (dsimp only; omega) | (rw [wrap_id _ (by omega) (by omega)]; first | rfl | omega | (push_cast; omega)) | rfl | (simp; done)) (fun _ _ _ _ => leF.refl) (by first | (intro e; cases e; done) | (intro _; exact ⟨rfl, by first | with_reducible rfl | assumption | (symm; assumption) | omega | (dsimp only; omega) | (rw [wrap_id _ (by omega) (by omega)]; first | rfl | omega | (push_cast; omega)) | rfl | (simp; done)⟩)) | exact WC.ptr rfl (Nat.le_of_ble_eq_true rfl) | exact WC.sl rfl (Nat.le_of_ble_eq_true rfl) (by first | with_reducible rfl | assumption | (symm; assumption) | omega | (dsimp only; omega) | (rw [wrap_id _ (by omega) (by omega)]; first | rfl | omega | (push_cast; omega)) | rfl | (simp; done)) (by first | with_reducible rfl | assumption | (symm; assumption) | omega | (dsimp only; omega) | (rw [wrap_id _ (by omega) (by omega)]; first | rfl | omega | (push_cast; omega)) | rfl | (simp; done)) (fun e => e) | (refine WC.int ?_; try first | with_reducible rfl | assumption | (symm; assumption) | omega | (dsimp only; omega) | (rw [wrap_id _ (by omega) (by omega)]; first | rfl | omega | (push_cast; omega)) | rfl | (simp; done)) | (refine WC.bool ?_; try first | with_reducible rfl | assumption | (symm; assumption) | omega | (dsimp only; omega) | (rw [wrap_id _ (by omega) (by omega)]; first | rfl | omega | (push_cast; omega)) | rfl | (simp; done)) | (refine WC.str ?_; try first | with_reducible rfl | assumption | (symm; assumption) | omega | (dsimp only; omega) | (rw [wrap_id _ (by omega) (by omega)]; first | rfl | omega | (push_cast; omega)) | rfl | (simp; done)) | exact WC.imm rfl))
            · intro o ho
              have hsl := hd.small.s j
              conv => whnf
              repeat' ((first | refine Need.auto ?_ | refine Have.mk (fun _h => ?_)); conv => whnf)
              (first | refine Br.lt (fun h3 => ?_) (fun h3 => ?_) | refine Br.le (fun h3 => ?_) (fun h3 => ?_) | refine Br.gt (fun h3 => ?_) (fun h3 => ?_) | refine Br.ge (fun h3 => ?_) (fun h3 => ?_) | refine Br.eq (fun h3 => ?_) (fun h3 => ?_) | refine Br.ne (fun h3 => ?_) (fun h3 => ?_) | refine Br.not (fun h3 => ?_) (fun h3 => ?_) | refine Br.mk (fun h3 => ?_) (fun h3 => ?_)) <;> (try simp only [Int.toNat_natCast] at h3) <;> (conv => whnf)
              · repeat' ((first | refine Need.auto ?_ | refine Have.mk (fun _h => ?_)); conv => whnf)
                have hol : o < (d.zones.getD j default).sectors.length := by omega
                refine CallN.pureA read_body (read_spec (stepD d zc kc) j o ) ?_
                conv => whnf
                repeat' ((first | refine Need.auto ?_ | refine Have.mk (fun _h => ?_)); conv => whnf)
                refine Br.no ?_ ?_
                · show (bif (bif (bif (IntKind.i64.wrap ((IntKind.i64.wrap (steps.getD i 0)).tdiv d0.zones.length)).tmod 5 != 0 then true else (j : Int) != (IntKind.i64.wrap (steps.getD i 0)).tmod d0.zones.length) then true else stepE d zc kc != 0) then (bif readE (stepD d zc kc) j o != 0 then true else !decide (readS (stepD d zc kc) j o = (d.zones.getD j default).sectors.getD o ByteArray.empty)) else false) = false
                  rw [hkc, hzc]
                  by_cases c : kc ≠ 0 ∨ (j : Int) ≠ zc ∨ stepE d zc kc ≠ 0
                  · obtain ⟨r, hr⟩ := step_sec c
                    have hlr : o < ((stepD d zc kc).zones.getD j default).sectors.length := by rw [hr, List.length_append]; omega
                    obtain ⟨q1, q2⟩ := read_ok hok2 (j := j) (o := o) (by omega) hlr
                    have q3 : ((stepD d zc kc).zones.getD j default).sectors.getD o ByteArray.empty = (d.zones.getD j default).sectors.getD o ByteArray.empty := by
                      rw [hr]
                      exact append_getD hol
                    rw [q1, q2, q3]
                    simp
                  · have c1 : kc = 0 := by omega
                    have c2 : (j : Int) = zc := by omega
                    have c3 : stepE d zc kc = 0 := by omega
                    rw [c3, ← c2]
                    simp [c1]
                conv => whnf
                repeat' ((first | refine Need.auto ?_ | refine Have.mk (fun _h => ?_)); conv => whnf)
                refine ⟨o + 1, by omega, by omega, ?_⟩
                refine Mv.mkW ?_ ?_ (Nat.le_of_ble_eq_true rfl) <;> (repeat' (first | exact WA.nil | refine WA.cons rfl ?_ ?_ | exact WB.nil | refine WB.cons ?_ ?_ | exact WT.nil | refine WT.cons ?_ ?_ | exact WH.nil | refine WH.cons ?_ ?_ | exact WR.nil | refine WR.cons rfl ?_ ?_ | refine WO.vr ?_ | exact WO.dead | refine WO.arr (by first | with_reducible rfl | assumption | (symm; assumption) | omega | (dsimp only; omega) | (rw [wrap_id _ (by omega) (by omega)]; first | rfl | omega | (push_cast; omega)) | rfl | (simp; done)) ?_ | exact WS.u | refine WS.c ?_ | refine WS.a ?_ | refine WS.t ?_ | exact WL.nil | refine WL.cons ?_ ?_ | exact WTL.nil | refine WTL.consC ?_ ?_ | refine WTL.consL ?_ ?_ | exact WC.nils | exact WC.nil rfl | exact WC.nilp | exact WC.fz (by first | with_reducible rfl | assumption | (symm; assumption) | omega | (dsimp only; omega) | (rw [wrap_id _ (by omega) (by omega)]; first | rfl | omega | (push_cast; omega)) | rfl | (simp; done)) (by first | with_reducible rfl | assumption | (symm; assumption) | omega | (dsimp only; omega) | (rw [wrap_id _ (by omega) (by omega)]; first | rfl | omega | (push_cast; omega)) | rfl | (simp; done)) (fun _ _ _ _ => leF.refl) (by first | (intro e; cases e; done) | (intro _; exact ⟨rfl, by first | with_reducible rfl | assumption | (symm; assumption) | omega | (dsimp only; omega) | (rw [wrap_id _ (by omega) (by omega)]; first | rfl | omega | (push_cast; omega)) | rfl | (simp; done)⟩)) | exact WC.ptr rfl (Nat.le_of_ble_eq_true rfl) | exact WC.sl rfl (Nat.le_of_ble_eq_true rfl) (by first | with_reducible rfl | assumption | (symm; assumption) | omega | (dsimp only; omega) | (rw [wrap_id _ (by omega) (by omega)]; first | rfl | omega | (push_cast; omega)) | rfl | (simp; done)) (by first | with_reducible rfl | assumption | (symm; assumption) | omega | (dsimp only; omega) | (rw [wrap_id _ (by omega) (by omega)]; first | rfl | omega | (push_cast; omega)) | rfl | (simp; done)) (fun e => e) | (refine WC.int ?_; try first | with_reducible rfl | assumption | (symm; assumption) | omega | (dsimp only; omega) | (rw [wrap_id _ (by omega) (by omega)]; first | rfl | omega | (push_cast; omega)) | rfl | (simp; done)) | (refine WC.bool ?_; try first | with_reducible rfl | assumption | (symm; assumption) | omega | (dsimp only; omega) | (rw [wrap_id _ (by omega) (by omega)]; first | rfl | omega | (push_cast; omega)) | rfl | (simp; done)) | (refine WC.str ?_; try first | with_reducible rfl | assumption | (symm; assumption) | omega | (dsimp only; omega) | (rw [wrap_id _ (by omega) (by omega)]; first | rfl | omega | (push_cast; omega)) | rfl | (simp; done)) | exact WC.imm rfl))
              · repeat' ((first | refine Need.auto ?_ | refine Have.mk (fun _h => ?_)); conv => whnf)
                refine ⟨j + 1, by omega, by omega, ?_⟩
                refine Mv.mkW ?_ ?_ (Nat.le_of_ble_eq_true rfl) <;> (repeat' (first | exact WA.nil | refine WA.cons rfl ?_ ?_ | exact WB.nil | refine WB.cons ?_ ?_ | exact WT.nil | refine WT.cons ?_ ?_ | exact WH.nil | refine WH.cons ?_ ?_ | exact WR.nil | refine WR.cons rfl ?_ ?_ | refine WO.vr ?_ | exact WO.dead | refine WO.arr (by first | with_reducible rfl | assumption | (symm; assumption) | omega | (dsimp only; omega) | (rw [wrap_id _ (by omega) (by omega)]; first | rfl | omega | (push_cast; omega)) | rfl | (simp; done)) ?_ | exact WS.u | refine WS.c ?_ | refine WS.a ?_ | refine WS.t ?_ | exact WL.nil | refine WL.cons ?_ ?_ | exact WTL.nil | refine WTL.consC ?_ ?_ | refine WTL.consL ?_ ?_ | exact WC.nils | exact WC.nil rfl | exact WC.nilp | exact WC.fz (by first | with_reducible rfl | assumption | (symm; assumption) | omega | (dsimp only; omega) | (rw [wrap_id _ (by omega) (by omega)]; first | rfl | omega | (push_cast; omega)) | rfl | (simp; done)) (by first | with_reducible rfl | assumption | (symm; assumption) | omega | (dsimp only; omega) | (rw [wrap_id _ (by omega) (by omega)]; first | rfl | omega | (push_cast; omega)) | rfl | (simp; done)) (fun _ _ _ _ => leF.refl) (by first | (intro e; cases e; done) | (intro _; exact ⟨rfl, by first | with_reducible rfl | assumption | (symm; assumption) | omega | (dsimp only; omega) | (rw [wrap_id _ (by omega) (by omega)]; first | rfl | omega | (push_cast; omega)) | rfl | (simp; done)⟩)) | exact WC.ptr rfl (Nat.le_of_ble_eq_true rfl) | exact WC.sl rfl (Nat.le_of_ble_eq_true rfl) (by first | with_reducible rfl | assumption | (symm; assumption) | omega | (dsimp only; omega) | (rw [wrap_id _ (by omega) (by omega)]; first | rfl | omega | (push_cast; omega)) | rfl | (simp; done)) (by first | with_reducible rfl | assumption | (symm; assumption) | omega | (dsimp only; omega) | (rw [wrap_id _ (by omega) (by omega)]; first | rfl | omega | (push_cast; omega)) | rfl | (simp; done)) (fun e => e) | (refine WC.int ?_; try first | with_reducible rfl | assumption | (symm; assumption) | omega | (dsimp only; omega) | (rw [wrap_id _ (by omega) (by omega)]; first | rfl | omega | (push_cast; omega)) | rfl | (simp; done)) | (refine WC.bool ?_; try first | with_reducible rfl | assumption | (symm; assumption) | omega | (dsimp only; omega) | (rw [wrap_id _ (by omega) (by omega)]; first | rfl | omega | (push_cast; omega)) | rfl | (simp; done)) | (refine WC.str ?_; try first | with_reducible rfl | assumption | (symm; assumption) | omega | (dsimp only; omega) | (rw [wrap_id _ (by omega) (by omega)]; first | rfl | omega | (push_cast; omega)) | rfl | (simp; done)) | exact WC.imm rfl))
          · repeat' ((first | refine Need.auto ?_ | refine Have.mk (fun _h => ?_)); conv => whnf)
            refine ⟨(i + 1, stepD d zc kc), ⟨by dsimp only; omega, hok2, by dsimp only; omega⟩, by dsimp only; omega, ?_⟩
            refine Mv.mkW ?_ ?_ (Nat.le_of_ble_eq_true rfl) <;> (repeat' (first | exact WA.nil | refine WA.cons rfl ?_ ?_ | exact WB.nil | refine WB.cons ?_ ?_ | exact WT.nil | refine WT.cons ?_ ?_ | exact WH.nil | refine WH.cons ?_ ?_ | exact WR.nil | refine WR.cons rfl ?_ ?_ | refine WO.vr ?_ | exact WO.dead | refine WO.arr (by first | with_reducible rfl | assumption | (symm; assumption) | omega | (dsimp only; omega) | (rw [wrap_id _ (by omega) (by omega)]; first | rfl | omega | (push_cast; omega)) | rfl | (simp; done)) ?_ | exact WS.u | refine WS.c ?_ | refine WS.a ?_ | refine WS.t ?_ | exact WL.nil | refine WL.cons ?_ ?_ | exact WTL.nil | refine WTL.consC ?_ ?_ | refine WTL.consL ?_ ?_ | exact WC.nils | exact WC.nil rfl | exact WC.nilp | exact WC.fz (by first | with_reducible rfl | assumption | (symm; assumption) | omega | (dsimp only; omega) | (rw [wrap_id _ (by omega) (by omega)]; first | rfl | omega | (push_cast; omega)) | rfl | (simp; done)) (by first | with_reducible rfl | assumption | (symm; assumption) | omega | (dsimp only; omega) | (rw [wrap_id _ (by omega) (by omega)]; first | rfl | omega | (push_cast; omega)) | rfl | (simp; done)) (fun _ _ _ _ => leF.refl) (by first | (intro e; cases e; done) | (intro _; exact ⟨rfl, by first | with_reducible rfl | assumption | (symm; assumption) | omega | (dsimp only; omega) | (rw [wrap_id _ (by omega) (by omega)]; first | rfl | omega | (push_cast; omega)) | rfl | (simp; done)⟩)) | exact WC.ptr rfl (Nat.le_of_ble_eq_true rfl) | exact WC.sl rfl (Nat.le_of_ble_eq_true rfl) (by first | with_reducible rfl | assumption | (symm; assumption) | omega | (dsimp only; omega) | (rw [wrap_id _ (by omega) (by omega)]; first | rfl | omega | (push_cast; omega)) | rfl | (simp; done)) (by first | with_reducible rfl | assumption | (symm; assumption) | omega | (dsimp only; omega) | (rw [wrap_id _ (by omega) (by omega)]; first | rfl | omega | (push_cast; omega)) | rfl | (simp; done)) (fun e => e) | (refine WC.int ?_; try first | with_reducible rfl | assumption | (symm; assumption) | omega | (dsimp only; omega) | (rw [wrap_id _ (by omega) (by omega)]; first | rfl | omega | (push_cast; omega)) | rfl | (simp; done)) | (refine WC.bool ?_; try first | with_reducible rfl | assumption | (symm; assumption) | omega | (dsimp only; omega) | (rw [wrap_id _ (by omega) (by omega)]; first | rfl | omega | (push_cast; omega)) | rfl | (simp; done)) | (refine WC.str ?_; try first | with_reducible rfl | assumption | (symm; assumption) | omega | (dsimp only; omega) | (rw [wrap_id _ (by omega) (by omega)]; first | rfl | omega | (push_cast; omega)) | rfl | (simp; done)) | exact WC.imm rfl))
      · repeat' ((first | refine Need.auto ?_ | refine Have.mk (fun _h => ?_)); conv => whnf)
        refine CallN.pureA awake5_body awake5_spec ?_
        conv => whnf
        repeat' ((first | refine Need.auto ?_ | refine Have.mk (fun _h => ?_)); conv => whnf)
        refine RM.immW rfl ?_; (repeat' (first | exact WA.nil | refine WA.cons rfl ?_ ?_ | exact WB.nil | refine WB.cons ?_ ?_ | exact WT.nil | refine WT.cons ?_ ?_ | exact WH.nil | refine WH.cons ?_ ?_ | exact WR.nil | refine WR.cons rfl ?_ ?_ | refine WO.vr ?_ | exact WO.dead | refine WO.arr (by first | with_reducible rfl | assumption | (symm; assumption) | omega | (dsimp only; omega) | (rw [wrap_id _ (by omega) (by omega)]; first | rfl | omega | (push_cast; omega)) | rfl | (simp; done)) ?_ | exact WS.u | refine WS.c ?_ | refine WS.a ?_ | refine WS.t ?_ | exact WL.nil | refine WL.cons ?_ ?_ | exact WTL.nil | refine WTL.consC ?_ ?_ | refine WTL.consL ?_ ?_ | exact WC.nils | exact WC.nil rfl | exact WC.nilp | exact WC.fz (by first | with_reducible rfl | assumption | (symm; assumption) | omega | (dsimp only; omega) | (rw [wrap_id _ (by omega) (by omega)]; first | rfl | omega | (push_cast; omega)) | rfl | (simp; done)) (by first | with_reducible rfl | assumption | (symm; assumption) | omega | (dsimp only; omega) | (rw [wrap_id _ (by omega) (by omega)]; first | rfl | omega | (push_cast; omega)) | rfl | (simp; done)) (fun _ _ _ _ => leF.refl) (by first | (intro e; cases e; done) | (intro _; exact ⟨rfl, by first | with_reducible rfl | assumption | (symm; assumption) | omega | (dsimp only; omega) | (rw [wrap_id _ (by omega) (by omega)]; first | rfl | omega | (push_cast; omega)) | rfl | (simp; done)⟩)) | exact WC.ptr rfl (Nat.le_of_ble_eq_true rfl) | exact WC.sl rfl (Nat.le_of_ble_eq_true rfl) (by first | with_reducible rfl | assumption | (symm; assumption) | omega | (dsimp only; omega) | (rw [wrap_id _ (by omega) (by omega)]; first | rfl | omega | (push_cast; omega)) | rfl | (simp; done)) (by first | with_reducible rfl | assumption | (symm; assumption) | omega | (dsimp only; omega) | (rw [wrap_id _ (by omega) (by omega)]; first | rfl | omega | (push_cast; omega)) | rfl | (simp; done)) (fun e => e) | (refine WC.int ?_; try first | with_reducible rfl | assumption | (symm; assumption) | omega | (dsimp only; omega) | (rw [wrap_id _ (by omega) (by omega)]; first | rfl | omega | (push_cast; omega)) | rfl | (simp; done)) | (refine WC.bool ?_; try first | with_reducible rfl | assumption | (symm; assumption) | omega | (dsimp only; omega) | (rw [wrap_id _ (by omega) (by omega)]; first | rfl | omega | (push_cast; omega)) | rfl | (simp; done)) | (refine WC.str ?_; try first | with_reducible rfl | assumption | (symm; assumption) | omega | (dsimp only; omega) | (rw [wrap_id _ (by omega) (by omega)]; first | rfl | omega | (push_cast; omega)) | rfl | (simp; done)) | exact WC.imm rfl))
theorem znsStays_body : HasBody Try.prog 11 := ⟨⟨Try.f11, Try.func11, rfl, by kernel_rfl⟩⟩

theorem stepE_lim {d : Dev} (h : d.ok) (z k : Int) : (stepE d z k = 8 → (cntOpen d.zones : Int) = d.maxOpen) ∧ (stepE d z k = 9 → d.maxActive ≤ cntActive d.zones) := by
  have hb := begin_vals h z
  have hc := closeE_vals h z
  unfold stepE
  split
  · exact ⟨fun e => by omega, fun e => by omega⟩
  split
  · exact ⟨fun e => by omega, fun e => by omega⟩
  split
  · exact openE_err h z
  split
  · exact ⟨fun e => by omega, fun e => by omega⟩
  · exact appendE_err h z _

theorem znsLimits_spec (l steps : List Int) (hst : ∀ n ∈ steps, 0 ≤ n ∧ n ≤ 65535) : PSpec Try.prog 12 [.c (intsC l), .c (.isl 1 steps.length (intsG .u16 steps) false)] (.c (.bool true)) := by
  refine PSpec.rm ?_
  refine CSpec.of_vc hΓ Try.func12 rfl 110 0 [.tmp 4] Try.ntmps12 rfl (by rw [Try.results12]) rfl ?_
  conv => whnf
  refine CallN.pureA light_body (light_spec l ) ?_
  conv => whnf
  repeat' ((first | refine Need.auto ?_ | refine Have.mk (fun _h => ?_)); conv => whnf)
  (first | refine Br.lt (fun h => ?_) (fun h => ?_) | refine Br.le (fun h => ?_) (fun h => ?_) | refine Br.gt (fun h => ?_) (fun h => ?_) | refine Br.ge (fun h => ?_) (fun h => ?_) | refine Br.eq (fun h => ?_) (fun h => ?_) | refine Br.ne (fun h => ?_) (fun h => ?_) | refine Br.not (fun h => ?_) (fun h => ?_) | (refine Br.mk (fun h => ?_) (fun h => ?_) <;> simp [-List.length_eq_zero_iff, -List.getD_eq_getElem?_getD] at h)) <;> (try simp only [Int.toNat_natCast] at h) <;> (conv => whnf)
  · repeat' ((first | refine Need.auto ?_ | refine Have.mk (fun _h => ?_)); conv => whnf)
    refine CallN.pureA awake5_body awake5_spec ?_
    conv => whnf
    repeat' ((first | refine Need.auto ?_ | refine Have.mk (fun _h => ?_)); conv => whnf)
    refine RM.immW rfl ?_; (repeat' (first | exact WA.nil | refine WA.cons rfl ?_ ?_ | exact WB.nil | refine WB.cons ?_ ?_ | exact WT.nil | refine WT.cons ?_ ?_ | exact WH.nil | refine WH.cons ?_ ?_ | exact WR.nil | refine WR.cons rfl ?_ ?_ | refine WO.vr ?_ | exact WO.dead | refine WO.arr (by first | with_reducible rfl | assumption | (symm; assumption) | omega | (dsimp only; omega) | (rw [wrap_id _ (by omega) (by omega)]; first | rfl | omega | (push_cast; omega)) | rfl | (simp; done)) ?_ | exact WS.u | refine WS.c ?_ | refine WS.a ?_ | refine WS.t ?_ | exact WL.nil | refine WL.cons ?_ ?_ | exact WTL.nil | refine WTL.consC ?_ ?_ | refine WTL.consL ?_ ?_ | exact WC.nils | exact WC.nil rfl | exact WC.nilp | exact WC.fz (by first | with_reducible rfl | assumption | (symm; assumption) | omega | (dsimp only; omega) | (rw [wrap_id _ (by omega) (by omega)]; first | rfl | omega | (push_cast; omega)) | rfl | (simp; done)) (by first | with_reducible rfl | assumption | (symm; assumption) | omega | (dsimp only; omega) | (rw [wrap_id _ (by omega) (by omega)]; first | rfl | omega | (push_cast; omega)) | rfl | (simp; done)) (fun _ _ _ _ => leF.refl) (by first | (intro e; cases e; done) | (intro _; exact ⟨rfl, by first | with_reducible rfl | assumption | (symm; assumption) | omega | (dsimp only; omega) | (rw [wrap_id _ (by omega) (by omega)]; first | rfl | omega | (push_cast; omega)) | rfl | (simp; done)⟩)) | exact WC.ptr rfl (Nat.le_of_ble_eq_true rfl) | exact WC.sl rfl (Nat.le_of_ble_eq_true rfl) (by first | with_reducible rfl | assumption | (symm; assumption) | omega | (dsimp only; omega) | (rw [wrap_id _ (by omega) (by omega)]; first | rfl | omega | (push_cast; omega)) | rfl | (simp; done)) (by first | with_reducible rfl | assumption | (symm; assumption) | omega | (dsimp only; omega) | (rw [wrap_id _ (by omega) (by omega)]; first | rfl | omega | (push_cast; omega)) | rfl | (simp; done)) (fun e => e) | (refine WC.int ?_; try first | with_reducible rfl | assumption | (symm; assumption) | omega | (dsimp only; omega) | (rw [wrap_id _ (by omega) (by omega)]; first | rfl | omega | (push_cast; omega)) | rfl | (simp; done)) | (refine WC.bool ?_; try first | with_reducible rfl | assumption | (symm; assumption) | omega | (dsimp only; omega) | (rw [wrap_id _ (by omega) (by omega)]; first | rfl | omega | (push_cast; omega)) | rfl | (simp; done)) | (refine WC.str ?_; try first | with_reducible rfl | assumption | (symm; assumption) | omega | (dsimp only; omega) | (rw [wrap_id _ (by omega) (by omega)]; first | rfl | omega | (push_cast; omega)) | rfl | (simp; done)) | exact WC.imm rfl))
  · repeat' ((first | refine Need.auto ?_ | refine Have.mk (fun _h => ?_)); conv => whnf)
    have ok := (deviceD_ok l).1
    have hl : l.length ≤ 300 := by simpa using h.1
    have hn1 := (confOk_iff.1 ok.conf).n
    refine CallN.pureA device_body (device_spec l (by omega) ) ?_
    conv => whnf
    generalize deviceD l = d0 at ok hn1 ⊢
    conv => whnf
    repeat' ((first | refine Need.auto ?_ | refine Have.mk (fun _h => ?_)); conv => whnf)
    refine Lp.mkK hΓ (ι := Nat × Dev) [1, 5] (fun p => [(7, .c (.int .i64 p.1)), (6, .c (.int .i64 d0.zones.length))]) (fun p => [.vr p.2.cells]) (fun p => p.1 ≤ steps.length ∧ p.2.ok ∧ p.2.zones.length = d0.zones.length) (fun p => steps.length - p.1) (0, d0) ⟨Nat.zero_le _, ok, rfl⟩ ?_ ?_
    · refine Mv.mkW ?_ ?_ (Nat.le_of_ble_eq_true rfl) <;> (repeat' (first | exact WA.nil | refine WA.cons rfl ?_ ?_ | exact WB.nil | refine WB.cons ?_ ?_ | exact WT.nil | refine WT.cons ?_ ?_ | exact WH.nil | refine WH.cons ?_ ?_ | exact WR.nil | refine WR.cons rfl ?_ ?_ | refine WO.vr ?_ | exact WO.dead | refine WO.arr (by first | with_reducible rfl | assumption | (symm; assumption) | omega | (dsimp only; omega) | (rw [wrap_id _ (by omega) (by omega)]; first | rfl | omega | (push_cast; omega)) | rfl | (simp; done)) ?_ | exact WS.u | refine WS.c ?_ | refine WS.a ?_ | refine WS.t ?_ | exact WL.nil | refine WL.cons ?_ ?_ | exact WTL.nil | refine WTL.consC ?_ ?_ | refine WTL.consL ?_ ?_ | exact WC.nils | exact WC.nil rfl | exact WC.nilp | exact WC.fz (by first | with_reducible rfl | assumption | (symm; assumption) | omega | (dsimp only; omega) | (rw [wrap_id _ (by omega) (by omega)]; first | rfl | omega | (push_cast; omega)) | rfl | (simp; done)) (by first | with_reducible rfl | assumption | (symm; assumption) | omega | (dsimp only; omega) | (rw [wrap_id _ (by omega) (by omega)]; first | rfl | omega | (push_cast; omega)) | rfl | (simp; done)) (fun _ _ _ _ => leF.refl) (by first | (intro e; cases e; done) | (intro _; exact ⟨rfl, by first | with_reducible rfl | assumption | (symm; assumption) | omega | (dsimp only; omega) | (rw [wrap_id _ (by omega) (by omega)]; first | rfl | omega | (push_cast; omega)) | rfl | (simp; done)⟩)) | exact WC.ptr rfl (Nat.le_of_ble_eq_true rfl) | exact WC.sl rfl (Nat.le_of_ble_eq_true rfl) (by first | with_reducible rfl | assumption | (symm; assumption) | omega | (dsimp only; omega) | (rw [wrap_id _ (by omega) (by omega)]; first | rfl | omega | (push_cast; omega)) | rfl | (simp; done)) (by first | with_reducible rfl | assumption | (symm; assumption) | omega | (dsimp only; omega) | (rw [wrap_id _ (by omega) (by omega)]; first | rfl | omega | (push_cast; omega)) | rfl | (simp; done)) (fun e => e) | (refine WC.int ?_; try first | with_reducible rfl | assumption | (symm; assumption) | omega | (dsimp only; omega) | (rw [wrap_id _ (by omega) (by omega)]; first | rfl | omega | (push_cast; omega)) | rfl | (simp; done)) | (refine WC.bool ?_; try first | with_reducible rfl | assumption | (symm; assumption) | omega | (dsimp only; omega) | (rw [wrap_id _ (by omega) (by omega)]; first | rfl | omega | (push_cast; omega)) | rfl | (simp; done)) | (refine WC.str ?_; try first | with_reducible rfl | assumption | (symm; assumption) | omega | (dsimp only; omega) | (rw [wrap_id _ (by omega) (by omega)]; first | rfl | omega | (push_cast; omega)) | rfl | (simp; done)) | exact WC.imm rfl))
    · rintro ⟨i, d⟩ ⟨hi, hd, hdn⟩
      dsimp only at hi hd hdn
      conv => whnf
      repeat' ((first | refine Need.auto ?_ | refine Have.mk (fun _h => ?_)); conv => whnf)
      (first | refine Br.lt (fun h1 => ?_) (fun h1 => ?_) | refine Br.le (fun h1 => ?_) (fun h1 => ?_) | refine Br.gt (fun h1 => ?_) (fun h1 => ?_) | refine Br.ge (fun h1 => ?_) (fun h1 => ?_) | refine Br.eq (fun h1 => ?_) (fun h1 => ?_) | refine Br.ne (fun h1 => ?_) (fun h1 => ?_) | refine Br.not (fun h1 => ?_) (fun h1 => ?_) | refine Br.mk (fun h1 => ?_) (fun h1 => ?_)) <;> (try simp only [Int.toNat_natCast] at h1) <;> (conv => whnf)
      · repeat' ((first | refine Need.auto ?_ | refine Have.mk (fun _h => ?_)); conv => whnf)
        have hlt : i < steps.length := by omega
        have hs := hst (steps.getD i 0) (by
          have : steps.getD i 0 = steps[i] := by simp [List.getD, hlt]
          rw [this]; exact List.getElem_mem hlt)
        have hsw := u16_i64 hs
        obtain ⟨z0, z1⟩ := cmd_range (steps.getD i 0) d0.zones.length hs hn1.1
        refine Dr.mk hΓ hMix (by kernel_rfl) ?_; conv => whnf
        repeat' ((first | refine Need.auto ?_ | refine Have.mk (fun _h => ?_)); conv => whnf)
        rw [← hsw] at z0 z1
        obtain ⟨zc, hzc⟩ : ∃ zc : Int, (IntKind.i64.wrap (steps.getD i 0)).tmod d0.zones.length = zc := ⟨_, rfl⟩
        obtain ⟨kc, hkc⟩ : ∃ kc : Int, (IntKind.i64.wrap ((IntKind.i64.wrap (steps.getD i 0)).tdiv d0.zones.length)).tmod 5 = kc := ⟨_, rfl⟩
        rw [hzc] at z0 z1
        refine CallN.pureA counts_body (counts_spec d ) ?_
        conv => whnf
        repeat' ((first | refine Need.auto ?_ | refine Have.mk (fun _h => ?_)); conv => whnf)
        refine CallN.pureA step_body (step_spec d hd.small zc kc (by omega) ) ?_
        conv => whnf
        repeat' ((first | refine Need.auto ?_ | refine Have.mk (fun _h => ?_)); conv => whnf)
        have hok2 := stepD_ok hd zc kc
        have hln2 := stepD_len d zc kc
        obtain ⟨l8, l9⟩ := stepE_lim hd zc kc
        refine Br.no ?_ ?_
        · by_cases e8 : stepE d zc kc = 8
          · rw [e8, l8 e8]; simp
          · by_cases e9 : stepE d zc kc = 9
            · have := l9 e9
              rw [e9]; simp; omega
            · simp [e8, e9]
        conv => whnf
        repeat' ((first | refine Need.auto ?_ | refine Have.mk (fun _h => ?_)); conv => whnf)
        refine CallN.pureA counts_body (counts_spec (stepD d zc kc) ) ?_
        conv => whnf
        repeat' ((first | refine Need.auto ?_ | refine Have.mk (fun _h => ?_)); conv => whnf)
        have o1 := hok2.op
        have o2 := hok2.act
        have o3 := open_le_active (stepD d zc kc).zones
        refine Br.no ?_ ?_
        · rw [decide_eq_false (by omega), decide_eq_false (by omega), decide_eq_false (by omega), hln2, hdn]
          simp
        conv => whnf
        repeat' ((first | refine Need.auto ?_ | refine Have.mk (fun _h => ?_)); conv => whnf)
        refine ⟨(i + 1, stepD d zc kc), ⟨by dsimp only; omega, hok2, by dsimp only; omega⟩, by dsimp only; omega, ?_⟩
        refine Mv.mkW ?_ ?_ (Nat.le_of_ble_eq_true rfl) <;> (repeat' (first | exact WA.nil | refine WA.cons rfl ?_ ?_ | exact WB.nil | refine WB.cons ?_ ?_ | exact WT.nil | refine WT.cons ?_ ?_ | exact WH.nil | refine WH.cons ?_ ?_ | exact WR.nil | refine WR.cons rfl ?_ ?_ | refine WO.vr ?_ | exact WO.dead | refine WO.arr (by first | with_reducible rfl | assumption | (symm; assumption) | omega | (dsimp only; omega) | (rw [wrap_id _ (by omega) (by omega)]; first | rfl | omega | (push_cast; omega)) | rfl | (simp; done)) ?_ | exact WS.u | refine WS.c ?_ | refine WS.a ?_ | refine WS.t ?_ | exact WL.nil | refine WL.cons ?_ ?_ | exact WTL.nil | refine WTL.consC ?_ ?_ | refine WTL.consL ?_ ?_ | exact WC.nils | exact WC.nil rfl | exact WC.nilp | exact WC.fz (by first | with_reducible rfl | assumption | (symm; assumption) | omega | (dsimp only; omega) | (rw [wrap_id _ (by omega) (by omega)]; first | rfl | omega | (push_cast; omega)) | rfl | (simp; done)) (by first | with_reducible rfl | assumption | (symm; assumption) | omega | (dsimp only; omega) | (rw [wrap_id _ (by omega) (by omega)]; first | rfl | omega | (push_cast; omega)) | rfl | (simp; done)) (fun _ _ _ _ => leF.refl) (by first | (intro e; cases e; done) | (intro _; exact ⟨rfl, by first | with_reducible rfl | assumption | (symm; assumption) | omega | (dsimp only; omega) | (rw [wrap_id _ (by omega) (by omega)]; first | rfl | omega | (push_cast; omega)) | rfl | (simp; done)⟩)) | exact WC.ptr rfl (Nat.le_of_ble_eq_true rfl) | exact WC.sl rfl (Nat.le_of_ble_eq_true rfl) (by first | with_reducible rfl | assumption | (symm; assumption) | omega | (dsimp only; omega) | (rw [wrap_id _ (by omega) (by omega)]; first | rfl | omega | (push_cast; omega)) | rfl | (simp; done)) (by first | with_reducible rfl | assumption | (symm; assumption) | omega | (dsimp only; omega) | (rw [wrap_id _ (by omega) (by omega)]; first | rfl | omega | (push_cast; omega)) | rfl | (simp; done)) (fun e => e) | (refine WC.int ?_; try first | with_reducible rfl | assumption | (symm; assumption) | omega | (dsimp only; omega) | (rw [wrap_id _ (by omega) (by omega)]; first | rfl | omega | (push_cast; omega)) | rfl | (simp; done)) | (refine WC.bool ?_; try first | with_reducible rfl | assumption | (symm; assumption) | omega | (dsimp only; omega) | (rw [wrap_id _ (by omega) (by omega)]; first | rfl | omega | (push_cast; omega)) | rfl | (simp; done)) | (refine WC.str ?_; try first | with_reducible rfl | assumption | (symm; assumption) | omega | (dsimp only; omega) | (rw [wrap_id _ (by omega) (by omega)]; first | rfl | omega | (push_cast; omega)) | rfl | (simp; done)) | exact WC.imm rfl))
      · repeat' ((first | refine Need.auto ?_ | refine Have.mk (fun _h => ?_)); conv => whnf)
        refine CallN.pureA awake5_body awake5_spec ?_
        conv => whnf
        repeat' ((first | refine Need.auto ?_ | refine Have.mk (fun _h => ?_)); conv => whnf)
        refine RM.immW rfl ?_; (repeat' (first | exact WA.nil | refine WA.cons rfl ?_ ?_ | exact WB.nil | refine WB.cons ?_ ?_ | exact WT.nil | refine WT.cons ?_ ?_ | exact WH.nil | refine WH.cons ?_ ?_ | exact WR.nil | refine WR.cons rfl ?_ ?_ | refine WO.vr ?_ | exact WO.dead | refine WO.arr (by first | with_reducible rfl | assumption | (symm; assumption) | omega | (dsimp only; omega) | (rw [wrap_id _ (by omega) (by omega)]; first | rfl | omega | (push_cast; omega)) | rfl | (simp; done)) ?_ | exact WS.u | refine WS.c ?_ | refine WS.a ?_ | refine WS.t ?_ | exact WL.nil | refine WL.cons ?_ ?_ | exact WTL.nil | refine WTL.consC ?_ ?_ | refine WTL.consL ?_ ?_ | exact WC.nils | exact WC.nil rfl | exact WC.nilp | exact WC.fz (by first | with_reducible rfl | assumption | (symm; assumption) | omega | (dsimp only; omega) | (rw [wrap_id _ (by omega) (by omega)]; first | rfl | omega | (push_cast; omega)) | rfl | (simp; done)) (by first | with_reducible rfl | assumption | (symm; assumption) | omega | (dsimp only; omega) | (rw [wrap_id _ (by omega) (by omega)]; first | rfl | omega | (push_cast; omega)) | rfl | (simp; done)) (fun _ _ _ _ => leF.refl) (by first | (intro e; cases e; done) | (intro _; exact ⟨rfl, by first | with_reducible rfl | assumption | (symm; assumption) | omega | (dsimp only; omega) | (rw [wrap_id _ (by omega) (by omega)]; first | rfl | omega | (push_cast; omega)) | rfl | (simp; done)⟩)) | exact WC.ptr rfl (Nat.le_of_ble_eq_true rfl) | exact WC.sl rfl (Nat.le_of_ble_eq_true rfl) (by first | with_reducible rfl | assumption | (symm; assumption) | omega | (dsimp only; omega) | (rw [wrap_id _ (by omega) (by omega)]; first | rfl | omega | (push_cast; omega)) | rfl | (simp; done)) (by first | with_reducible rfl | assumption | (symm; assumption) | omega | (dsimp only; omega) | (rw [wrap_id _ (by omega) (by omega)]; first | rfl | omega | (push_cast; omega)) | rfl | (simp; done)) (fun e => e) | (refine WC.int ?_; try first | with_reducible rfl | assumption | (symm; assumption) | omega | (dsimp only; omega) | (rw [wrap_id _ (by omega) (by omega)]; first | rfl | omega | (push_cast; omega)) | rfl | (simp; done)) | (refine WC.bool ?_; try first | with_reducible rfl | assumption | (symm; assumption) | omega | (dsimp only; omega) | (rw [wrap_id _ (by omega) (by omega)]; first | rfl | omega | (push_cast; omega)) | rfl | (simp; done)) | (refine WC.str ?_; try first | with_reducible rfl | assumption | (symm; assumption) | omega | (dsimp only; omega) | (rw [wrap_id _ (by omega) (by omega)]; first | rfl | omega | (push_cast; omega)) | rfl | (simp; done)) | exact WC.imm rfl))
theorem znsLimits_body : HasBody Try.prog 12 := ⟨⟨Try.f12, Try.func12, rfl, by kernel_rfl⟩⟩

theorem znsFills_spec (size zone : Int) (hs : 0 ≤ size ∧ size ≤ 255) (hz : 0 ≤ zone ∧ zone ≤ 255) : PSpec Try.prog 8 [.c (.int .u8 size), .c (.int .u8 zone)] (.c (.bool true)) := by
  refine PSpec.rm ?_
  refine CSpec.of_vc hΓ Try.func8 rfl 110 0 [.tmp 4] Try.ntmps8 rfl (by rw [Try.results8]) rfl ?_
  have w1 := wrap_id size (by omega) (by omega)
  have w2 := wrap_id zone (by omega) (by omega)
  have r1 := Int.tmod_lt_of_pos size (by omega : (0 : Int) < 62)
  have r2 := Int.tmod_nonneg 62 hs.1
  have r3 := Int.tmod_lt_of_pos zone (by omega : (0 : Int) < 4)
  have r4 := Int.tmod_nonneg 4 hz.1
  have w3 := wrap_id (3 + size.tmod 62) (by omega) (by omega)
  obtain ⟨n, hn⟩ : ∃ n : Int, 3 + size.tmod 62 = n := ⟨_, rfl⟩
  obtain ⟨z, hzz⟩ : ∃ z : Nat, zone.tmod 4 = z := ⟨(zone.tmod 4).toNat, by omega⟩
  have hn3 : 3 ≤ n ∧ n ≤ 64 := by omega
  have hz4 : z < 4 := by omega
  have hnew := new_spec 4 n 1 2 (by omega)
  have hok0 : (newX 4 n 1 2).ok := new_ok (by omega) (by omega) hn3.1 hn3.2 (by omega) (by omega) (by omega)
  have he : newE 4 n 1 2 = 0 := by
    simp only [newE]
    rw [decide_eq_true (by omega), if_pos rfl]
    exact check_ok.2 hok0
  have hd0 : newD 4 n 1 2 = fillD n z [] := by
    simp only [newD, he, fillD_zero n z hz4]; rfl
  rw [he, hd0] at hnew
  have hwn : IntKind.i64.wrap (3 + (IntKind.i64.wrap size).tmod 62) = n := by rw [w1, w3, hn]
  have hwz : (IntKind.i64.wrap zone).tmod 4 = (z : Int) := by rw [w2, hzz]
  conv => whnf
  repeat' ((first | refine Need.auto ?_ | refine Have.mk (fun _h => ?_)); conv => whnf)
  refine CallN.pureA new_body hnew ?_
  conv => whnf
  repeat' ((first | refine Need.auto ?_ | refine Have.mk (fun _h => ?_)); conv => whnf)
  refine Br.no rfl ?_; conv => whnf
  repeat' ((first | refine Need.auto ?_ | refine Have.mk (fun _h => ?_)); conv => whnf)
  refine Lp.mkK hΓ (ι := List ByteArray) [6] (fun l => [(9, .c (.int .i64 l.length)), (5, .c (.int .i64 n)), (8, .c (.int .i64 z))]) (fun l => [.vr (fillD n z l).cells]) (fun l => (l.length : Int) ≤ n ∧ ∀ s ∈ l, s.size = 40) (fun l => 64 - l.length) [] ⟨by simp only [List.length_nil]; omega, fun s hs => by cases hs⟩ ?_ ?_
  · refine Mv.mkW ?_ ?_ (Nat.le_of_ble_eq_true rfl) <;> (repeat' (first | exact WA.nil | refine WA.cons rfl ?_ ?_ | exact WB.nil | refine WB.cons ?_ ?_ | exact WT.nil | refine WT.cons ?_ ?_ | exact WH.nil | refine WH.cons ?_ ?_ | exact WR.nil | refine WR.cons rfl ?_ ?_ | refine WO.vr ?_ | exact WO.dead | refine WO.arr (by first | with_reducible rfl | assumption | (symm; assumption) | omega | (dsimp only; omega) | (rw [wrap_id _ (by omega) (by omega)]; first | rfl | omega | (push_cast; omega)) | rfl | (simp; done)) ?_ | exact WS.u | refine WS.c ?_ | refine WS.a ?_ | refine WS.t ?_ | exact WL.nil | refine WL.cons ?_ ?_ | exact WTL.nil | refine WTL.consC ?_ ?_ | refine WTL.consL ?_ ?_ | exact WC.nils | exact WC.nil rfl | exact WC.nilp | exact WC.fz (by first | with_reducible rfl | assumption | (symm; assumption) | omega | (dsimp only; omega) | (rw [wrap_id _ (by omega) (by omega)]; first | rfl | omega | (push_cast; omega)) | rfl | (simp; done)) (by first | with_reducible rfl | assumption | (symm; assumption) | omega | (dsimp only; omega) | (rw [wrap_id _ (by omega) (by omega)]; first | rfl | omega | (push_cast; omega)) | rfl | (simp; done)) (fun _ _ _ _ => leF.refl) (by first | (intro e; cases e; done) | (intro _; exact ⟨rfl, by first | with_reducible rfl | assumption | (symm; assumption) | omega | (dsimp only; omega) | (rw [wrap_id _ (by omega) (by omega)]; first | rfl | omega | (push_cast; omega)) | rfl | (simp; done)⟩)) | exact WC.ptr rfl (Nat.le_of_ble_eq_true rfl) | exact WC.sl rfl (Nat.le_of_ble_eq_true rfl) (by first | with_reducible rfl | assumption | (symm; assumption) | omega | (dsimp only; omega) | (rw [wrap_id _ (by omega) (by omega)]; first | rfl | omega | (push_cast; omega)) | rfl | (simp; done)) (by first | with_reducible rfl | assumption | (symm; assumption) | omega | (dsimp only; omega) | (rw [wrap_id _ (by omega) (by omega)]; first | rfl | omega | (push_cast; omega)) | rfl | (simp; done)) (fun e => e) | (refine WC.int ?_; try first | with_reducible rfl | assumption | (symm; assumption) | omega | (dsimp only; omega) | (rw [wrap_id _ (by omega) (by omega)]; first | rfl | omega | (push_cast; omega)) | rfl | (simp; done)) | (refine WC.bool ?_; try first | with_reducible rfl | assumption | (symm; assumption) | omega | (dsimp only; omega) | (rw [wrap_id _ (by omega) (by omega)]; first | rfl | omega | (push_cast; omega)) | rfl | (simp; done)) | (refine WC.str ?_; try first | with_reducible rfl | assumption | (symm; assumption) | omega | (dsimp only; omega) | (rw [wrap_id _ (by omega) (by omega)]; first | rfl | omega | (push_cast; omega)) | rfl | (simp; done)) | exact WC.imm rfl))
  · rintro l ⟨hl, h40⟩
    have hok := fillD_ok hn3 hz4 hl h40
    conv => whnf
    repeat' ((first | refine Need.auto ?_ | refine Have.mk (fun _h => ?_)); conv => whnf)
    (first | refine Br.lt (fun h1 => ?_) (fun h1 => ?_) | refine Br.le (fun h1 => ?_) (fun h1 => ?_) | refine Br.gt (fun h1 => ?_) (fun h1 => ?_) | refine Br.ge (fun h1 => ?_) (fun h1 => ?_) | refine Br.eq (fun h1 => ?_) (fun h1 => ?_) | refine Br.ne (fun h1 => ?_) (fun h1 => ?_) | refine Br.not (fun h1 => ?_) (fun h1 => ?_) | refine Br.mk (fun h1 => ?_) (fun h1 => ?_)) <;> (try simp only [Int.toNat_natCast] at h1) <;> (conv => whnf)
    · repeat' ((first | refine Need.auto ?_ | refine Have.mk (fun _h => ?_)); conv => whnf)
      refine Dr.mkE hΓ hMix [] [(9, 12), (10, 12)] (by kernel_rfl) ?_; conv => whnf
      repeat' ((first | refine Need.auto ?_ | refine Have.mk (fun _h => ?_)); conv => whnf)
      have hsz : (trimS (IntKind.i64.wrap (1 + l.length))).size = 40 := trimS_size (by rw [wrap_id _ (by omega) (by omega)]; omega)
      obtain ⟨a1, a2, a3⟩ := fillD_append hn3 hz4 h1 h40 hsz
      have happ := append_spec (fillD n z l) hok.small z (trimS (IntKind.i64.wrap (1 + l.length)))
      rw [a1, a2, a3] at happ
      refine CallP.auto sector_body (sector_spec ⟨2, 0, IntKind.i64.wrap (1 + l.length), 0, ByteArray.empty⟩ ) ?_
      conv => whnf
      repeat' ((first | refine Need.auto ?_ | refine Have.mk (fun _h => ?_)); conv => whnf)
      refine CallP.auto append_body happ ?_
      conv => whnf
      repeat' ((first | refine Need.auto ?_ | refine Have.mk (fun _h => ?_)); conv => whnf)
      have hg := fillD_get (n := n) hz4 (l ++ [trimS (IntKind.i64.wrap (1 + l.length))])
      have hlen : (l ++ [trimS (IntKind.i64.wrap (1 + l.length))]).length = l.length + 1 := by simp
      have hzl : (fillD n z (l ++ [trimS (IntKind.i64.wrap (1 + l.length))])).zones.length = 4 := by simp [fillD]
      have hmem : ∀ s ∈ l ++ [trimS (IntKind.i64.wrap (1 + l.length))], s.size = 40 := by
        intro s hs
        rcases List.mem_append.1 hs with h | h
        · exact h40 s h
        · rw [List.mem_singleton.1 h]; exact hsz
      generalize hL : l ++ [trimS (IntKind.i64.wrap (1 + l.length))] = L at *
      refine Br.no ?_ ?_
      · show (bif (bif (bif (bif (0 : Int) != 0 then true else (l.length : Int) != l.length) then true else ((fillD n z L).zones.length : Int) != 4) then true else (((fillD n z L).zones.getD z default).sectors.length : Int) != IntKind.i64.wrap (l.length + 1)) then true else !((((fillD n z L).zones.getD z default).state == 4) == ((l.length : Int) == IntKind.i64.wrap (n - 1)))) = false
        rw [hg, fillZ_sec, hzl, hlen, wrap_id _ (by omega) (by omega), wrap_id _ (by omega) (by omega)]
        by_cases c : (L.length : Int) = n
        · rw [fillZ_full (by omega) c]
          have : (l.length : Int) = n - 1 := by omega
          simp [this]
        · rw [fillZ_part (by omega) c]
          have : ¬ (l.length : Int) = n - 1 := by omega
          simp [this]
      conv => whnf
      repeat' ((first | refine Need.auto ?_ | refine Have.mk (fun _h => ?_)); conv => whnf)
      refine ⟨L, ⟨by omega, hmem⟩, by omega, ?_⟩
      refine Mv.mkW ?_ ?_ (Nat.le_of_ble_eq_true rfl) <;> (repeat' (first | exact WA.nil | refine WA.cons rfl ?_ ?_ | exact WB.nil | refine WB.cons ?_ ?_ | exact WT.nil | refine WT.cons ?_ ?_ | exact WH.nil | refine WH.cons ?_ ?_ | exact WR.nil | refine WR.cons rfl ?_ ?_ | refine WO.vr ?_ | exact WO.dead | refine WO.arr (by first | with_reducible rfl | assumption | (symm; assumption) | omega | (dsimp only; omega) | (rw [wrap_id _ (by omega) (by omega)]; first | rfl | omega | (push_cast; omega)) | rfl | (simp; done)) ?_ | exact WS.u | refine WS.c ?_ | refine WS.a ?_ | refine WS.t ?_ | exact WL.nil | refine WL.cons ?_ ?_ | exact WTL.nil | refine WTL.consC ?_ ?_ | refine WTL.consL ?_ ?_ | exact WC.nils | exact WC.nil rfl | exact WC.nilp | exact WC.fz (by first | with_reducible rfl | assumption | (symm; assumption) | omega | (dsimp only; omega) | (rw [wrap_id _ (by omega) (by omega)]; first | rfl | omega | (push_cast; omega)) | rfl | (simp; done)) (by first | with_reducible rfl | assumption | (symm; assumption) | omega | (dsimp only; omega) | (rw [wrap_id _ (by omega) (by omega)]; first | rfl | omega | (push_cast; omega)) | rfl | (simp; done)) (fun _ _ _ _ => leF.refl) (by first | (intro e; cases e; done) | (intro _; exact ⟨rfl, by first | with_reducible rfl | assumption | (symm; assumption) | omega | (dsimp only; omega) | (rw [wrap_id _ (by omega) (by omega)]; first | rfl | omega | (push_cast; omega)) | rfl | (simp; done)⟩)) | exact WC.ptr rfl (Nat.le_of_ble_eq_true rfl) | exact WC.sl rfl (Nat.le_of_ble_eq_true rfl) (by first | with_reducible rfl | assumption | (symm; assumption) | omega | (dsimp only; omega) | (rw [wrap_id _ (by omega) (by omega)]; first | rfl | omega | (push_cast; omega)) | rfl | (simp; done)) (by first | with_reducible rfl | assumption | (symm; assumption) | omega | (dsimp only; omega) | (rw [wrap_id _ (by omega) (by omega)]; first | rfl | omega | (push_cast; omega)) | rfl | (simp; done)) (fun e => e) | (refine WC.int ?_; try first | with_reducible rfl | assumption | (symm; assumption) | omega | (dsimp only; omega) | (rw [wrap_id _ (by omega) (by omega)]; first | rfl | omega | (push_cast; omega)) | rfl | (simp; done)) | (refine WC.bool ?_; try first | with_reducible rfl | assumption | (symm; assumption) | omega | (dsimp only; omega) | (rw [wrap_id _ (by omega) (by omega)]; first | rfl | omega | (push_cast; omega)) | rfl | (simp; done)) | (refine WC.str ?_; try first | with_reducible rfl | assumption | (symm; assumption) | omega | (dsimp only; omega) | (rw [wrap_id _ (by omega) (by omega)]; first | rfl | omega | (push_cast; omega)) | rfl | (simp; done)) | exact WC.imm rfl))
    · repeat' ((first | refine Need.auto ?_ | refine Have.mk (fun _h => ?_)); conv => whnf)
      have hln : (l.length : Int) = n := by omega
      refine Dr.mkE hΓ hMix [] [(7, 10), (8, 10)] (by kernel_rfl) ?_; conv => whnf
      repeat' ((first | refine Need.auto ?_ | refine Have.mk (fun _h => ?_)); conv => whnf)
      obtain ⟨a1, a2, a3⟩ := fillD_full hn3 hz4 hln h40 (trimS_size (v := 0) (by omega))
      have happ := append_spec (fillD n z l) hok.small z (trimS 0)
      rw [a1, a2, a3] at happ
      refine CallP.auto sector_body (sector_spec ⟨2, 0, 0, 0, ByteArray.empty⟩ ) ?_
      conv => whnf
      repeat' ((first | refine Need.auto ?_ | refine Have.mk (fun _h => ?_)); conv => whnf)
      refine CallP.auto append_body happ ?_
      conv => whnf
      repeat' ((first | refine Need.auto ?_ | refine Have.mk (fun _h => ?_)); conv => whnf)
      have hzl : (fillD n z l).zones.length = 4 := by simp [fillD]
      repeat' ((first | refine Need.auto ?_ | refine Have.mk (fun _h => ?_)); conv => whnf)
      refine CallG.auto awake5_body (fun _ => awake5_spec) ?_
      conv => whnf
      repeat' ((first | refine Need.auto ?_ | refine Have.mk (fun _h => ?_)); conv => whnf)
      refine RM.immW rfl ?_; (repeat' (first | exact WA.nil | refine WA.cons rfl ?_ ?_ | exact WB.nil | refine WB.cons ?_ ?_ | exact WT.nil | refine WT.cons ?_ ?_ | exact WH.nil | refine WH.cons ?_ ?_ | exact WR.nil | refine WR.cons rfl ?_ ?_ | refine WO.vr ?_ | exact WO.dead | refine WO.arr (by first | with_reducible rfl | assumption | (symm; assumption) | omega | (dsimp only; omega) | (rw [wrap_id _ (by omega) (by omega)]; first | rfl | omega | (push_cast; omega)) | rfl | (simp; done)) ?_ | exact WS.u | refine WS.c ?_ | refine WS.a ?_ | refine WS.t ?_ | exact WL.nil | refine WL.cons ?_ ?_ | exact WTL.nil | refine WTL.consC ?_ ?_ | refine WTL.consL ?_ ?_ | exact WC.nils | exact WC.nil rfl | exact WC.nilp | exact WC.fz (by first | with_reducible rfl | assumption | (symm; assumption) | omega | (dsimp only; omega) | (rw [wrap_id _ (by omega) (by omega)]; first | rfl | omega | (push_cast; omega)) | rfl | (simp; done)) (by first | with_reducible rfl | assumption | (symm; assumption) | omega | (dsimp only; omega) | (rw [wrap_id _ (by omega) (by omega)]; first | rfl | omega | (push_cast; omega)) | rfl | (simp; done)) (fun _ _ _ _ => leF.refl) (by first | (intro e; cases e; done) | (intro _; exact ⟨rfl, by first | with_reducible rfl | assumption | (symm; assumption) | omega | (dsimp only; omega) | (rw [wrap_id _ (by omega) (by omega)]; first | rfl | omega | (push_cast; omega)) | rfl | (simp; done)⟩)) | exact WC.ptr rfl (Nat.le_of_ble_eq_true rfl) | exact WC.sl rfl (Nat.le_of_ble_eq_true rfl) (by first | with_reducible rfl | assumption | (symm; assumption) | omega | (dsimp only; omega) | (rw [wrap_id _ (by omega) (by omega)]; first | rfl | omega | (push_cast; omega)) | rfl | (simp; done)) (by first | with_reducible rfl | assumption | (symm; assumption) | omega | (dsimp only; omega) | (rw [wrap_id _ (by omega) (by omega)]; first | rfl | omega | (push_cast; omega)) | rfl | (simp; done)) (fun e => e) | (refine WC.int ?_; try first | with_reducible rfl | assumption | (symm; assumption) | omega | (dsimp only; omega) | (rw [wrap_id _ (by omega) (by omega)]; first | rfl | omega | (push_cast; omega)) | rfl | (simp; done)) | (refine WC.bool ?_; try first | with_reducible rfl | assumption | (symm; assumption) | omega | (dsimp only; omega) | (rw [wrap_id _ (by omega) (by omega)]; first | rfl | omega | (push_cast; omega)) | rfl | (simp; done)) | (refine WC.str ?_; try first | with_reducible rfl | assumption | (symm; assumption) | omega | (dsimp only; omega) | (rw [wrap_id _ (by omega) (by omega)]; first | rfl | omega | (push_cast; omega)) | rfl | (simp; done)) | exact WC.imm rfl))
      have hg := fillD_get (n := n) hz4 l
      rw [fillZ_full (by omega) hln] at hg
      show (bif (bif (7 : Int) == 7 then ((fillD n z l).zones.getD z default).durable == n else false) then true else false) = true
      rw [hg]
      simp
theorem znsFills_body : HasBody Try.prog 8 := ⟨⟨Try.f8, Try.func8, rfl, by kernel_rfl⟩⟩
end Go.Proofs
