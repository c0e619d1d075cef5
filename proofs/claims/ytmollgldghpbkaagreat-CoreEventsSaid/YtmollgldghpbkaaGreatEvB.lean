/- Part of the proofs of laws of this seat: contracts and plain lemmas; no condition is added to a statement. -/
import Derived.Test.YtmollgldghpbkaaGreatEvA
import Derived.Test.YtmollgldghpbkaaGreatModB
set_option linter.unusedSimpArgs false
set_option linter.unusedVariables false
section
open Go Go.Am
namespace Go.Proofs
set_option maxRecDepth 20000
theorem val7_spec (n : Int) : PSpec Tryz.prog 63 [.c (.int .i64 n)] (.c (.str (valueS n))) := by
  refine PSpec.rm ?_
  refine CSpec.of_vc hΓ Tryz.func63 rfl 30 0 [.tmp 2] Tryz.ntmps63 rfl (by rw [Tryz.results63]) rfl ?_
  conv => whnf
  repeat' ((first | refine Need.auto ?_ | refine Have.mk (fun _h => ?_)); conv => whnf)
  refine Lp.mkK hΓ (ι := Nat) [0] (fun k => [(4, .c (.int .i64 k)), (3, .c (.sl 0 1 16 16 true))]) (fun k => [.arr 5 1 16 (genG (fun i => if i < k then valueW n i else 0))]) (fun k => k ≤ 16) (fun k => 16 - k) 0 (Nat.zero_le _) ?_ ?_
  · refine Mv.mkW ?_ ?_ (Nat.le_of_ble_eq_true rfl) <;> (repeat' (first | exact WA.nil | refine WA.cons rfl ?_ ?_ | exact WB.nil | refine WB.cons ?_ ?_ | exact WT.nil | refine WT.cons ?_ ?_ | exact WH.nil | refine WH.cons ?_ ?_ | exact WR.nil | refine WR.cons rfl ?_ ?_ | refine WO.vr ?_ | exact WO.dead | exact WO.mpS | refine WO.mpA ?_ | exact WO.arrPA (fun i j => plainRow _ _ _) | refine WO.arrA ?_ | exact WS.u | refine WS.c ?_ | refine WS.a ?_ | refine WS.t ?_ | exact WL.nil | refine WL.cons ?_ ?_ | exact WTL.nil | refine WTL.consC ?_ ?_ | refine WTL.consL ?_ ?_ | exact WC.nils | exact WC.nil rfl | exact WC.nilp | refine WC.fzA | exact WC.ptr rfl (Nat.le_of_ble_eq_true rfl) | exact WC.mpr rfl (Nat.le_of_ble_eq_true rfl) | refine WC.slA | refine WC.intA | refine WC.int ?_ | refine WC.boolA | refine WC.bool ?_ | refine WC.strA | refine WC.str ?_ | exact WC.imm rfl))
    intro i hi j hj
    have hj' : j < 1 := hj
    have : j = 0 := by omega
    subst this
    exact WC.eq (by simp [zeroG, zeroL, lget, getL, genG, Z.toC]) rfl
  · intro k hk
    conv => whnf
    repeat' ((first | refine Need.auto ?_ | refine Have.mk (fun _h => ?_)); conv => whnf)
    (first | refine Br.lt (fun h1 => ?_) (fun h1 => ?_) | refine Br.le (fun h1 => ?_) (fun h1 => ?_) | refine Br.gt (fun h1 => ?_) (fun h1 => ?_) | refine Br.ge (fun h1 => ?_) (fun h1 => ?_) | refine Br.eq (fun h1 => ?_) (fun h1 => ?_) | refine Br.ne (fun h1 => ?_) (fun h1 => ?_) | refine Br.not (fun h1 => ?_) (fun h1 => ?_) | refine Br.mk (fun h1 => ?_) (fun h1 => ?_)) <;> (try simp only [Int.toNat_natCast] at h1) <;> (conv => whnf)
    · repeat' ((first | refine Need.auto ?_ | refine Have.mk (fun _h => ?_)); conv => whnf)
      refine CallN.pureA mod_body (mod_spec _ _ ) ?_
      conv => whnf
      repeat' ((first | refine Need.auto ?_ | refine Have.mk (fun _h => ?_)); conv => whnf)
      refine ⟨k + 1, by omega, by omega, ?_⟩
      refine Mv.mkW ?_ ?_ (Nat.le_of_ble_eq_true rfl) <;> (repeat' (first | exact WA.nil | refine WA.cons rfl ?_ ?_ | exact WB.nil | refine WB.cons ?_ ?_ | exact WT.nil | refine WT.cons ?_ ?_ | exact WH.nil | refine WH.cons ?_ ?_ | exact WR.nil | refine WR.cons rfl ?_ ?_ | refine WO.vr ?_ | exact WO.dead | exact WO.mpS | refine WO.mpA ?_ | exact WO.arrPA (fun i j => plainRow _ _ _) | refine WO.arrA ?_ | exact WS.u | refine WS.c ?_ | refine WS.a ?_ | refine WS.t ?_ | exact WL.nil | refine WL.cons ?_ ?_ | exact WTL.nil | refine WTL.consC ?_ ?_ | refine WTL.consL ?_ ?_ | exact WC.nils | exact WC.nil rfl | exact WC.nilp | refine WC.fzA | exact WC.ptr rfl (Nat.le_of_ble_eq_true rfl) | exact WC.mpr rfl (Nat.le_of_ble_eq_true rfl) | refine WC.slA | refine WC.intA | refine WC.int ?_ | refine WC.boolA | refine WC.bool ?_ | refine WC.strA | refine WC.str ?_ | exact WC.imm rfl))
      intro i hi j hj
      refine WC.eq ((genG_set i j hj).trans ?_) rfl
      simp only [genG, Int.toNat_natCast]
      congr 1
      by_cases c : i = k
      · subst c
        rw [if_pos rfl, if_pos (by omega)]; rfl
      · rw [if_neg c]
        by_cases c2 : i < k
        · rw [if_pos c2, if_pos (by omega)]
        · rw [if_neg c2, if_neg (by omega)]
    · repeat' ((first | refine Need.auto ?_ | refine Have.mk (fun _h => ?_)); conv => whnf)
      have : k = 16 := by omega
      subst this
      refine CallN.pureA mod_body (mod_spec _ _ ) ?_
      conv => whnf
      repeat' ((first | refine Need.auto ?_ | refine Have.mk (fun _h => ?_)); conv => whnf)
      refine Need.mk (fun i hi => ⟨_, genG_set i 0 (by decide)⟩) ?_
      conv => whnf
      repeat' ((first | refine Need.auto ?_ | refine Have.mk (fun _h => ?_)); conv => whnf)
      refine RM.immW rfl ?_; (repeat' (first | exact WA.nil | refine WA.cons rfl ?_ ?_ | exact WB.nil | refine WB.cons ?_ ?_ | exact WT.nil | refine WT.cons ?_ ?_ | exact WH.nil | refine WH.cons ?_ ?_ | exact WR.nil | refine WR.cons rfl ?_ ?_ | refine WO.vr ?_ | exact WO.dead | exact WO.mpS | refine WO.mpA ?_ | exact WO.arrPA (fun i j => plainRow _ _ _) | refine WO.arrA ?_ | exact WS.u | refine WS.c ?_ | refine WS.a ?_ | refine WS.t ?_ | exact WL.nil | refine WL.cons ?_ ?_ | exact WTL.nil | refine WTL.consC ?_ ?_ | refine WTL.consL ?_ ?_ | exact WC.nils | exact WC.nil rfl | exact WC.nilp | refine WC.fzA | exact WC.ptr rfl (Nat.le_of_ble_eq_true rfl) | exact WC.mpr rfl (Nat.le_of_ble_eq_true rfl) | refine WC.slA | refine WC.intA | refine WC.int ?_ | refine WC.boolA | refine WC.bool ?_ | refine WC.strA | refine WC.str ?_ | exact WC.imm rfl))
theorem val7_body : HasBody Tryz.prog 63 := ⟨⟨Tryz.f63, Tryz.func63, rfl, by kernel_rfl⟩⟩
def cmdD1 (d : DiceM) (blocks : Int) : DiceM := if 1 + d.next 4 = 2 then d.step.step.step else d.step.step
def cmdM (d : DiceM) (blocks : Int) : Req :=
  ⟨0, 1 + d.next 4,
    if (cmdD1 d blocks).next 20 = 18 then blocks else if 1 + d.next 4 = 4 then 0 else d.step.next blocks,
    if (cmdD1 d blocks).next 20 = 19 then ⟨#[97, 98, 99]⟩ else if 1 + d.next 4 = 2 then valueS (d.step.step.next 60) else ByteArray.empty⟩
def cmdD (d : DiceM) (blocks : Int) : DiceM := (cmdD1 d blocks).step
theorem cmdD1_ok {d : DiceM} {b : Int} (h : d.ok) : (cmdD1 d b).ok := by unfold cmdD1; split; exact h.step.step.step; exact h.step.step
theorem cmdD_ok {d : DiceM} {b : Int} (h : d.ok) : (cmdD d b).ok := (cmdD1_ok h).step
set_option maxHeartbeats 4000000 in
theorem command_spec (d : DiceM) (hd : d.ok) (blocks : Int) : CSpec Tryz.prog 25 [.c (.ptr 0 0), .c (.int .i64 blocks)] [.vr d.cells] fun s H => s = .a [.int .i64 (cmdM d blocks).kind, .int .i64 (cmdM d blocks).block, .str (cmdM d blocks).data] ∧ H = [.vr (cmdD d blocks).cells] := by
  have h4 := d.next_range (n := 4) (by omega) (by omega)
  have w0 : IntKind.i64.wrap (1 + d.next 4) = 1 + d.next 4 := wrap_id _ (by omega) (by omega)
  refine CSpec.rm ?_
  refine CSpec.of_vc hΓ Tryz.func25 rfl 34 1 [.cell 4 64] Tryz.ntmps25 rfl (by rw [Tryz.results25]) rfl ?_
  conv => whnf
  repeat' ((first | refine Need.auto ?_ | refine Have.mk (fun _h => ?_)); conv => whnf)
  refine CallN.autoQ [0] next_body (next_spec d hd 4) ?_; conv => whnf
  repeat' ((first | refine Need.auto ?_ | refine Have.mk (fun _h => ?_)); conv => whnf)
  refine CallN.autoQ [0] next_body (next_spec d.step hd.step blocks) ?_; conv => whnf
  repeat' ((first | refine Need.auto ?_ | refine Have.mk (fun _h => ?_)); conv => whnf)
  rw [w0]
  by_cases h2 : 1 + d.next 4 = 2
  · have h4' : ¬ 1 + d.next 4 = 4 := by omega
    refine Br.yes (by simp [h2]) ?_
    conv => whnf
    repeat' ((first | refine Need.auto ?_ | refine Have.mk (fun _h => ?_)); conv => whnf)
    refine CallN.autoQ [0] next_body (next_spec d.step.step hd.step.step 60) ?_; conv => whnf
    repeat' ((first | refine Need.auto ?_ | refine Have.mk (fun _h => ?_)); conv => whnf)
    refine CallN.pureA val7_body (val7_spec (d.step.step.next 60) ) ?_
    conv => whnf
    repeat' ((first | refine Need.auto ?_ | refine Have.mk (fun _h => ?_)); conv => whnf)
    refine CallN.autoQ [0] next_body (next_spec d.step.step.step hd.step.step.step 20) ?_; conv => whnf
    repeat' ((first | refine Need.auto ?_ | refine Have.mk (fun _h => ?_)); conv => whnf)
    by_cases h18 : DiceM.next d.step.step.step 20 = 18
    · refine Br.yes (by simp [h18]) ?_
      conv => whnf
      repeat' ((first | refine Need.auto ?_ | refine Have.mk (fun _h => ?_)); conv => whnf)
      refine ⟨_, _, ?_, rfl, rfl⟩
      have e1 : cmdM d blocks = ⟨0, 1 + d.next 4, blocks, (valueS (d.step.step.next 60))⟩ := by simp [cmdM, cmdD1, h2, h4', h18]
      have e2 : cmdD d blocks = DiceM.step d.step.step.step := by simp [cmdD, cmdD1, h2]
      rw [e1, e2]
      refine RM.wkW ?_ ?_ (Nat.le_refl _) <;> (repeat' (first | exact WA.nil | refine WA.cons rfl ?_ ?_ | exact WB.nil | refine WB.cons ?_ ?_ | exact WT.nil | refine WT.cons ?_ ?_ | exact WH.nil | refine WH.cons ?_ ?_ | exact WR.nil | refine WR.cons rfl ?_ ?_ | refine WO.vr ?_ | exact WO.dead | exact WO.mpS | refine WO.mpA ?_ | exact WO.arrPA (fun i j => plainRow _ _ _) | refine WO.arrA ?_ | exact WS.u | refine WS.c ?_ | refine WS.a ?_ | refine WS.t ?_ | exact WL.nil | refine WL.cons ?_ ?_ | exact WTL.nil | refine WTL.consC ?_ ?_ | refine WTL.consL ?_ ?_ | exact WC.nils | exact WC.nil rfl | exact WC.nilp | refine WC.fzA | exact WC.ptr rfl (Nat.le_of_ble_eq_true rfl) | exact WC.mpr rfl (Nat.le_of_ble_eq_true rfl) | refine WC.slA | refine WC.intA | refine WC.int ?_ | refine WC.boolA | refine WC.bool ?_ | refine WC.strA | refine WC.str ?_ | exact WC.imm rfl))
    · refine Br.no (by simp [h18]) ?_
      conv => whnf
      repeat' ((first | refine Need.auto ?_ | refine Have.mk (fun _h => ?_)); conv => whnf)
      by_cases h19 : DiceM.next d.step.step.step 20 = 19
      · refine Br.yes (by simp [h19]) ?_
        conv => whnf
        repeat' ((first | refine Need.auto ?_ | refine Have.mk (fun _h => ?_)); conv => whnf)
        refine ⟨_, _, ?_, rfl, rfl⟩
        have e1 : cmdM d blocks = ⟨0, 1 + d.next 4, (d.step.next blocks), ⟨#[97, 98, 99]⟩⟩ := by simp [cmdM, cmdD1, h2, h4', h19]
        have e2 : cmdD d blocks = DiceM.step d.step.step.step := by simp [cmdD, cmdD1, h2]
        rw [e1, e2]
        refine RM.wkW ?_ ?_ (Nat.le_refl _) <;> (repeat' (first | exact WA.nil | refine WA.cons rfl ?_ ?_ | exact WB.nil | refine WB.cons ?_ ?_ | exact WT.nil | refine WT.cons ?_ ?_ | exact WH.nil | refine WH.cons ?_ ?_ | exact WR.nil | refine WR.cons rfl ?_ ?_ | refine WO.vr ?_ | exact WO.dead | exact WO.mpS | refine WO.mpA ?_ | exact WO.arrPA (fun i j => plainRow _ _ _) | refine WO.arrA ?_ | exact WS.u | refine WS.c ?_ | refine WS.a ?_ | refine WS.t ?_ | exact WL.nil | refine WL.cons ?_ ?_ | exact WTL.nil | refine WTL.consC ?_ ?_ | refine WTL.consL ?_ ?_ | exact WC.nils | exact WC.nil rfl | exact WC.nilp | refine WC.fzA | exact WC.ptr rfl (Nat.le_of_ble_eq_true rfl) | exact WC.mpr rfl (Nat.le_of_ble_eq_true rfl) | refine WC.slA | refine WC.intA | refine WC.int ?_ | refine WC.boolA | refine WC.bool ?_ | refine WC.strA | refine WC.str ?_ | exact WC.imm rfl))
      · refine Br.no (by simp [h19]) ?_
        conv => whnf
        repeat' ((first | refine Need.auto ?_ | refine Have.mk (fun _h => ?_)); conv => whnf)
        refine ⟨_, _, ?_, rfl, rfl⟩
        have e1 : cmdM d blocks = ⟨0, 1 + d.next 4, (d.step.next blocks), (valueS (d.step.step.next 60))⟩ := by simp [cmdM, cmdD1, h2, h4', h18, h19]
        have e2 : cmdD d blocks = DiceM.step d.step.step.step := by simp [cmdD, cmdD1, h2]
        rw [e1, e2]
        refine RM.wkW ?_ ?_ (Nat.le_refl _) <;> (repeat' (first | exact WA.nil | refine WA.cons rfl ?_ ?_ | exact WB.nil | refine WB.cons ?_ ?_ | exact WT.nil | refine WT.cons ?_ ?_ | exact WH.nil | refine WH.cons ?_ ?_ | exact WR.nil | refine WR.cons rfl ?_ ?_ | refine WO.vr ?_ | exact WO.dead | exact WO.mpS | refine WO.mpA ?_ | exact WO.arrPA (fun i j => plainRow _ _ _) | refine WO.arrA ?_ | exact WS.u | refine WS.c ?_ | refine WS.a ?_ | refine WS.t ?_ | exact WL.nil | refine WL.cons ?_ ?_ | exact WTL.nil | refine WTL.consC ?_ ?_ | refine WTL.consL ?_ ?_ | exact WC.nils | exact WC.nil rfl | exact WC.nilp | refine WC.fzA | exact WC.ptr rfl (Nat.le_of_ble_eq_true rfl) | exact WC.mpr rfl (Nat.le_of_ble_eq_true rfl) | refine WC.slA | refine WC.intA | refine WC.int ?_ | refine WC.boolA | refine WC.bool ?_ | refine WC.strA | refine WC.str ?_ | exact WC.imm rfl))
  · refine Br.no (by simp [h2]) ?_
    conv => whnf
    repeat' ((first | refine Need.auto ?_ | refine Have.mk (fun _h => ?_)); conv => whnf)
    by_cases h4' : 1 + d.next 4 = 4
    · refine Br.yes (by simp [h4']) ?_
      conv => whnf
      repeat' ((first | refine Need.auto ?_ | refine Have.mk (fun _h => ?_)); conv => whnf)
      refine CallN.autoQ [0] next_body (next_spec d.step.step hd.step.step 20) ?_; conv => whnf
      repeat' ((first | refine Need.auto ?_ | refine Have.mk (fun _h => ?_)); conv => whnf)
      by_cases h18 : DiceM.next d.step.step 20 = 18
      · refine Br.yes (by simp [h18]) ?_
        conv => whnf
        repeat' ((first | refine Need.auto ?_ | refine Have.mk (fun _h => ?_)); conv => whnf)
        refine ⟨_, _, ?_, rfl, rfl⟩
        have e1 : cmdM d blocks = ⟨0, 1 + d.next 4, blocks, ByteArray.empty⟩ := by simp [cmdM, cmdD1, h2, h4', h18]
        have e2 : cmdD d blocks = DiceM.step d.step.step := by simp [cmdD, cmdD1, h2]
        rw [e1, e2]
        refine RM.wkW ?_ ?_ (Nat.le_refl _) <;> (repeat' (first | exact WA.nil | refine WA.cons rfl ?_ ?_ | exact WB.nil | refine WB.cons ?_ ?_ | exact WT.nil | refine WT.cons ?_ ?_ | exact WH.nil | refine WH.cons ?_ ?_ | exact WR.nil | refine WR.cons rfl ?_ ?_ | refine WO.vr ?_ | exact WO.dead | exact WO.mpS | refine WO.mpA ?_ | exact WO.arrPA (fun i j => plainRow _ _ _) | refine WO.arrA ?_ | exact WS.u | refine WS.c ?_ | refine WS.a ?_ | refine WS.t ?_ | exact WL.nil | refine WL.cons ?_ ?_ | exact WTL.nil | refine WTL.consC ?_ ?_ | refine WTL.consL ?_ ?_ | exact WC.nils | exact WC.nil rfl | exact WC.nilp | refine WC.fzA | exact WC.ptr rfl (Nat.le_of_ble_eq_true rfl) | exact WC.mpr rfl (Nat.le_of_ble_eq_true rfl) | refine WC.slA | refine WC.intA | refine WC.int ?_ | refine WC.boolA | refine WC.bool ?_ | refine WC.strA | refine WC.str ?_ | exact WC.imm rfl))
      · refine Br.no (by simp [h18]) ?_
        conv => whnf
        repeat' ((first | refine Need.auto ?_ | refine Have.mk (fun _h => ?_)); conv => whnf)
        by_cases h19 : DiceM.next d.step.step 20 = 19
        · refine Br.yes (by simp [h19]) ?_
          conv => whnf
          repeat' ((first | refine Need.auto ?_ | refine Have.mk (fun _h => ?_)); conv => whnf)
          refine ⟨_, _, ?_, rfl, rfl⟩
          have e1 : cmdM d blocks = ⟨0, 1 + d.next 4, 0, ⟨#[97, 98, 99]⟩⟩ := by simp [cmdM, cmdD1, h2, h4', h19]
          have e2 : cmdD d blocks = DiceM.step d.step.step := by simp [cmdD, cmdD1, h2]
          rw [e1, e2]
          refine RM.wkW ?_ ?_ (Nat.le_refl _) <;> (repeat' (first | exact WA.nil | refine WA.cons rfl ?_ ?_ | exact WB.nil | refine WB.cons ?_ ?_ | exact WT.nil | refine WT.cons ?_ ?_ | exact WH.nil | refine WH.cons ?_ ?_ | exact WR.nil | refine WR.cons rfl ?_ ?_ | refine WO.vr ?_ | exact WO.dead | exact WO.mpS | refine WO.mpA ?_ | exact WO.arrPA (fun i j => plainRow _ _ _) | refine WO.arrA ?_ | exact WS.u | refine WS.c ?_ | refine WS.a ?_ | refine WS.t ?_ | exact WL.nil | refine WL.cons ?_ ?_ | exact WTL.nil | refine WTL.consC ?_ ?_ | refine WTL.consL ?_ ?_ | exact WC.nils | exact WC.nil rfl | exact WC.nilp | refine WC.fzA | exact WC.ptr rfl (Nat.le_of_ble_eq_true rfl) | exact WC.mpr rfl (Nat.le_of_ble_eq_true rfl) | refine WC.slA | refine WC.intA | refine WC.int ?_ | refine WC.boolA | refine WC.bool ?_ | refine WC.strA | refine WC.str ?_ | exact WC.imm rfl))
        · refine Br.no (by simp [h19]) ?_
          conv => whnf
          repeat' ((first | refine Need.auto ?_ | refine Have.mk (fun _h => ?_)); conv => whnf)
          refine ⟨_, _, ?_, rfl, rfl⟩
          have e1 : cmdM d blocks = ⟨0, 1 + d.next 4, 0, ByteArray.empty⟩ := by simp [cmdM, cmdD1, h2, h4', h18, h19]
          have e2 : cmdD d blocks = DiceM.step d.step.step := by simp [cmdD, cmdD1, h2]
          rw [e1, e2]
          refine RM.wkW ?_ ?_ (Nat.le_refl _) <;> (repeat' (first | exact WA.nil | refine WA.cons rfl ?_ ?_ | exact WB.nil | refine WB.cons ?_ ?_ | exact WT.nil | refine WT.cons ?_ ?_ | exact WH.nil | refine WH.cons ?_ ?_ | exact WR.nil | refine WR.cons rfl ?_ ?_ | refine WO.vr ?_ | exact WO.dead | exact WO.mpS | refine WO.mpA ?_ | exact WO.arrPA (fun i j => plainRow _ _ _) | refine WO.arrA ?_ | exact WS.u | refine WS.c ?_ | refine WS.a ?_ | refine WS.t ?_ | exact WL.nil | refine WL.cons ?_ ?_ | exact WTL.nil | refine WTL.consC ?_ ?_ | refine WTL.consL ?_ ?_ | exact WC.nils | exact WC.nil rfl | exact WC.nilp | refine WC.fzA | exact WC.ptr rfl (Nat.le_of_ble_eq_true rfl) | exact WC.mpr rfl (Nat.le_of_ble_eq_true rfl) | refine WC.slA | refine WC.intA | refine WC.int ?_ | refine WC.boolA | refine WC.bool ?_ | refine WC.strA | refine WC.str ?_ | exact WC.imm rfl))
    · refine Br.no (by simp [h4']) ?_
      conv => whnf
      repeat' ((first | refine Need.auto ?_ | refine Have.mk (fun _h => ?_)); conv => whnf)
      refine CallN.autoQ [0] next_body (next_spec d.step.step hd.step.step 20) ?_; conv => whnf
      repeat' ((first | refine Need.auto ?_ | refine Have.mk (fun _h => ?_)); conv => whnf)
      by_cases h18 : DiceM.next d.step.step 20 = 18
      · refine Br.yes (by simp [h18]) ?_
        conv => whnf
        repeat' ((first | refine Need.auto ?_ | refine Have.mk (fun _h => ?_)); conv => whnf)
        refine ⟨_, _, ?_, rfl, rfl⟩
        have e1 : cmdM d blocks = ⟨0, 1 + d.next 4, blocks, ByteArray.empty⟩ := by simp [cmdM, cmdD1, h2, h4', h18]
        have e2 : cmdD d blocks = DiceM.step d.step.step := by simp [cmdD, cmdD1, h2]
        rw [e1, e2]
        refine RM.wkW ?_ ?_ (Nat.le_refl _) <;> (repeat' (first | exact WA.nil | refine WA.cons rfl ?_ ?_ | exact WB.nil | refine WB.cons ?_ ?_ | exact WT.nil | refine WT.cons ?_ ?_ | exact WH.nil | refine WH.cons ?_ ?_ | exact WR.nil | refine WR.cons rfl ?_ ?_ | refine WO.vr ?_ | exact WO.dead | exact WO.mpS | refine WO.mpA ?_ | exact WO.arrPA (fun i j => plainRow _ _ _) | refine WO.arrA ?_ | exact WS.u | refine WS.c ?_ | refine WS.a ?_ | refine WS.t ?_ | exact WL.nil | refine WL.cons ?_ ?_ | exact WTL.nil | refine WTL.consC ?_ ?_ | refine WTL.consL ?_ ?_ | exact WC.nils | exact WC.nil rfl | exact WC.nilp | refine WC.fzA | exact WC.ptr rfl (Nat.le_of_ble_eq_true rfl) | exact WC.mpr rfl (Nat.le_of_ble_eq_true rfl) | refine WC.slA | refine WC.intA | refine WC.int ?_ | refine WC.boolA | refine WC.bool ?_ | refine WC.strA | refine WC.str ?_ | exact WC.imm rfl))
      · refine Br.no (by simp [h18]) ?_
        conv => whnf
        repeat' ((first | refine Need.auto ?_ | refine Have.mk (fun _h => ?_)); conv => whnf)
        by_cases h19 : DiceM.next d.step.step 20 = 19
        · refine Br.yes (by simp [h19]) ?_
          conv => whnf
          repeat' ((first | refine Need.auto ?_ | refine Have.mk (fun _h => ?_)); conv => whnf)
          refine ⟨_, _, ?_, rfl, rfl⟩
          have e1 : cmdM d blocks = ⟨0, 1 + d.next 4, (d.step.next blocks), ⟨#[97, 98, 99]⟩⟩ := by simp [cmdM, cmdD1, h2, h4', h19]
          have e2 : cmdD d blocks = DiceM.step d.step.step := by simp [cmdD, cmdD1, h2]
          rw [e1, e2]
          refine RM.wkW ?_ ?_ (Nat.le_refl _) <;> (repeat' (first | exact WA.nil | refine WA.cons rfl ?_ ?_ | exact WB.nil | refine WB.cons ?_ ?_ | exact WT.nil | refine WT.cons ?_ ?_ | exact WH.nil | refine WH.cons ?_ ?_ | exact WR.nil | refine WR.cons rfl ?_ ?_ | refine WO.vr ?_ | exact WO.dead | exact WO.mpS | refine WO.mpA ?_ | exact WO.arrPA (fun i j => plainRow _ _ _) | refine WO.arrA ?_ | exact WS.u | refine WS.c ?_ | refine WS.a ?_ | refine WS.t ?_ | exact WL.nil | refine WL.cons ?_ ?_ | exact WTL.nil | refine WTL.consC ?_ ?_ | refine WTL.consL ?_ ?_ | exact WC.nils | exact WC.nil rfl | exact WC.nilp | refine WC.fzA | exact WC.ptr rfl (Nat.le_of_ble_eq_true rfl) | exact WC.mpr rfl (Nat.le_of_ble_eq_true rfl) | refine WC.slA | refine WC.intA | refine WC.int ?_ | refine WC.boolA | refine WC.bool ?_ | refine WC.strA | refine WC.str ?_ | exact WC.imm rfl))
        · refine Br.no (by simp [h19]) ?_
          conv => whnf
          repeat' ((first | refine Need.auto ?_ | refine Have.mk (fun _h => ?_)); conv => whnf)
          refine ⟨_, _, ?_, rfl, rfl⟩
          have e1 : cmdM d blocks = ⟨0, 1 + d.next 4, (d.step.next blocks), ByteArray.empty⟩ := by simp [cmdM, cmdD1, h2, h4', h18, h19]
          have e2 : cmdD d blocks = DiceM.step d.step.step := by simp [cmdD, cmdD1, h2]
          rw [e1, e2]
          refine RM.wkW ?_ ?_ (Nat.le_refl _) <;> (repeat' (first | exact WA.nil | refine WA.cons rfl ?_ ?_ | exact WB.nil | refine WB.cons ?_ ?_ | exact WT.nil | refine WT.cons ?_ ?_ | exact WH.nil | refine WH.cons ?_ ?_ | exact WR.nil | refine WR.cons rfl ?_ ?_ | refine WO.vr ?_ | exact WO.dead | exact WO.mpS | refine WO.mpA ?_ | exact WO.arrPA (fun i j => plainRow _ _ _) | refine WO.arrA ?_ | exact WS.u | refine WS.c ?_ | refine WS.a ?_ | refine WS.t ?_ | exact WL.nil | refine WL.cons ?_ ?_ | exact WTL.nil | refine WTL.consC ?_ ?_ | refine WTL.consL ?_ ?_ | exact WC.nils | exact WC.nil rfl | exact WC.nilp | refine WC.fzA | exact WC.ptr rfl (Nat.le_of_ble_eq_true rfl) | exact WC.mpr rfl (Nat.le_of_ble_eq_true rfl) | refine WC.slA | refine WC.intA | refine WC.int ?_ | refine WC.boolA | refine WC.bool ?_ | refine WC.strA | refine WC.str ?_ | exact WC.imm rfl))
theorem command_body : HasBody Tryz.prog 25 := ⟨⟨Tryz.f25, Tryz.func25, rfl, by kernel_rfl⟩⟩
end Go.Proofs
end

section
open Go Go.Am
namespace Go.Proofs
set_option maxRecDepth 20000
theorem cmd7_spec : PSpec Tryz.prog 22 [] (.c (.str (valueS 7))) := by
  refine PSpec.rm ?_
  refine CSpec.of_vc hΓ Tryz.func22 rfl 2 0 [.tmp 0] Tryz.ntmps22 rfl (by rw [Tryz.results22]) rfl ?_
  conv => whnf
  repeat' ((first | refine Need.auto ?_ | refine Have.mk (fun _h => ?_)); conv => whnf)
  refine CallN.pureA val7_body (val7_spec 7 ) ?_
  conv => whnf
  repeat' ((first | refine Need.auto ?_ | refine Have.mk (fun _h => ?_)); conv => whnf)
  refine RM.immW rfl ?_; (repeat' (first | exact WA.nil | refine WA.cons rfl ?_ ?_ | exact WB.nil | refine WB.cons ?_ ?_ | exact WT.nil | refine WT.cons ?_ ?_ | exact WH.nil | refine WH.cons ?_ ?_ | exact WR.nil | refine WR.cons rfl ?_ ?_ | refine WO.vr ?_ | exact WO.dead | exact WO.mpS | refine WO.mpA ?_ | exact WO.arrPA (fun i j => plainRow _ _ _) | refine WO.arrA ?_ | exact WS.u | refine WS.c ?_ | refine WS.a ?_ | refine WS.t ?_ | exact WL.nil | refine WL.cons ?_ ?_ | exact WTL.nil | refine WTL.consC ?_ ?_ | refine WTL.consL ?_ ?_ | exact WC.nils | exact WC.nil rfl | exact WC.nilp | refine WC.fzA | exact WC.ptr rfl (Nat.le_of_ble_eq_true rfl) | exact WC.mpr rfl (Nat.le_of_ble_eq_true rfl) | refine WC.slA | refine WC.intA | refine WC.int ?_ | refine WC.boolA | refine WC.bool ?_ | refine WC.strA | refine WC.str ?_ | exact WC.imm rfl))
theorem cmd7_body : HasBody Tryz.prog 22 := ⟨⟨Tryz.f22, Tryz.func22, rfl, by kernel_rfl⟩⟩
theorem allS_rep (n : Nat) : mapOk (List.replicate n []) = true → AllS (List.replicate n []) (allM (List.replicate n [])) := fun h =>
  allS_of h (fun i => by rcases getD_rep0 (n := n) (i := i) (d := ([] : List Ent)) with e | e <;> rw [e] <;> exact Nat.zero_le _) (fun i hi e he => by
    rw [List.length_replicate] at hi
    rw [getD_repI hi] at he
    cases he)
structure Ev (s0 s : St) (d : DiceM) (k : Nat) : Prop where
  val : Val s
  hist : Hist s
  up : Up s0 s (2 * k)
  sm : s.small
  all : mapOk s.map = true → AllS s.map (allM s.map)
  ok : d.ok
theorem Ev.next {s0 s t : St} {d d' : DiceM} {k n : Nat} (h : Ev s0 s d k) (hv : Val t) (hh : Hist t) (hu : Up s t n) (hn : n ≤ 2) (hd : d'.ok) (h0 : s0.evs.length = 0) (hk : k < 100) : Ev s0 t d' (k + 1) := by
  have h1 := h.up.evs
  have h2 := hu.evs
  have h3 := h.up.trans hu
  refine ⟨hv, hh, ⟨h3.eq, h3.rings, h3.works, by omega⟩, hu.small h.sm hv (by omega), ?_, hd⟩
  rw [hu.map]
  exact h.all
set_option maxHeartbeats 8000000 in
theorem coreEvents_spec (l steps : List Int) (hst : ∀ i, i < steps.length → 0 ≤ steps.getD i default ∧ steps.getD i default < 65536) : PSpec Tryz.prog 5 [.c (intsC l), .c (.isl 1 steps.length (rowG (fun n _ => .int .u16 n) steps) false)] (.c (.bool true)) := by
  refine PSpec.rm ?_
  refine CSpec.of_vc hΓ Tryz.func5 rfl 156 0 [.tmp 4] Tryz.ntmps5 rfl (by rw [Tryz.results5]) rfl ?_
  conv => whnf
  repeat' ((first | refine Need.auto ?_ | refine Have.mk (fun _h => ?_)); conv => whnf)
  refine CallN.pureA light_body (light_spec l ) ?_
  conv => whnf
  repeat' ((first | refine Need.auto ?_ | refine Have.mk (fun _h => ?_)); conv => whnf)
  by_cases h0 : l.length ≤ 300 ∧ steps.length ≤ 100
  · refine Br.no (by simp [h0.1]; omega) ?_
    conv => whnf
    repeat' ((first | refine Need.auto ?_ | refine Have.mk (fun _h => ?_)); conv => whnf)
    have hc := small_ok ⟨l, 0⟩
    have hd0 : (⟨l, 0⟩ : DiceM).ok := ⟨Nat.zero_le _, by show l.length ≤ _; omega⟩
    refine CallN.autoQ [] roll_body (roll_spec l (by omega)) ?_; conv => whnf
    repeat' ((first | refine Need.auto ?_ | refine Have.mk (fun _h => ?_)); conv => whnf)
    refine CallN.autoQ [0] small_body (small_spec ⟨l, 0⟩ hd0) ?_; conv => whnf
    repeat' ((first | refine Need.auto ?_ | refine Have.mk (fun _h => ?_)); conv => whnf)
    refine CallN.pureA corenewOk_body (corenewOk_spec (smallC ⟨l, 0⟩) hc ) ?_
    conv => whnf
    have hE : Ev (newSt (smallC ⟨l, 0⟩)) (newSt (smallC ⟨l, 0⟩)) (smallD ⟨l, 0⟩) 0 := ⟨newSt_val hc, newSt_hist, Up.refl _ _, newSt_small hc, allS_rep _, smallD_ok hd0⟩
    have hev0 : (newSt (smallC ⟨l, 0⟩)).evs.length = 0 := rfl
    generalize newSt (smallC ⟨l, 0⟩) = s0 at *
    generalize smallD ⟨l, 0⟩ = d0 at *
    repeat' ((first | refine Need.auto ?_ | refine Have.mk (fun _h => ?_)); conv => whnf)
    have hr := hE.val.parts.rings
    have hw := hE.val.parts.works
    have hcf := confR_iff.1 (confE_r hE.val.parts.cfg).1
    have hqn : ¬ s0.cfg.queues = 0 := by omega
    refine Br.no (by rw [hr, hw]; simp [hqn]) ?_
    conv => whnf
    repeat' ((first | refine Need.auto ?_ | refine Have.mk (fun _h => ?_)); conv => whnf)
    refine Lp.mkK hΓ (ι := Nat × St × DiceM) [1, 5, 6] (fun i => [(8, .c (.int .i64 i.1))]) (fun i => [.vr i.2.2.cells, .vr i.2.1.cells]) (fun i => i.1 ≤ steps.length ∧ Ev s0 i.2.1 i.2.2 i.1) (fun i => steps.length - i.1) (0, s0, d0) ⟨Nat.zero_le _, hE⟩ ?_ ?_
    · refine Mv.mkW ?_ ?_ (Nat.le_of_ble_eq_true rfl) <;> (repeat' (first | exact WA.nil | refine WA.cons rfl ?_ ?_ | exact WB.nil | refine WB.cons ?_ ?_ | exact WT.nil | refine WT.cons ?_ ?_ | exact WH.nil | refine WH.cons ?_ ?_ | exact WR.nil | refine WR.cons rfl ?_ ?_ | refine WO.vr ?_ | exact WO.dead | exact WO.mpS | refine WO.mpA ?_ | exact WO.arrPA (fun i j => plainRow _ _ _) | refine WO.arrA ?_ | exact WS.u | refine WS.c ?_ | refine WS.a ?_ | refine WS.t ?_ | exact WL.nil | refine WL.cons ?_ ?_ | exact WTL.nil | refine WTL.consC ?_ ?_ | refine WTL.consL ?_ ?_ | exact WC.nils | exact WC.nil rfl | exact WC.nilp | refine WC.fzA | exact WC.ptr rfl (Nat.le_of_ble_eq_true rfl) | exact WC.mpr rfl (Nat.le_of_ble_eq_true rfl) | refine WC.slA | refine WC.intA | refine WC.int ?_ | refine WC.boolA | refine WC.bool ?_ | refine WC.strA | refine WC.str ?_ | exact WC.imm rfl))
    · intro i ⟨hk, hI⟩
      have hr1 := hI.up.rings
      have hw1 := hI.up.works
      have hc1 := hI.up.cfg
      have he1 := hI.up.evs
      conv => whnf
      repeat' ((first | refine Need.auto ?_ | refine Have.mk (fun _h => ?_)); conv => whnf)
      (first | refine Br.lt (fun h2 => ?_) (fun h2 => ?_) | refine Br.le (fun h2 => ?_) (fun h2 => ?_) | refine Br.gt (fun h2 => ?_) (fun h2 => ?_) | refine Br.ge (fun h2 => ?_) (fun h2 => ?_) | refine Br.eq (fun h2 => ?_) (fun h2 => ?_) | refine Br.ne (fun h2 => ?_) (fun h2 => ?_) | refine Br.not (fun h2 => ?_) (fun h2 => ?_) | refine Br.mk (fun h2 => ?_) (fun h2 => ?_)) <;> (try simp only [Int.toNat_natCast] at h2) <;> (conv => whnf)
      · repeat' ((first | refine Need.auto ?_ | refine Have.mk (fun _h => ?_)); conv => whnf)
        have hk' : i.1 < steps.length := by omega
        have hx := hst i.1 hk'
        have w0 := wrap_id (↑i.1 + 1) (by omega) (by omega)
        refine Dr.mk hΓ hMix (by kernel_rfl) ?_; conv => whnf
        repeat' ((first | refine Need.auto ?_ | refine Have.mk (fun _h => ?_)); conv => whnf)
        generalize hsel : (IntKind.i64.wrap ((IntKind.i64.wrap (steps.getD (↑i.1 : Int).toNat default)).tdiv 4)).tmod 4 = sel
        have hqr : s0.rings.length ≤ 4 := by omega
        have hcf2 := confR_iff.1 (confE_r hI.val.parts.cfg).1
        have hx1 : IntKind.i64.wrap (steps.getD (↑i.1 : Int).toNat default) = steps.getD i.1 default := by
          rw [show ((i.1 : Nat) : Int).toNat = i.1 from rfl]
          exact wrap_id _ (by omega) (by omega)
        by_cases c0 : sel = 0
        · refine Br.yes (by simp [c0]) ?_
          conv => whnf
          repeat' ((first | refine Need.auto ?_ | refine Have.mk (fun _h => ?_)); conv => whnf)
          generalize (IntKind.i64.wrap (steps.getD (↑i.1 : Int).toNat default)).tmod i.2.1.cfg.queues = q
          have hK := begin_keeps hI.val hI.hist (by omega) q
          refine CallN.pureA begin_body (begin_spec i.2.1 hI.sm _ hI.all q ) ?_
          conv => whnf
          generalize (beginS true i.2.1 q).1 = t at *
          have hE' : Ev s0 t i.2.2 (i.1 + 1) := hI.next hK.1 hK.2.1 hK.2.2 (by omega) hI.ok hev0 (by omega)
          have hr2 := hE'.val.parts.rings
          have hw2 := hE'.val.parts.works
          have hc2 := confR_iff.1 (confE_r hE'.val.parts.cfg).1
          have hq2 : ¬ t.cfg.queues = 0 := by omega
          repeat' ((first | refine Need.auto ?_ | refine Have.mk (fun _h => ?_)); conv => whnf)
          refine Br.no (by rw [hw2]; simp [hq2]) ?_
          conv => whnf
          repeat' ((first | refine Need.auto ?_ | refine Have.mk (fun _h => ?_)); conv => whnf)
          refine ⟨(i.1 + 1, t, i.2.2), ⟨by show i.1 + 1 ≤ _; omega, hE'⟩, by show steps.length - (i.1 + 1) < _; omega, ?_⟩
          refine Mv.mkW ?_ ?_ (Nat.le_of_ble_eq_true rfl) <;> (repeat' (first | exact WA.nil | refine WA.cons rfl ?_ ?_ | exact WB.nil | refine WB.cons ?_ ?_ | exact WT.nil | refine WT.cons ?_ ?_ | exact WH.nil | refine WH.cons ?_ ?_ | exact WR.nil | refine WR.cons rfl ?_ ?_ | refine WO.vr ?_ | exact WO.dead | exact WO.mpS | refine WO.mpA ?_ | exact WO.arrPA (fun i j => plainRow _ _ _) | refine WO.arrA ?_ | exact WS.u | refine WS.c ?_ | refine WS.a ?_ | refine WS.t ?_ | exact WL.nil | refine WL.cons ?_ ?_ | exact WTL.nil | refine WTL.consC ?_ ?_ | refine WTL.consL ?_ ?_ | exact WC.nils | exact WC.nil rfl | exact WC.nilp | refine WC.fzA | exact WC.ptr rfl (Nat.le_of_ble_eq_true rfl) | exact WC.mpr rfl (Nat.le_of_ble_eq_true rfl) | refine WC.slA | refine WC.intA | refine WC.int ?_ | refine WC.boolA | refine WC.bool ?_ | refine WC.strA | refine WC.str ?_ | exact WC.imm rfl))
        · refine Br.no (by simp [c0]) ?_
          conv => whnf
          repeat' ((first | refine Need.auto ?_ | refine Have.mk (fun _h => ?_)); conv => whnf)
          by_cases c1 : sel = 1
          · refine Br.yes (by simp [c1]) ?_
            conv => whnf
            repeat' ((first | refine Need.auto ?_ | refine Have.mk (fun _h => ?_)); conv => whnf)
            rw [hx1]
            have hq4 : 0 ≤ (steps.getD i.1 default).tmod i.2.1.cfg.queues ∧ (steps.getD i.1 default).tmod i.2.1.cfg.queues < i.2.1.cfg.queues := ⟨Int.tmod_nonneg _ (by omega), Int.tmod_lt_of_pos _ (by omega)⟩
            generalize (steps.getD i.1 default).tmod i.2.1.cfg.queues = q at *
            repeat' ((first | refine Need.auto ?_ | refine Have.mk (fun _h => ?_)); conv => whnf)
            by_cases ck : (i.2.1.works.getD q.toNat default).req.kind = 1
            · refine Br.yes (by simp [-List.getD_eq_getElem?_getD, ck]) ?_
              conv => whnf
              repeat' ((first | refine Need.auto ?_ | refine Have.mk (fun _h => ?_)); conv => whnf)
              refine CallN.pureA cmd7_body (cmd7_spec ) ?_
              conv => whnf
              repeat' ((first | refine Need.auto ?_ | refine Have.mk (fun _h => ?_)); conv => whnf)
              have hf : fitsM (i.2.1.works.getD q.toNat default).req.kind 0 (valueS 7) = true := fits_ok (fun _ => valueS_size 7) (fun h => absurd ck h)
              have hK := answer_keeps hI.val hI.hist (by omega) q 0 (valueS 7) hf
              refine CallN.pureA answer_body (answer_spec i.2.1 hI.sm _ hI.all q 0 (valueS 7) ) ?_
              conv => whnf
              generalize (answerS i.2.1 q 0 (valueS 7)).1 = t at *
              have hE' : Ev s0 t i.2.2 (i.1 + 1) := hI.next hK.1 hK.2.1 hK.2.2 (by omega) hI.ok hev0 (by omega)
              have hr2 := hE'.val.parts.rings
              have hw2 := hE'.val.parts.works
              have hc2 := confR_iff.1 (confE_r hE'.val.parts.cfg).1
              have hq2 : ¬ t.cfg.queues = 0 := by omega
              repeat' ((first | refine Need.auto ?_ | refine Have.mk (fun _h => ?_)); conv => whnf)
              refine Br.no (by rw [hw2]; simp [hq2]) ?_
              conv => whnf
              repeat' ((first | refine Need.auto ?_ | refine Have.mk (fun _h => ?_)); conv => whnf)
              refine ⟨(i.1 + 1, t, i.2.2), ⟨by show i.1 + 1 ≤ _; omega, hE'⟩, by show steps.length - (i.1 + 1) < _; omega, ?_⟩
              refine Mv.mkW ?_ ?_ (Nat.le_of_ble_eq_true rfl) <;> (repeat' (first | exact WA.nil | refine WA.cons rfl ?_ ?_ | exact WB.nil | refine WB.cons ?_ ?_ | exact WT.nil | refine WT.cons ?_ ?_ | exact WH.nil | refine WH.cons ?_ ?_ | exact WR.nil | refine WR.cons rfl ?_ ?_ | refine WO.vr ?_ | exact WO.dead | exact WO.mpS | refine WO.mpA ?_ | exact WO.arrPA (fun i j => plainRow _ _ _) | refine WO.arrA ?_ | exact WS.u | refine WS.c ?_ | refine WS.a ?_ | refine WS.t ?_ | exact WL.nil | refine WL.cons ?_ ?_ | exact WTL.nil | refine WTL.consC ?_ ?_ | refine WTL.consL ?_ ?_ | exact WC.nils | exact WC.nil rfl | exact WC.nilp | refine WC.fzA | exact WC.ptr rfl (Nat.le_of_ble_eq_true rfl) | exact WC.mpr rfl (Nat.le_of_ble_eq_true rfl) | refine WC.slA | refine WC.intA | refine WC.int ?_ | refine WC.boolA | refine WC.bool ?_ | refine WC.strA | refine WC.str ?_ | exact WC.imm rfl))
            · refine Br.no (by simp [-List.getD_eq_getElem?_getD, ck]) ?_
              conv => whnf
              repeat' ((first | refine Need.auto ?_ | refine Have.mk (fun _h => ?_)); conv => whnf)
              have hf : fitsM (i.2.1.works.getD q.toNat default).req.kind 0 ByteArray.empty = true := fits_ok (fun h => absurd h ck) (fun _ => rfl)
              have hK := answer_keeps hI.val hI.hist (by omega) q 0 ByteArray.empty hf
              refine CallN.pureA answer_body (answer_spec i.2.1 hI.sm _ hI.all q 0 ByteArray.empty ) ?_
              conv => whnf
              generalize (answerS i.2.1 q 0 ByteArray.empty).1 = t at *
              have hE' : Ev s0 t i.2.2 (i.1 + 1) := hI.next hK.1 hK.2.1 hK.2.2 (by omega) hI.ok hev0 (by omega)
              have hr2 := hE'.val.parts.rings
              have hw2 := hE'.val.parts.works
              have hc2 := confR_iff.1 (confE_r hE'.val.parts.cfg).1
              have hq2 : ¬ t.cfg.queues = 0 := by omega
              repeat' ((first | refine Need.auto ?_ | refine Have.mk (fun _h => ?_)); conv => whnf)
              refine Br.no (by rw [hw2]; simp [hq2]) ?_
              conv => whnf
              repeat' ((first | refine Need.auto ?_ | refine Have.mk (fun _h => ?_)); conv => whnf)
              refine ⟨(i.1 + 1, t, i.2.2), ⟨by show i.1 + 1 ≤ _; omega, hE'⟩, by show steps.length - (i.1 + 1) < _; omega, ?_⟩
              refine Mv.mkW ?_ ?_ (Nat.le_of_ble_eq_true rfl) <;> (repeat' (first | exact WA.nil | refine WA.cons rfl ?_ ?_ | exact WB.nil | refine WB.cons ?_ ?_ | exact WT.nil | refine WT.cons ?_ ?_ | exact WH.nil | refine WH.cons ?_ ?_ | exact WR.nil | refine WR.cons rfl ?_ ?_ | refine WO.vr ?_ | exact WO.dead | exact WO.mpS | refine WO.mpA ?_ | exact WO.arrPA (fun i j => plainRow _ _ _) | refine WO.arrA ?_ | exact WS.u | refine WS.c ?_ | refine WS.a ?_ | refine WS.t ?_ | exact WL.nil | refine WL.cons ?_ ?_ | exact WTL.nil | refine WTL.consC ?_ ?_ | refine WTL.consL ?_ ?_ | exact WC.nils | exact WC.nil rfl | exact WC.nilp | refine WC.fzA | exact WC.ptr rfl (Nat.le_of_ble_eq_true rfl) | exact WC.mpr rfl (Nat.le_of_ble_eq_true rfl) | refine WC.slA | refine WC.intA | refine WC.int ?_ | refine WC.boolA | refine WC.bool ?_ | refine WC.strA | refine WC.str ?_ | exact WC.imm rfl))
          · refine Br.no (by simp [c1]) ?_
            conv => whnf
            repeat' ((first | refine Need.auto ?_ | refine Have.mk (fun _h => ?_)); conv => whnf)
            refine Dr.mkE hΓ hMix [25] [(0, 6), (1, 6), (10, 11)] (by kernel_rfl) ?_; conv => whnf
            repeat' ((first | refine Need.auto ?_ | refine Have.mk (fun _h => ?_)); conv => whnf)
            generalize (IntKind.i64.wrap (steps.getD (↑i.1 : Int).toNat default)).tmod i.2.1.cfg.queues = q
            refine CallE.autoQ [0] command_body (command_spec i.2.2 hI.ok i.2.1.cfg.blocks) ?_; conv => whnf
            repeat' ((first | refine Need.auto ?_ | refine Have.mk (fun _h => ?_)); conv => whnf)
            have hC := closed_keeps (b := decide ((i.1 : Int) > 60)) hI.val hI.hist
            have hCs := hC.2.2.small hI.sm hC.1 (by show i.2.1.evs.length ≤ _; omega)
            have hK := submit_keeps hC.1 hC.2.1 (by show i.2.1.rings.length ≤ 4; omega) q (cmdM i.2.2 i.2.1.cfg.blocks)
            refine CallP.auto submit_body (submit_spec { i.2.1 with closed := decide ((i.1 : Int) > 60) } hCs _ hI.all q (cmdM i.2.2 i.2.1.cfg.blocks) ) ?_
            conv => whnf
            have hU := hC.2.2.trans hK.2.2
            generalize (submitS { i.2.1 with closed := decide ((i.1 : Int) > 60) } q (cmdM i.2.2 i.2.1.cfg.blocks)).1 = t at *
            have hE' : Ev s0 t (cmdD i.2.2 i.2.1.cfg.blocks) (i.1 + 1) := hI.next hK.1 hK.2.1 hU (by omega) (cmdD_ok hI.ok) hev0 (by omega)
            have hr2 := hE'.val.parts.rings
            have hw2 := hE'.val.parts.works
            have hc2 := confR_iff.1 (confE_r hE'.val.parts.cfg).1
            have hq2 : ¬ t.cfg.queues = 0 := by omega
            repeat' ((first | refine Need.auto ?_ | refine Have.mk (fun _h => ?_)); conv => whnf)
            refine Br.no (by rw [hw2]; simp [hq2]) ?_
            conv => whnf
            repeat' ((first | refine Need.auto ?_ | refine Have.mk (fun _h => ?_)); conv => whnf)
            refine ⟨(i.1 + 1, t, (cmdD i.2.2 i.2.1.cfg.blocks)), ⟨by show i.1 + 1 ≤ _; omega, hE'⟩, by show steps.length - (i.1 + 1) < _; omega, ?_⟩
            refine Mv.mkW ?_ ?_ (Nat.le_of_ble_eq_true rfl) <;> (repeat' (first | exact WA.nil | refine WA.cons rfl ?_ ?_ | exact WB.nil | refine WB.cons ?_ ?_ | exact WT.nil | refine WT.cons ?_ ?_ | exact WH.nil | refine WH.cons ?_ ?_ | exact WR.nil | refine WR.cons rfl ?_ ?_ | refine WO.vr ?_ | exact WO.dead | exact WO.mpS | refine WO.mpA ?_ | exact WO.arrPA (fun i j => plainRow _ _ _) | refine WO.arrA ?_ | exact WS.u | refine WS.c ?_ | refine WS.a ?_ | refine WS.t ?_ | exact WL.nil | refine WL.cons ?_ ?_ | exact WTL.nil | refine WTL.consC ?_ ?_ | refine WTL.consL ?_ ?_ | exact WC.nils | exact WC.nil rfl | exact WC.nilp | refine WC.fzA | exact WC.ptr rfl (Nat.le_of_ble_eq_true rfl) | exact WC.mpr rfl (Nat.le_of_ble_eq_true rfl) | refine WC.slA | refine WC.intA | refine WC.int ?_ | refine WC.boolA | refine WC.bool ?_ | refine WC.strA | refine WC.str ?_ | exact WC.imm rfl))
      · repeat' ((first | refine Need.auto ?_ | refine Have.mk (fun _h => ?_)); conv => whnf)
        refine CallN.pureA openC_body (openC_spec i.2.1 hI.sm _ hI.all ) ?_
        conv => whnf
        repeat' ((first | refine Need.auto ?_ | refine Have.mk (fun _h => ?_)); conv => whnf)
        have hb2 := confR_iff.1 (confE_r hI.val.parts.cfg).1
        have hol : openS i.2.1 = openM i.2.1.evs := if_pos (validS_V.2 hI.val)
        have hoL := openTo_len i.2.1.evs i.2.1.evs.length
        have hvv := validS_V.2 hI.val
        refine CallN.pureA check18_body (check18_spec i.2.1.cfg.blocks i.2.1.evs (by omega) (by omega) hI.hist.right ) ?_
        conv => whnf
        repeat' ((first | refine Need.auto ?_ | refine Have.mk (fun _h => ?_)); conv => whnf)
        refine CallG.auto pending18_body (fun _ => pending18_spec i.2.1.evs (by omega) ) ?_
        conv => whnf
        repeat' ((first | refine Need.auto ?_ | refine Have.mk (fun _h => ?_)); conv => whnf)
        refine CallG.auto sameInts_body (fun _ => sameInts_spec (openS i.2.1) (openM i.2.1.evs) (by rw [hol]; show (openTo i.2.1.evs i.2.1.evs.length).length ≤ _; omega) ) ?_
        conv => whnf
        repeat' ((first | refine Need.auto ?_ | refine Have.mk (fun _h => ?_)); conv => whnf)
        refine CallG.auto valid_body (fun _ => valid_spec i.2.1 hI.sm _ hI.all ) ?_
        conv => whnf
        repeat' ((first | refine Need.auto ?_ | refine Have.mk (fun _h => ?_)); conv => whnf)
        refine CallG.auto awake24_body (fun _ => awake24_spec ) ?_
        conv => whnf
        repeat' ((first | refine Need.auto ?_ | refine Have.mk (fun _h => ?_)); conv => whnf)
        refine RM.immW rfl (WS.c (WC.bool ?_))
        rw [hol, hvv]
        simp
  · refine Br.yes (by
      by_cases c : l.length ≤ 300
      · have : ¬ steps.length ≤ 100 := fun h => h0 ⟨c, h⟩
        simp [c]; omega
      · simp [c]) ?_
    conv => whnf
    repeat' ((first | refine Need.auto ?_ | refine Have.mk (fun _h => ?_)); conv => whnf)
    refine CallN.pureA awake24_body (awake24_spec ) ?_
    conv => whnf
    repeat' ((first | refine Need.auto ?_ | refine Have.mk (fun _h => ?_)); conv => whnf)
    refine RM.immW rfl ?_; (repeat' (first | exact WA.nil | refine WA.cons rfl ?_ ?_ | exact WB.nil | refine WB.cons ?_ ?_ | exact WT.nil | refine WT.cons ?_ ?_ | exact WH.nil | refine WH.cons ?_ ?_ | exact WR.nil | refine WR.cons rfl ?_ ?_ | refine WO.vr ?_ | exact WO.dead | exact WO.mpS | refine WO.mpA ?_ | exact WO.arrPA (fun i j => plainRow _ _ _) | refine WO.arrA ?_ | exact WS.u | refine WS.c ?_ | refine WS.a ?_ | refine WS.t ?_ | exact WL.nil | refine WL.cons ?_ ?_ | exact WTL.nil | refine WTL.consC ?_ ?_ | refine WTL.consL ?_ ?_ | exact WC.nils | exact WC.nil rfl | exact WC.nilp | refine WC.fzA | exact WC.ptr rfl (Nat.le_of_ble_eq_true rfl) | exact WC.mpr rfl (Nat.le_of_ble_eq_true rfl) | refine WC.slA | refine WC.intA | refine WC.int ?_ | refine WC.boolA | refine WC.bool ?_ | refine WC.strA | refine WC.str ?_ | exact WC.imm rfl))
end Go.Proofs
end

section
open Go Go.Am
namespace Go.Proofs
theorem u16_range {H : Type} {l : List Int} {d : DataW H} (h : GoodL (fun n d => (Lit.int .u16 n).wf = true ∧ d = .lit (.int .u16 n)) l d) : ∀ i, i < l.length → 0 ≤ l.getD i default ∧ l.getD i default < 65536 := fun i hi => by
  rcases h with ⟨-, h⟩ | ⟨es, sp, -, h1, h2⟩
  · rw [h] at hi; exact absurd hi (Nat.not_lt_zero _)
  · have := (h2 i l[i] es[i] (List.getElem?_eq_getElem hi) (List.getElem?_eq_getElem (by omega))).1
    rw [getD_of _ _ hi]
    generalize l[i] = n at this
    simp only [Lit.wf, Bool.and_eq_true, decide_eq_true_eq] at this
    have e1 : IntKind.u16.min = 0 := by decide
    have e2 : IntKind.u16.max = 65535 := by decide
    rw [e1, e2] at this
    omega
end Go.Proofs
end
