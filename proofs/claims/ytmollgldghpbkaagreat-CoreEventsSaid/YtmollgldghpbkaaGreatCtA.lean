/- Part of the proofs of laws of this seat: contracts and plain lemmas; no condition is added to a statement. -/
import Derived.Test.YtmollgldghpbkaaGreatAmF
import Derived.Test.YtmollgldghpbkaaGreatModB
set_option linter.unusedSimpArgs false
set_option linter.unusedVariables false
section
open Go Go.Am
namespace Go.Proofs
theorem cloneIntO_spec (n : Nat) (g : Nat → Nat → C) (t : Bool) (hn : n ≤ 10000000) (him : ∀ i, i < n → ∀ j, j < 1 → (g i j).imm = true) : CSpec Tryz.prog 123 [.c (.isl 1 n g t)] [] fun s H => s = .c (.sl 0 1 n n false) ∧ H = [.arr 3 1 n g] := by
  refine CSpec.rm ?_
  refine CSpec.of_vc hΓ Tryz.func123 rfl 8 0 [.tmp 2] Tryz.ntmps123 rfl (by rw [Tryz.results123]) rfl ?_
  conv => whnf
  repeat' ((first | refine Need.auto ?_ | refine Have.mk (fun _h => ?_)); conv => whnf)
  intro b hb
  conv => whnf
  repeat' ((first | refine Need.auto ?_ | refine Have.mk (fun _h => ?_)); conv => whnf)
  (first | refine Br.lt (fun h => ?_) (fun h => ?_) | refine Br.le (fun h => ?_) (fun h => ?_) | refine Br.gt (fun h => ?_) (fun h => ?_) | refine Br.ge (fun h => ?_) (fun h => ?_) | refine Br.eq (fun h => ?_) (fun h => ?_) | refine Br.ne (fun h => ?_) (fun h => ?_) | refine Br.not (fun h => ?_) (fun h => ?_) | refine Br.mk (fun h => ?_) (fun h => ?_)) <;> (try simp only [Int.toNat_natCast] at h) <;> (conv => whnf)
  · repeat' ((first | refine Need.auto ?_ | refine Have.mk (fun _h => ?_)); conv => whnf)
    have : n = 0 := by
      rcases Nat.eq_zero_or_pos n with c | c
      · exact c
      · exact absurd h (by rw [hb c]; simp)
    subst this
    exact ⟨_, _, RM.nilO 3 1 g, rfl, rfl⟩
  · repeat' ((first | refine Need.auto ?_ | refine Have.mk (fun _h => ?_)); conv => whnf)
    refine ⟨_, _, ?_, rfl, rfl⟩
    refine RM.wkW ?_ ?_ (Nat.zero_le _) <;> (repeat' (first | exact WA.nil | refine WA.cons rfl ?_ ?_ | exact WB.nil | refine WB.cons ?_ ?_ | exact WT.nil | refine WT.cons ?_ ?_ | exact WH.nil | refine WH.cons ?_ ?_ | exact WR.nil | refine WR.cons rfl ?_ ?_ | refine WO.vr ?_ | exact WO.dead | exact WO.mpS | refine WO.mpA ?_ | exact WO.arrPA (fun i j => plainRow _ _ _) | refine WO.arrA ?_ | exact WS.u | refine WS.c ?_ | refine WS.a ?_ | refine WS.t ?_ | exact WL.nil | refine WL.cons ?_ ?_ | exact WTL.nil | refine WTL.consC ?_ ?_ | refine WTL.consL ?_ ?_ | exact WC.nils | exact WC.nil rfl | exact WC.nilp | refine WC.fzA | exact WC.ptr rfl (Nat.le_of_ble_eq_true rfl) | exact WC.mpr rfl (Nat.le_of_ble_eq_true rfl) | refine WC.slA | refine WC.intA | refine WC.int ?_ | refine WC.boolA | refine WC.bool ?_ | refine WC.strA | refine WC.str ?_ | exact WC.imm rfl))
    intro i hi j hj
    exact WC.eq (by simp [appG]) (him i (by omega) j hj)
theorem cloneInt_body : HasBody Tryz.prog 123 := ⟨⟨Tryz.f123, Tryz.func123, rfl, by kernel_rfl⟩⟩
theorem cloneStrO_spec (n : Nat) (g : Nat → Nat → C) (t : Bool) (hn : n ≤ 10000000) (him : ∀ i, i < n → ∀ j, j < 1 → (g i j).imm = true) : CSpec Tryz.prog 188 [.c (.isl 1 n g t)] [] fun s H => s = .c (.sl 0 1 n n false) ∧ H = [.arr 9 1 n g] := by
  refine CSpec.rm ?_
  refine CSpec.of_vc hΓ Tryz.func188 rfl 8 0 [.tmp 2] Tryz.ntmps188 rfl (by rw [Tryz.results188]) rfl ?_
  conv => whnf
  repeat' ((first | refine Need.auto ?_ | refine Have.mk (fun _h => ?_)); conv => whnf)
  intro b hb
  conv => whnf
  repeat' ((first | refine Need.auto ?_ | refine Have.mk (fun _h => ?_)); conv => whnf)
  (first | refine Br.lt (fun h => ?_) (fun h => ?_) | refine Br.le (fun h => ?_) (fun h => ?_) | refine Br.gt (fun h => ?_) (fun h => ?_) | refine Br.ge (fun h => ?_) (fun h => ?_) | refine Br.eq (fun h => ?_) (fun h => ?_) | refine Br.ne (fun h => ?_) (fun h => ?_) | refine Br.not (fun h => ?_) (fun h => ?_) | refine Br.mk (fun h => ?_) (fun h => ?_)) <;> (try simp only [Int.toNat_natCast] at h) <;> (conv => whnf)
  · repeat' ((first | refine Need.auto ?_ | refine Have.mk (fun _h => ?_)); conv => whnf)
    have : n = 0 := by
      rcases Nat.eq_zero_or_pos n with c | c
      · exact c
      · exact absurd h (by rw [hb c]; simp)
    subst this
    exact ⟨_, _, RM.nilO 9 1 g, rfl, rfl⟩
  · repeat' ((first | refine Need.auto ?_ | refine Have.mk (fun _h => ?_)); conv => whnf)
    refine ⟨_, _, ?_, rfl, rfl⟩
    refine RM.wkW ?_ ?_ (Nat.zero_le _) <;> (repeat' (first | exact WA.nil | refine WA.cons rfl ?_ ?_ | exact WB.nil | refine WB.cons ?_ ?_ | exact WT.nil | refine WT.cons ?_ ?_ | exact WH.nil | refine WH.cons ?_ ?_ | exact WR.nil | refine WR.cons rfl ?_ ?_ | refine WO.vr ?_ | exact WO.dead | exact WO.mpS | refine WO.mpA ?_ | exact WO.arrPA (fun i j => plainRow _ _ _) | refine WO.arrA ?_ | exact WS.u | refine WS.c ?_ | refine WS.a ?_ | refine WS.t ?_ | exact WL.nil | refine WL.cons ?_ ?_ | exact WTL.nil | refine WTL.consC ?_ ?_ | refine WTL.consL ?_ ?_ | exact WC.nils | exact WC.nil rfl | exact WC.nilp | refine WC.fzA | exact WC.ptr rfl (Nat.le_of_ble_eq_true rfl) | exact WC.mpr rfl (Nat.le_of_ble_eq_true rfl) | refine WC.slA | refine WC.intA | refine WC.int ?_ | refine WC.boolA | refine WC.bool ?_ | refine WC.strA | refine WC.str ?_ | exact WC.imm rfl))
    intro i hi j hj
    exact WC.eq (by simp [appG]) (him i (by omega) j hj)
theorem cloneStr_body : HasBody Tryz.prog 188 := ⟨⟨Tryz.f188, Tryz.func188, rfl, by kernel_rfl⟩⟩
theorem cloneZoneO_spec (n : Nat) (g : Nat → Nat → C) (t : Bool) (hn : n ≤ 10000000) (him : ∀ i, i < n → ∀ j, j < 3 → (g i j).imm = true) : CSpec Tryz.prog 187 [.c (.isl 3 n g t)] [] fun s H => s = .c (.sl 0 3 n n false) ∧ H = [.arr 117 3 n g] := by
  refine CSpec.rm ?_
  refine CSpec.of_vc hΓ Tryz.func187 rfl 8 0 [.tmp 2] Tryz.ntmps187 rfl (by rw [Tryz.results187]) rfl ?_
  conv => whnf
  repeat' ((first | refine Need.auto ?_ | refine Have.mk (fun _h => ?_)); conv => whnf)
  intro b hb
  conv => whnf
  repeat' ((first | refine Need.auto ?_ | refine Have.mk (fun _h => ?_)); conv => whnf)
  (first | refine Br.lt (fun h => ?_) (fun h => ?_) | refine Br.le (fun h => ?_) (fun h => ?_) | refine Br.gt (fun h => ?_) (fun h => ?_) | refine Br.ge (fun h => ?_) (fun h => ?_) | refine Br.eq (fun h => ?_) (fun h => ?_) | refine Br.ne (fun h => ?_) (fun h => ?_) | refine Br.not (fun h => ?_) (fun h => ?_) | refine Br.mk (fun h => ?_) (fun h => ?_)) <;> (try simp only [Int.toNat_natCast] at h) <;> (conv => whnf)
  · repeat' ((first | refine Need.auto ?_ | refine Have.mk (fun _h => ?_)); conv => whnf)
    have : n = 0 := by
      rcases Nat.eq_zero_or_pos n with c | c
      · exact c
      · exact absurd h (by rw [hb c]; simp)
    subst this
    exact ⟨_, _, RM.nilO 117 3 g, rfl, rfl⟩
  · repeat' ((first | refine Need.auto ?_ | refine Have.mk (fun _h => ?_)); conv => whnf)
    refine ⟨_, _, ?_, rfl, rfl⟩
    refine RM.wkW ?_ ?_ (Nat.zero_le _) <;> (repeat' (first | exact WA.nil | refine WA.cons rfl ?_ ?_ | exact WB.nil | refine WB.cons ?_ ?_ | exact WT.nil | refine WT.cons ?_ ?_ | exact WH.nil | refine WH.cons ?_ ?_ | exact WR.nil | refine WR.cons rfl ?_ ?_ | refine WO.vr ?_ | exact WO.dead | exact WO.mpS | refine WO.mpA ?_ | exact WO.arrPA (fun i j => plainRow _ _ _) | refine WO.arrA ?_ | exact WS.u | refine WS.c ?_ | refine WS.a ?_ | refine WS.t ?_ | exact WL.nil | refine WL.cons ?_ ?_ | exact WTL.nil | refine WTL.consC ?_ ?_ | refine WTL.consL ?_ ?_ | exact WC.nils | exact WC.nil rfl | exact WC.nilp | refine WC.fzA | exact WC.ptr rfl (Nat.le_of_ble_eq_true rfl) | exact WC.mpr rfl (Nat.le_of_ble_eq_true rfl) | refine WC.slA | refine WC.intA | refine WC.int ?_ | refine WC.boolA | refine WC.bool ?_ | refine WC.strA | refine WC.str ?_ | exact WC.imm rfl))
    intro i hi j hj
    exact WC.eq (by simp [appG]) (him i (by omega) j hj)
theorem cloneZoneO_body : HasBody Tryz.prog 187 := ⟨⟨Tryz.f187, Tryz.func187, rfl, by kernel_rfl⟩⟩
theorem cloneShO_spec (n : Nat) (g : Nat → Nat → C) (t : Bool) (hn : n ≤ 10000000) (him : ∀ i, i < n → ∀ j, j < 1 → (g i j).imm = true) : CSpec Tryz.prog 121 [.c (.isl 1 n g t)] [] fun s H => s = .c (.sl 0 1 n n false) ∧ H = [.arr 50 1 n g] := by
  refine CSpec.rm ?_
  refine CSpec.of_vc hΓ Tryz.func121 rfl 8 0 [.tmp 2] Tryz.ntmps121 rfl (by rw [Tryz.results121]) rfl ?_
  conv => whnf
  repeat' ((first | refine Need.auto ?_ | refine Have.mk (fun _h => ?_)); conv => whnf)
  intro b hb
  conv => whnf
  repeat' ((first | refine Need.auto ?_ | refine Have.mk (fun _h => ?_)); conv => whnf)
  (first | refine Br.lt (fun h => ?_) (fun h => ?_) | refine Br.le (fun h => ?_) (fun h => ?_) | refine Br.gt (fun h => ?_) (fun h => ?_) | refine Br.ge (fun h => ?_) (fun h => ?_) | refine Br.eq (fun h => ?_) (fun h => ?_) | refine Br.ne (fun h => ?_) (fun h => ?_) | refine Br.not (fun h => ?_) (fun h => ?_) | refine Br.mk (fun h => ?_) (fun h => ?_)) <;> (try simp only [Int.toNat_natCast] at h) <;> (conv => whnf)
  · repeat' ((first | refine Need.auto ?_ | refine Have.mk (fun _h => ?_)); conv => whnf)
    have : n = 0 := by
      rcases Nat.eq_zero_or_pos n with c | c
      · exact c
      · exact absurd h (by rw [hb c]; simp)
    subst this
    exact ⟨_, _, RM.nilO 50 1 g, rfl, rfl⟩
  · repeat' ((first | refine Need.auto ?_ | refine Have.mk (fun _h => ?_)); conv => whnf)
    refine ⟨_, _, ?_, rfl, rfl⟩
    refine RM.wkW ?_ ?_ (Nat.zero_le _) <;> (repeat' (first | exact WA.nil | refine WA.cons rfl ?_ ?_ | exact WB.nil | refine WB.cons ?_ ?_ | exact WT.nil | refine WT.cons ?_ ?_ | exact WH.nil | refine WH.cons ?_ ?_ | exact WR.nil | refine WR.cons rfl ?_ ?_ | refine WO.vr ?_ | exact WO.dead | exact WO.mpS | refine WO.mpA ?_ | exact WO.arrPA (fun i j => plainRow _ _ _) | refine WO.arrA ?_ | exact WS.u | refine WS.c ?_ | refine WS.a ?_ | refine WS.t ?_ | exact WL.nil | refine WL.cons ?_ ?_ | exact WTL.nil | refine WTL.consC ?_ ?_ | refine WTL.consL ?_ ?_ | exact WC.nils | exact WC.nil rfl | exact WC.nilp | refine WC.fzA | exact WC.ptr rfl (Nat.le_of_ble_eq_true rfl) | exact WC.mpr rfl (Nat.le_of_ble_eq_true rfl) | refine WC.slA | refine WC.intA | refine WC.int ?_ | refine WC.boolA | refine WC.bool ?_ | refine WC.strA | refine WC.str ?_ | exact WC.imm rfl))
    intro i hi j hj
    exact WC.eq (by simp [appG]) (him i (by omega) j hj)
theorem cloneShO_body : HasBody Tryz.prog 121 := ⟨⟨Tryz.f121, Tryz.func121, rfl, by kernel_rfl⟩⟩
theorem cloneEntO_spec (n : Nat) (g : Nat → Nat → C) (t : Bool) (hn : n ≤ 10000000) (him : ∀ i, i < n → ∀ j, j < 6 → (g i j).imm = true) : CSpec Tryz.prog 122 [.c (.isl 6 n g t)] [] fun s H => s = .c (.sl 0 6 n n false) ∧ H = [.arr 47 6 n g] := by
  refine CSpec.rm ?_
  refine CSpec.of_vc hΓ Tryz.func122 rfl 8 0 [.tmp 2] Tryz.ntmps122 rfl (by rw [Tryz.results122]) rfl ?_
  conv => whnf
  repeat' ((first | refine Need.auto ?_ | refine Have.mk (fun _h => ?_)); conv => whnf)
  intro b hb
  conv => whnf
  repeat' ((first | refine Need.auto ?_ | refine Have.mk (fun _h => ?_)); conv => whnf)
  (first | refine Br.lt (fun h => ?_) (fun h => ?_) | refine Br.le (fun h => ?_) (fun h => ?_) | refine Br.gt (fun h => ?_) (fun h => ?_) | refine Br.ge (fun h => ?_) (fun h => ?_) | refine Br.eq (fun h => ?_) (fun h => ?_) | refine Br.ne (fun h => ?_) (fun h => ?_) | refine Br.not (fun h => ?_) (fun h => ?_) | refine Br.mk (fun h => ?_) (fun h => ?_)) <;> (try simp only [Int.toNat_natCast] at h) <;> (conv => whnf)
  · repeat' ((first | refine Need.auto ?_ | refine Have.mk (fun _h => ?_)); conv => whnf)
    have : n = 0 := by
      rcases Nat.eq_zero_or_pos n with c | c
      · exact c
      · exact absurd h (by rw [hb c]; simp)
    subst this
    exact ⟨_, _, RM.nilO 47 6 g, rfl, rfl⟩
  · repeat' ((first | refine Need.auto ?_ | refine Have.mk (fun _h => ?_)); conv => whnf)
    refine ⟨_, _, ?_, rfl, rfl⟩
    refine RM.wkW ?_ ?_ (Nat.zero_le _) <;> (repeat' (first | exact WA.nil | refine WA.cons rfl ?_ ?_ | exact WB.nil | refine WB.cons ?_ ?_ | exact WT.nil | refine WT.cons ?_ ?_ | exact WH.nil | refine WH.cons ?_ ?_ | exact WR.nil | refine WR.cons rfl ?_ ?_ | refine WO.vr ?_ | exact WO.dead | exact WO.mpS | refine WO.mpA ?_ | exact WO.arrPA (fun i j => plainRow _ _ _) | refine WO.arrA ?_ | exact WS.u | refine WS.c ?_ | refine WS.a ?_ | refine WS.t ?_ | exact WL.nil | refine WL.cons ?_ ?_ | exact WTL.nil | refine WTL.consC ?_ ?_ | refine WTL.consL ?_ ?_ | exact WC.nils | exact WC.nil rfl | exact WC.nilp | refine WC.fzA | exact WC.ptr rfl (Nat.le_of_ble_eq_true rfl) | exact WC.mpr rfl (Nat.le_of_ble_eq_true rfl) | refine WC.slA | refine WC.intA | refine WC.int ?_ | refine WC.boolA | refine WC.bool ?_ | refine WC.strA | refine WC.str ?_ | exact WC.imm rfl))
    intro i hi j hj
    exact WC.eq (by simp [appG]) (him i (by omega) j hj)
theorem cloneEnt_body : HasBody Tryz.prog 122 := ⟨⟨Tryz.f122, Tryz.func122, rfl, by kernel_rfl⟩⟩
theorem cloneRetO_spec (n : Nat) (g : Nat → Nat → C) (t : Bool) (hn : n ≤ 10000000) (him : ∀ i, i < n → ∀ j, j < 2 → (g i j).imm = true) : CSpec Tryz.prog 124 [.c (.isl 2 n g t)] [] fun s H => s = .c (.sl 0 2 n n false) ∧ H = [.arr 203 2 n g] := by
  refine CSpec.rm ?_
  refine CSpec.of_vc hΓ Tryz.func124 rfl 8 0 [.tmp 2] Tryz.ntmps124 rfl (by rw [Tryz.results124]) rfl ?_
  conv => whnf
  repeat' ((first | refine Need.auto ?_ | refine Have.mk (fun _h => ?_)); conv => whnf)
  intro b hb
  conv => whnf
  repeat' ((first | refine Need.auto ?_ | refine Have.mk (fun _h => ?_)); conv => whnf)
  (first | refine Br.lt (fun h => ?_) (fun h => ?_) | refine Br.le (fun h => ?_) (fun h => ?_) | refine Br.gt (fun h => ?_) (fun h => ?_) | refine Br.ge (fun h => ?_) (fun h => ?_) | refine Br.eq (fun h => ?_) (fun h => ?_) | refine Br.ne (fun h => ?_) (fun h => ?_) | refine Br.not (fun h => ?_) (fun h => ?_) | refine Br.mk (fun h => ?_) (fun h => ?_)) <;> (try simp only [Int.toNat_natCast] at h) <;> (conv => whnf)
  · repeat' ((first | refine Need.auto ?_ | refine Have.mk (fun _h => ?_)); conv => whnf)
    have : n = 0 := by
      rcases Nat.eq_zero_or_pos n with c | c
      · exact c
      · exact absurd h (by rw [hb c]; simp)
    subst this
    exact ⟨_, _, RM.nilO 203 2 g, rfl, rfl⟩
  · repeat' ((first | refine Need.auto ?_ | refine Have.mk (fun _h => ?_)); conv => whnf)
    refine ⟨_, _, ?_, rfl, rfl⟩
    refine RM.wkW ?_ ?_ (Nat.zero_le _) <;> (repeat' (first | exact WA.nil | refine WA.cons rfl ?_ ?_ | exact WB.nil | refine WB.cons ?_ ?_ | exact WT.nil | refine WT.cons ?_ ?_ | exact WH.nil | refine WH.cons ?_ ?_ | exact WR.nil | refine WR.cons rfl ?_ ?_ | refine WO.vr ?_ | exact WO.dead | exact WO.mpS | refine WO.mpA ?_ | exact WO.arrPA (fun i j => plainRow _ _ _) | refine WO.arrA ?_ | exact WS.u | refine WS.c ?_ | refine WS.a ?_ | refine WS.t ?_ | exact WL.nil | refine WL.cons ?_ ?_ | exact WTL.nil | refine WTL.consC ?_ ?_ | refine WTL.consL ?_ ?_ | exact WC.nils | exact WC.nil rfl | exact WC.nilp | refine WC.fzA | exact WC.ptr rfl (Nat.le_of_ble_eq_true rfl) | exact WC.mpr rfl (Nat.le_of_ble_eq_true rfl) | refine WC.slA | refine WC.intA | refine WC.int ?_ | refine WC.boolA | refine WC.bool ?_ | refine WC.strA | refine WC.str ?_ | exact WC.imm rfl))
    intro i hi j hj
    exact WC.eq (by simp [appG]) (him i (by omega) j hj)
theorem cloneRet_body : HasBody Tryz.prog 124 := ⟨⟨Tryz.f124, Tryz.func124, rfl, by kernel_rfl⟩⟩
theorem cloneRngO_spec (n : Nat) (g : Nat → Nat → C) (t : Bool) (hn : n ≤ 10000000) (him : ∀ i, i < n → ∀ j, j < 2 → (g i j).imm = true) : CSpec Tryz.prog 125 [.c (.isl 2 n g t)] [] fun s H => s = .c (.sl 0 2 n n false) ∧ H = [.arr 98 2 n g] := by
  refine CSpec.rm ?_
  refine CSpec.of_vc hΓ Tryz.func125 rfl 8 0 [.tmp 2] Tryz.ntmps125 rfl (by rw [Tryz.results125]) rfl ?_
  conv => whnf
  repeat' ((first | refine Need.auto ?_ | refine Have.mk (fun _h => ?_)); conv => whnf)
  intro b hb
  conv => whnf
  repeat' ((first | refine Need.auto ?_ | refine Have.mk (fun _h => ?_)); conv => whnf)
  (first | refine Br.lt (fun h => ?_) (fun h => ?_) | refine Br.le (fun h => ?_) (fun h => ?_) | refine Br.gt (fun h => ?_) (fun h => ?_) | refine Br.ge (fun h => ?_) (fun h => ?_) | refine Br.eq (fun h => ?_) (fun h => ?_) | refine Br.ne (fun h => ?_) (fun h => ?_) | refine Br.not (fun h => ?_) (fun h => ?_) | refine Br.mk (fun h => ?_) (fun h => ?_)) <;> (try simp only [Int.toNat_natCast] at h) <;> (conv => whnf)
  · repeat' ((first | refine Need.auto ?_ | refine Have.mk (fun _h => ?_)); conv => whnf)
    have : n = 0 := by
      rcases Nat.eq_zero_or_pos n with c | c
      · exact c
      · exact absurd h (by rw [hb c]; simp)
    subst this
    exact ⟨_, _, RM.nilO 98 2 g, rfl, rfl⟩
  · repeat' ((first | refine Need.auto ?_ | refine Have.mk (fun _h => ?_)); conv => whnf)
    refine ⟨_, _, ?_, rfl, rfl⟩
    refine RM.wkW ?_ ?_ (Nat.zero_le _) <;> (repeat' (first | exact WA.nil | refine WA.cons rfl ?_ ?_ | exact WB.nil | refine WB.cons ?_ ?_ | exact WT.nil | refine WT.cons ?_ ?_ | exact WH.nil | refine WH.cons ?_ ?_ | exact WR.nil | refine WR.cons rfl ?_ ?_ | refine WO.vr ?_ | exact WO.dead | exact WO.mpS | refine WO.mpA ?_ | exact WO.arrPA (fun i j => plainRow _ _ _) | refine WO.arrA ?_ | exact WS.u | refine WS.c ?_ | refine WS.a ?_ | refine WS.t ?_ | exact WL.nil | refine WL.cons ?_ ?_ | exact WTL.nil | refine WTL.consC ?_ ?_ | refine WTL.consL ?_ ?_ | exact WC.nils | exact WC.nil rfl | exact WC.nilp | refine WC.fzA | exact WC.ptr rfl (Nat.le_of_ble_eq_true rfl) | exact WC.mpr rfl (Nat.le_of_ble_eq_true rfl) | refine WC.slA | refine WC.intA | refine WC.int ?_ | refine WC.boolA | refine WC.bool ?_ | refine WC.strA | refine WC.str ?_ | exact WC.imm rfl))
    intro i hi j hj
    exact WC.eq (by simp [appG]) (him i (by omega) j hj)
theorem cloneRngO_body : HasBody Tryz.prog 125 := ⟨⟨Tryz.f125, Tryz.func125, rfl, by kernel_rfl⟩⟩
theorem cloneReqO_spec (n : Nat) (g : Nat → Nat → C) (t : Bool) (hn : n ≤ 10000000) (him : ∀ i, i < n → ∀ j, j < 4 → (g i j).imm = true) : CSpec Tryz.prog 126 [.c (.isl 4 n g t)] [] fun s H => s = .c (.sl 0 4 n n false) ∧ H = [.arr 66 4 n g] := by
  refine CSpec.rm ?_
  refine CSpec.of_vc hΓ Tryz.func126 rfl 8 0 [.tmp 2] Tryz.ntmps126 rfl (by rw [Tryz.results126]) rfl ?_
  conv => whnf
  repeat' ((first | refine Need.auto ?_ | refine Have.mk (fun _h => ?_)); conv => whnf)
  intro b hb
  conv => whnf
  repeat' ((first | refine Need.auto ?_ | refine Have.mk (fun _h => ?_)); conv => whnf)
  (first | refine Br.lt (fun h => ?_) (fun h => ?_) | refine Br.le (fun h => ?_) (fun h => ?_) | refine Br.gt (fun h => ?_) (fun h => ?_) | refine Br.ge (fun h => ?_) (fun h => ?_) | refine Br.eq (fun h => ?_) (fun h => ?_) | refine Br.ne (fun h => ?_) (fun h => ?_) | refine Br.not (fun h => ?_) (fun h => ?_) | refine Br.mk (fun h => ?_) (fun h => ?_)) <;> (try simp only [Int.toNat_natCast] at h) <;> (conv => whnf)
  · repeat' ((first | refine Need.auto ?_ | refine Have.mk (fun _h => ?_)); conv => whnf)
    have : n = 0 := by
      rcases Nat.eq_zero_or_pos n with c | c
      · exact c
      · exact absurd h (by rw [hb c]; simp)
    subst this
    exact ⟨_, _, RM.nilO 66 4 g, rfl, rfl⟩
  · repeat' ((first | refine Need.auto ?_ | refine Have.mk (fun _h => ?_)); conv => whnf)
    refine ⟨_, _, ?_, rfl, rfl⟩
    refine RM.wkW ?_ ?_ (Nat.zero_le _) <;> (repeat' (first | exact WA.nil | refine WA.cons rfl ?_ ?_ | exact WB.nil | refine WB.cons ?_ ?_ | exact WT.nil | refine WT.cons ?_ ?_ | exact WH.nil | refine WH.cons ?_ ?_ | exact WR.nil | refine WR.cons rfl ?_ ?_ | refine WO.vr ?_ | exact WO.dead | exact WO.mpS | refine WO.mpA ?_ | exact WO.arrPA (fun i j => plainRow _ _ _) | refine WO.arrA ?_ | exact WS.u | refine WS.c ?_ | refine WS.a ?_ | refine WS.t ?_ | exact WL.nil | refine WL.cons ?_ ?_ | exact WTL.nil | refine WTL.consC ?_ ?_ | refine WTL.consL ?_ ?_ | exact WC.nils | exact WC.nil rfl | exact WC.nilp | refine WC.fzA | exact WC.ptr rfl (Nat.le_of_ble_eq_true rfl) | exact WC.mpr rfl (Nat.le_of_ble_eq_true rfl) | refine WC.slA | refine WC.intA | refine WC.int ?_ | refine WC.boolA | refine WC.bool ?_ | refine WC.strA | refine WC.str ?_ | exact WC.imm rfl))
    intro i hi j hj
    exact WC.eq (by simp [appG]) (him i (by omega) j hj)
theorem cloneReq_body : HasBody Tryz.prog 126 := ⟨⟨Tryz.f126, Tryz.func126, rfl, by kernel_rfl⟩⟩
theorem cloneWrkO_spec (n : Nat) (g : Nat → Nat → C) (t : Bool) (hn : n ≤ 10000000) (him : ∀ i, i < n → ∀ j, j < 12 → (g i j).imm = true) : CSpec Tryz.prog 127 [.c (.isl 12 n g t)] [] fun s H => s = .c (.sl 0 12 n n false) ∧ H = [.arr 68 12 n g] := by
  refine CSpec.rm ?_
  refine CSpec.of_vc hΓ Tryz.func127 rfl 8 0 [.tmp 2] Tryz.ntmps127 rfl (by rw [Tryz.results127]) rfl ?_
  conv => whnf
  repeat' ((first | refine Need.auto ?_ | refine Have.mk (fun _h => ?_)); conv => whnf)
  intro b hb
  conv => whnf
  repeat' ((first | refine Need.auto ?_ | refine Have.mk (fun _h => ?_)); conv => whnf)
  (first | refine Br.lt (fun h => ?_) (fun h => ?_) | refine Br.le (fun h => ?_) (fun h => ?_) | refine Br.gt (fun h => ?_) (fun h => ?_) | refine Br.ge (fun h => ?_) (fun h => ?_) | refine Br.eq (fun h => ?_) (fun h => ?_) | refine Br.ne (fun h => ?_) (fun h => ?_) | refine Br.not (fun h => ?_) (fun h => ?_) | refine Br.mk (fun h => ?_) (fun h => ?_)) <;> (try simp only [Int.toNat_natCast] at h) <;> (conv => whnf)
  · repeat' ((first | refine Need.auto ?_ | refine Have.mk (fun _h => ?_)); conv => whnf)
    have : n = 0 := by
      rcases Nat.eq_zero_or_pos n with c | c
      · exact c
      · exact absurd h (by rw [hb c]; simp)
    subst this
    exact ⟨_, _, RM.nilO 68 12 g, rfl, rfl⟩
  · repeat' ((first | refine Need.auto ?_ | refine Have.mk (fun _h => ?_)); conv => whnf)
    refine ⟨_, _, ?_, rfl, rfl⟩
    refine RM.wkW ?_ ?_ (Nat.zero_le _) <;> (repeat' (first | exact WA.nil | refine WA.cons rfl ?_ ?_ | exact WB.nil | refine WB.cons ?_ ?_ | exact WT.nil | refine WT.cons ?_ ?_ | exact WH.nil | refine WH.cons ?_ ?_ | exact WR.nil | refine WR.cons rfl ?_ ?_ | refine WO.vr ?_ | exact WO.dead | exact WO.mpS | refine WO.mpA ?_ | exact WO.arrPA (fun i j => plainRow _ _ _) | refine WO.arrA ?_ | exact WS.u | refine WS.c ?_ | refine WS.a ?_ | refine WS.t ?_ | exact WL.nil | refine WL.cons ?_ ?_ | exact WTL.nil | refine WTL.consC ?_ ?_ | refine WTL.consL ?_ ?_ | exact WC.nils | exact WC.nil rfl | exact WC.nilp | refine WC.fzA | exact WC.ptr rfl (Nat.le_of_ble_eq_true rfl) | exact WC.mpr rfl (Nat.le_of_ble_eq_true rfl) | refine WC.slA | refine WC.intA | refine WC.int ?_ | refine WC.boolA | refine WC.bool ?_ | refine WC.strA | refine WC.str ?_ | exact WC.imm rfl))
    intro i hi j hj
    exact WC.eq (by simp [appG]) (him i (by omega) j hj)
theorem cloneWrkO_body : HasBody Tryz.prog 127 := ⟨⟨Tryz.f127, Tryz.func127, rfl, by kernel_rfl⟩⟩
theorem cloneRecO_spec (n : Nat) (g : Nat → Nat → C) (t : Bool) (hn : n ≤ 10000000) (him : ∀ i, i < n → ∀ j, j < 5 → (g i j).imm = true) : CSpec Tryz.prog 128 [.c (.isl 5 n g t)] [] fun s H => s = .c (.sl 0 5 n n false) ∧ H = [.arr 178 5 n g] := by
  refine CSpec.rm ?_
  refine CSpec.of_vc hΓ Tryz.func128 rfl 8 0 [.tmp 2] Tryz.ntmps128 rfl (by rw [Tryz.results128]) rfl ?_
  conv => whnf
  repeat' ((first | refine Need.auto ?_ | refine Have.mk (fun _h => ?_)); conv => whnf)
  intro b hb
  conv => whnf
  repeat' ((first | refine Need.auto ?_ | refine Have.mk (fun _h => ?_)); conv => whnf)
  (first | refine Br.lt (fun h => ?_) (fun h => ?_) | refine Br.le (fun h => ?_) (fun h => ?_) | refine Br.gt (fun h => ?_) (fun h => ?_) | refine Br.ge (fun h => ?_) (fun h => ?_) | refine Br.eq (fun h => ?_) (fun h => ?_) | refine Br.ne (fun h => ?_) (fun h => ?_) | refine Br.not (fun h => ?_) (fun h => ?_) | refine Br.mk (fun h => ?_) (fun h => ?_)) <;> (try simp only [Int.toNat_natCast] at h) <;> (conv => whnf)
  · repeat' ((first | refine Need.auto ?_ | refine Have.mk (fun _h => ?_)); conv => whnf)
    have : n = 0 := by
      rcases Nat.eq_zero_or_pos n with c | c
      · exact c
      · exact absurd h (by rw [hb c]; simp)
    subst this
    exact ⟨_, _, RM.nilO 178 5 g, rfl, rfl⟩
  · repeat' ((first | refine Need.auto ?_ | refine Have.mk (fun _h => ?_)); conv => whnf)
    refine ⟨_, _, ?_, rfl, rfl⟩
    refine RM.wkW ?_ ?_ (Nat.zero_le _) <;> (repeat' (first | exact WA.nil | refine WA.cons rfl ?_ ?_ | exact WB.nil | refine WB.cons ?_ ?_ | exact WT.nil | refine WT.cons ?_ ?_ | exact WH.nil | refine WH.cons ?_ ?_ | exact WR.nil | refine WR.cons rfl ?_ ?_ | refine WO.vr ?_ | exact WO.dead | exact WO.mpS | refine WO.mpA ?_ | exact WO.arrPA (fun i j => plainRow _ _ _) | refine WO.arrA ?_ | exact WS.u | refine WS.c ?_ | refine WS.a ?_ | refine WS.t ?_ | exact WL.nil | refine WL.cons ?_ ?_ | exact WTL.nil | refine WTL.consC ?_ ?_ | refine WTL.consL ?_ ?_ | exact WC.nils | exact WC.nil rfl | exact WC.nilp | refine WC.fzA | exact WC.ptr rfl (Nat.le_of_ble_eq_true rfl) | exact WC.mpr rfl (Nat.le_of_ble_eq_true rfl) | refine WC.slA | refine WC.intA | refine WC.int ?_ | refine WC.boolA | refine WC.bool ?_ | refine WC.strA | refine WC.str ?_ | exact WC.imm rfl))
    intro i hi j hj
    exact WC.eq (by simp [appG]) (him i (by omega) j hj)
theorem cloneRec_body : HasBody Tryz.prog 128 := ⟨⟨Tryz.f128, Tryz.func128, rfl, by kernel_rfl⟩⟩
theorem cloneEvO_spec (n : Nat) (g : Nat → Nat → C) (t : Bool) (hn : n ≤ 10000000) (him : ∀ i, i < n → ∀ j, j < 8 → (g i j).imm = true) : CSpec Tryz.prog 129 [.c (.isl 8 n g t)] [] fun s H => s = .c (.sl 0 8 n n false) ∧ H = [.arr 94 8 n g] := by
  refine CSpec.rm ?_
  refine CSpec.of_vc hΓ Tryz.func129 rfl 8 0 [.tmp 2] Tryz.ntmps129 rfl (by rw [Tryz.results129]) rfl ?_
  conv => whnf
  repeat' ((first | refine Need.auto ?_ | refine Have.mk (fun _h => ?_)); conv => whnf)
  intro b hb
  conv => whnf
  repeat' ((first | refine Need.auto ?_ | refine Have.mk (fun _h => ?_)); conv => whnf)
  (first | refine Br.lt (fun h => ?_) (fun h => ?_) | refine Br.le (fun h => ?_) (fun h => ?_) | refine Br.gt (fun h => ?_) (fun h => ?_) | refine Br.ge (fun h => ?_) (fun h => ?_) | refine Br.eq (fun h => ?_) (fun h => ?_) | refine Br.ne (fun h => ?_) (fun h => ?_) | refine Br.not (fun h => ?_) (fun h => ?_) | refine Br.mk (fun h => ?_) (fun h => ?_)) <;> (try simp only [Int.toNat_natCast] at h) <;> (conv => whnf)
  · repeat' ((first | refine Need.auto ?_ | refine Have.mk (fun _h => ?_)); conv => whnf)
    have : n = 0 := by
      rcases Nat.eq_zero_or_pos n with c | c
      · exact c
      · exact absurd h (by rw [hb c]; simp)
    subst this
    exact ⟨_, _, RM.nilO 94 8 g, rfl, rfl⟩
  · repeat' ((first | refine Need.auto ?_ | refine Have.mk (fun _h => ?_)); conv => whnf)
    refine ⟨_, _, ?_, rfl, rfl⟩
    refine RM.wkW ?_ ?_ (Nat.zero_le _) <;> (repeat' (first | exact WA.nil | refine WA.cons rfl ?_ ?_ | exact WB.nil | refine WB.cons ?_ ?_ | exact WT.nil | refine WT.cons ?_ ?_ | exact WH.nil | refine WH.cons ?_ ?_ | exact WR.nil | refine WR.cons rfl ?_ ?_ | refine WO.vr ?_ | exact WO.dead | exact WO.mpS | refine WO.mpA ?_ | exact WO.arrPA (fun i j => plainRow _ _ _) | refine WO.arrA ?_ | exact WS.u | refine WS.c ?_ | refine WS.a ?_ | refine WS.t ?_ | exact WL.nil | refine WL.cons ?_ ?_ | exact WTL.nil | refine WTL.consC ?_ ?_ | refine WTL.consL ?_ ?_ | exact WC.nils | exact WC.nil rfl | exact WC.nilp | refine WC.fzA | exact WC.ptr rfl (Nat.le_of_ble_eq_true rfl) | exact WC.mpr rfl (Nat.le_of_ble_eq_true rfl) | refine WC.slA | refine WC.intA | refine WC.int ?_ | refine WC.boolA | refine WC.bool ?_ | refine WC.strA | refine WC.str ?_ | exact WC.imm rfl))
    intro i hi j hj
    exact WC.eq (by simp [appG]) (him i (by omega) j hj)
theorem cloneEvO_body : HasBody Tryz.prog 129 := ⟨⟨Tryz.f129, Tryz.func129, rfl, by kernel_rfl⟩⟩
theorem cloneInt_spec (l : List Int) (hn : l.length ≤ 10000000) : PSpec Tryz.prog 123 [.c (intsC l)] (.c (intsC l)) := PSpec.ofO (cloneIntO_spec _ _ _ hn fun _ _ _ _ => rfl) fun _ _ _ _ => rfl
theorem cloneStr_spec (l : List ByteArray) (hn : l.length ≤ 10000000) : PSpec Tryz.prog 188 [.c (strsC l)] (.c (strsC l)) := PSpec.ofO (cloneStrO_spec _ _ _ hn fun _ _ _ _ => rfl) fun _ _ _ _ => rfl
theorem cloneEnt_spec (l : List Ent) (hn : l.length ≤ 10000000) : PSpec Tryz.prog 122 [.c (entsC l)] (.c (entsC l)) := PSpec.ofO (cloneEntO_spec _ _ _ hn fun _ _ _ _ => entCell_imm _ _) fun _ _ _ _ => entCell_imm _ _
theorem cloneRet_spec (l : List Ret) (hn : l.length ≤ 10000000) : PSpec Tryz.prog 124 [.c (retC l)] (.c (retC l)) := PSpec.ofO (cloneRetO_spec _ _ _ hn fun _ _ _ _ => retCell_imm _ _) fun _ _ _ _ => retCell_imm _ _
theorem cloneReq_spec (l : List Req) (hn : l.length ≤ 10000000) : PSpec Tryz.prog 126 [.c (reqC l)] (.c (reqC l)) := PSpec.ofO (cloneReqO_spec _ _ _ hn fun _ _ _ _ => reqCell_imm _ _) fun _ _ _ _ => reqCell_imm _ _
theorem cloneRec_spec (l : List Rec) (hn : l.length ≤ 10000000) : PSpec Tryz.prog 128 [.c (recsC l)] (.c (recsC l)) := PSpec.ofO (cloneRecO_spec _ _ _ hn fun _ _ _ _ => recCell_imm _ _) fun _ _ _ _ => recCell_imm _ _
end Go.Proofs
end

section
open Go Go.Am
namespace Go.Proofs
theorem zoneAt_rep {l : List Zone} {k : Nat} {x : List C} (hx : x = [strsC (l.getD k default).sectors]) (i j : Nat) (hj : j < 3) : updG (zoneAt l) k 2 x i j = zoneAt l i j := by
  subst hx
  rw [updG_one]
  split
  · rename_i c
    obtain ⟨rfl, rfl⟩ := c
    rfl
  · rfl
theorem device_spec (d : Dev) (hd : d.small) : PSpec Tryz.prog 120 [.a d.cells] (.a d.cells) := by
  refine PSpec.rm ?_
  refine CSpec.of_vc hΓ Tryz.func120 rfl 28 0 [.cell 2 29] Tryz.ntmps120 rfl (by rw [Tryz.results120]) rfl ?_
  have hz := hd.z
  conv => whnf
  repeat' ((first | refine Need.auto ?_ | refine Have.mk (fun _h => ?_)); conv => whnf)
  refine CallN.autoQ [] cloneZoneO_body (cloneZoneO_spec d.zones.length (zoneAt d.zones) false hz (fun _ _ _ _ => zoneAt_imm _ _ _)) ?_; conv => whnf
  repeat' ((first | refine Need.auto ?_ | refine Have.mk (fun _h => ?_)); conv => whnf)
  refine Lp.mkK hΓ (ι := Nat) [1, 2, 10] (fun i => [(11, .c (.int .i64 i))]) (fun _ => [.vr [.int .i64 d.size, .int .i64 d.maxOpen, .int .i64 d.maxActive, .sl 2 3 d.zones.length d.zones.length false], .vr [.int .i64 0, .int .i64 0, .int .i64 0, .nils], .arr 117 3 d.zones.length (zoneAt d.zones)]) (fun i => i ≤ d.zones.length) (fun i => d.zones.length - i) 0 (Nat.zero_le _) ?_ ?_
  · refine Mv.mkW ?_ ?_ (Nat.le_of_ble_eq_true rfl) <;> (repeat' (first | exact WA.nil | refine WA.cons rfl ?_ ?_ | exact WB.nil | refine WB.cons ?_ ?_ | exact WT.nil | refine WT.cons ?_ ?_ | exact WH.nil | refine WH.cons ?_ ?_ | exact WR.nil | refine WR.cons rfl ?_ ?_ | refine WO.vr ?_ | exact WO.dead | exact WO.mpS | refine WO.mpA ?_ | exact WO.arrPA (fun i j => plainRow _ _ _) | refine WO.arrA ?_ | exact WS.u | refine WS.c ?_ | refine WS.a ?_ | refine WS.t ?_ | exact WL.nil | refine WL.cons ?_ ?_ | exact WTL.nil | refine WTL.consC ?_ ?_ | refine WTL.consL ?_ ?_ | exact WC.nils | exact WC.nil rfl | exact WC.nilp | refine WC.fzA | exact WC.ptr rfl (Nat.le_of_ble_eq_true rfl) | exact WC.mpr rfl (Nat.le_of_ble_eq_true rfl) | refine WC.slA | refine WC.intA | refine WC.int ?_ | refine WC.boolA | refine WC.bool ?_ | refine WC.strA | refine WC.str ?_ | exact WC.imm rfl))
    exact fun i _ j _ => WC.reI (zoneAt_imm _ _ _)
  · intro k hk
    have hsk := hd.s k
    conv => whnf
    repeat' ((first | refine Need.auto ?_ | refine Have.mk (fun _h => ?_)); conv => whnf)
    (first | refine Br.lt (fun h => ?_) (fun h => ?_) | refine Br.le (fun h => ?_) (fun h => ?_) | refine Br.gt (fun h => ?_) (fun h => ?_) | refine Br.ge (fun h => ?_) (fun h => ?_) | refine Br.eq (fun h => ?_) (fun h => ?_) | refine Br.ne (fun h => ?_) (fun h => ?_) | refine Br.not (fun h => ?_) (fun h => ?_) | refine Br.mk (fun h => ?_) (fun h => ?_)) <;> (try simp only [Int.toNat_natCast] at h) <;> (conv => whnf)
    · repeat' ((first | refine Need.auto ?_ | refine Have.mk (fun _h => ?_)); conv => whnf)
      refine Dr.mk hΓ hMix (by kernel_rfl) ?_; conv => whnf
      repeat' ((first | refine Need.auto ?_ | refine Have.mk (fun _h => ?_)); conv => whnf)
      refine Frc.mk (.c (strsC (d.zones.getD k default).sectors)) rfl ?_
      conv => whnf
      repeat' ((first | refine Need.auto ?_ | refine Have.mk (fun _h => ?_)); conv => whnf)
      refine CallP.auto cloneStr_body (cloneStr_spec _ hsk ) ?_
      conv => whnf
      repeat' ((first | refine Need.auto ?_ | refine Have.mk (fun _h => ?_)); conv => whnf)
      have w0 := wrap_id (↑k + 1) (by omega) (by omega)
      refine ⟨k + 1, by omega, by omega, ?_⟩
      refine Mv.mkW ?_ ?_ (Nat.le_of_ble_eq_true rfl) <;> (repeat' (first | exact WA.nil | refine WA.cons rfl ?_ ?_ | exact WB.nil | refine WB.cons ?_ ?_ | exact WT.nil | refine WT.cons ?_ ?_ | exact WH.nil | refine WH.cons ?_ ?_ | exact WR.nil | refine WR.cons rfl ?_ ?_ | refine WO.vr ?_ | exact WO.dead | exact WO.mpS | refine WO.mpA ?_ | exact WO.arrPA (fun i j => plainRow _ _ _) | refine WO.arrA ?_ | exact WS.u | refine WS.c ?_ | refine WS.a ?_ | refine WS.t ?_ | exact WL.nil | refine WL.cons ?_ ?_ | exact WTL.nil | refine WTL.consC ?_ ?_ | refine WTL.consL ?_ ?_ | exact WC.nils | exact WC.nil rfl | exact WC.nilp | refine WC.fzA | exact WC.ptr rfl (Nat.le_of_ble_eq_true rfl) | exact WC.mpr rfl (Nat.le_of_ble_eq_true rfl) | refine WC.slA | refine WC.intA | refine WC.int ?_ | refine WC.boolA | refine WC.bool ?_ | refine WC.strA | refine WC.str ?_ | exact WC.imm rfl))
      exact fun i _ j hj => WC.eq (zoneAt_rep rfl i j hj) (zoneAt_imm _ _ _)
    · repeat' ((first | refine Need.auto ?_ | refine Have.mk (fun _h => ?_)); conv => whnf)
      refine RM.fz 2 rfl (Nat.zero_le _) (fun _ _ _ _ => zoneAt_imm _ _ _) ?_
      refine RM.wkW ?_ ?_ (Nat.zero_le _) <;> (repeat' (first | exact WA.nil | refine WA.cons rfl ?_ ?_ | exact WB.nil | refine WB.cons ?_ ?_ | exact WT.nil | refine WT.cons ?_ ?_ | exact WH.nil | refine WH.cons ?_ ?_ | exact WR.nil | refine WR.cons rfl ?_ ?_ | refine WO.vr ?_ | exact WO.dead | exact WO.mpS | refine WO.mpA ?_ | exact WO.arrPA (fun i j => plainRow _ _ _) | refine WO.arrA ?_ | exact WS.u | refine WS.c ?_ | refine WS.a ?_ | refine WS.t ?_ | exact WL.nil | refine WL.cons ?_ ?_ | exact WTL.nil | refine WTL.consC ?_ ?_ | refine WTL.consL ?_ ?_ | exact WC.nils | exact WC.nil rfl | exact WC.nilp | refine WC.fzA | exact WC.ptr rfl (Nat.le_of_ble_eq_true rfl) | exact WC.mpr rfl (Nat.le_of_ble_eq_true rfl) | refine WC.slA | refine WC.intA | refine WC.int ?_ | refine WC.boolA | refine WC.bool ?_ | refine WC.strA | refine WC.str ?_ | exact WC.imm rfl))
theorem device_body : HasBody Tryz.prog 120 := ⟨⟨Tryz.f120, Tryz.func120, rfl, by kernel_rfl⟩⟩
end Go.Proofs
end

section
open Go Go.Am
namespace Go.Proofs
theorem shard_rep {l : List (List Ent)} {k : Nat} {x : List C} (hx : x = [entsC (l.getD k default)]) (i j : Nat) (hj : j < 1) : updG (shardG l) k 0 x i j = shardG l i j := by
  subst hx
  rw [updG_one]
  split
  · rename_i c
    obtain ⟨rfl, rfl⟩ := c
    rfl
  · rfl
theorem ring_rep {l : List Rng} {k : Nat} {x : List C} (hx : x = [reqC (l.getD k default).items]) (i j : Nat) (hj : j < 2) : updG (rngG l) k 1 x i j = rngG l i j := by
  subst hx
  rw [updG_one]
  split
  · rename_i c
    obtain ⟨rfl, rfl⟩ := c
    rfl
  · rfl
def St.objs (s : St) : List O := [.arr 98 2 s.rings.length (rngG s.rings), .arr 68 12 s.works.length (wrkG s.works), .arr 94 8 s.evs.length (evG s.evs)]
def St.own (s : St) (a b c : Nat) : List C := s.cellsW (.sl a 2 s.rings.length s.rings.length false) (.sl b 12 s.works.length s.works.length false) (.sl c 8 s.evs.length s.evs.length false)
set_option maxHeartbeats 4000000 in
set_option maxRecDepth 20000 in
theorem state_spec (s : St) (hs : s.small) : CSpec Tryz.prog 49 [.a s.cells] [] fun r H => r = .a (s.own 0 1 2) ∧ H = s.objs := by
  refine CSpec.rm ?_
  refine CSpec.of_vc hΓ Tryz.func49 rfl 113 0 [.cell 2 58] Tryz.ntmps49 rfl (by rw [Tryz.results49]) rfl ?_
  conv => whnf
  repeat' ((first | refine Need.auto ?_ | refine Have.mk (fun _h => ?_)); conv => whnf)
  refine CallN.pureA device_body (device_spec s.dev hs.dev ) ?_
  conv => whnf
  repeat' ((first | refine Need.auto ?_ | refine Have.mk (fun _h => ?_)); conv => whnf)
  refine CallN.autoQ [] cloneShO_body (cloneShO_spec s.map.length (shardG s.map) false (by have := hs.map; omega) (fun _ _ _ _ => rfl)) ?_; conv => whnf
  repeat' ((first | refine Need.auto ?_ | refine Have.mk (fun _h => ?_)); conv => whnf)
  refine Lp.mkK hΓ (ι := Nat) [1, 2, 18, 19] (fun i => [(20, .c (.int .i64 i))]) (fun _ => [.vr (s.cellsX (.sl 2 1 s.map.length s.map.length false) (rngC s.rings) (wrkC s.works) (evC s.evs)), .vr (default : St).cells, .arr 50 1 s.map.length (shardG s.map)]) (fun i => i ≤ s.map.length) (fun i => s.map.length - i) 0 (Nat.zero_le _) ?_ ?_
  · refine Mv.mkW ?_ ?_ (Nat.le_of_ble_eq_true rfl) <;> (repeat' (first | exact WA.nil | refine WA.cons rfl ?_ ?_ | exact WB.nil | refine WB.cons ?_ ?_ | exact WT.nil | refine WT.cons ?_ ?_ | exact WH.nil | refine WH.cons ?_ ?_ | exact WR.nil | refine WR.cons rfl ?_ ?_ | refine WO.vr ?_ | exact WO.dead | exact WO.mpS | refine WO.mpA ?_ | exact WO.arrPA (fun i j => plainRow _ _ _) | refine WO.arrA ?_ | exact WS.u | refine WS.c ?_ | refine WS.a ?_ | refine WS.t ?_ | exact WL.nil | refine WL.cons ?_ ?_ | exact WTL.nil | refine WTL.consC ?_ ?_ | refine WTL.consL ?_ ?_ | exact WC.nils | exact WC.nil rfl | exact WC.nilp | refine WC.fzA | exact WC.ptr rfl (Nat.le_of_ble_eq_true rfl) | exact WC.mpr rfl (Nat.le_of_ble_eq_true rfl) | refine WC.slA | refine WC.intA | refine WC.int ?_ | refine WC.boolA | refine WC.bool ?_ | refine WC.strA | refine WC.str ?_ | exact WC.imm rfl))
    exact fun i _ j _ => WC.reI rfl
  · intro k hk
    have hsk := hs.shard k
    conv => whnf
    repeat' ((first | refine Need.auto ?_ | refine Have.mk (fun _h => ?_)); conv => whnf)
    (first | refine Br.lt (fun h => ?_) (fun h => ?_) | refine Br.le (fun h => ?_) (fun h => ?_) | refine Br.gt (fun h => ?_) (fun h => ?_) | refine Br.ge (fun h => ?_) (fun h => ?_) | refine Br.eq (fun h => ?_) (fun h => ?_) | refine Br.ne (fun h => ?_) (fun h => ?_) | refine Br.not (fun h => ?_) (fun h => ?_) | refine Br.mk (fun h => ?_) (fun h => ?_)) <;> (try simp only [Int.toNat_natCast] at h) <;> (conv => whnf)
    · repeat' ((first | refine Need.auto ?_ | refine Have.mk (fun _h => ?_)); conv => whnf)
      refine Frc.mk (.c (entsC (s.map.getD k default))) rfl ?_
      conv => whnf
      repeat' ((first | refine Need.auto ?_ | refine Have.mk (fun _h => ?_)); conv => whnf)
      refine Dr.mk hΓ hMix (by kernel_rfl) ?_; conv => whnf
      repeat' ((first | refine Need.auto ?_ | refine Have.mk (fun _h => ?_)); conv => whnf)
      refine CallP.auto cloneEnt_body (cloneEnt_spec (s.map.getD k default) (by omega) ) ?_
      conv => whnf
      repeat' ((first | refine Need.auto ?_ | refine Have.mk (fun _h => ?_)); conv => whnf)
      have w0 := wrap_id (↑k + 1) (by have := hs.map; omega) (by have := hs.map; omega)
      refine ⟨k + 1, by omega, by omega, ?_⟩
      refine Mv.mkW ?_ ?_ (Nat.le_of_ble_eq_true rfl) <;> (repeat' (first | exact WA.nil | refine WA.cons rfl ?_ ?_ | exact WB.nil | refine WB.cons ?_ ?_ | exact WT.nil | refine WT.cons ?_ ?_ | exact WH.nil | refine WH.cons ?_ ?_ | exact WR.nil | refine WR.cons rfl ?_ ?_ | refine WO.vr ?_ | exact WO.dead | exact WO.mpS | refine WO.mpA ?_ | exact WO.arrPA (fun i j => plainRow _ _ _) | refine WO.arrA ?_ | exact WS.u | refine WS.c ?_ | refine WS.a ?_ | refine WS.t ?_ | exact WL.nil | refine WL.cons ?_ ?_ | exact WTL.nil | refine WTL.consC ?_ ?_ | refine WTL.consL ?_ ?_ | exact WC.nils | exact WC.nil rfl | exact WC.nilp | refine WC.fzA | exact WC.ptr rfl (Nat.le_of_ble_eq_true rfl) | exact WC.mpr rfl (Nat.le_of_ble_eq_true rfl) | refine WC.slA | refine WC.intA | refine WC.int ?_ | refine WC.boolA | refine WC.bool ?_ | refine WC.strA | refine WC.str ?_ | exact WC.imm rfl))
      exact fun i _ j hj => WC.eq (shard_rep rfl i j hj) rfl
    · repeat' ((first | refine Need.auto ?_ | refine Have.mk (fun _h => ?_)); conv => whnf)
      refine Dr.mk hΓ hMix (by kernel_rfl) ?_; conv => whnf
      repeat' ((first | refine Need.auto ?_ | refine Have.mk (fun _h => ?_)); conv => whnf)
      refine CallP.auto cloneInt_body (cloneInt_spec s.live (by have := hs.live; omega) ) ?_
      conv => whnf
      repeat' ((first | refine Need.auto ?_ | refine Have.mk (fun _h => ?_)); conv => whnf)
      refine CallP.auto cloneInt_body (cloneInt_spec s.pend (by have := hs.pend; omega) ) ?_
      conv => whnf
      repeat' ((first | refine Need.auto ?_ | refine Have.mk (fun _h => ?_)); conv => whnf)
      refine CallN.pureA cloneInt_body (cloneInt_spec s.owner (by have := hs.owner; omega) ) ?_
      conv => whnf
      repeat' ((first | refine Need.auto ?_ | refine Have.mk (fun _h => ?_)); conv => whnf)
      refine Dr.mk hΓ hMix (by kernel_rfl) ?_; conv => whnf
      repeat' ((first | refine Need.auto ?_ | refine Have.mk (fun _h => ?_)); conv => whnf)
      refine CallP.auto cloneInt_body (cloneInt_spec s.pins (by have := hs.pins; omega) ) ?_
      conv => whnf
      repeat' ((first | refine Need.auto ?_ | refine Have.mk (fun _h => ?_)); conv => whnf)
      refine CallP.auto cloneRet_body (cloneRet_spec s.rets (by have := hs.rets; omega) ) ?_
      conv => whnf
      repeat' ((first | refine Need.auto ?_ | refine Have.mk (fun _h => ?_)); conv => whnf)
      refine CallN.pureA cloneInt_body (cloneInt_spec s.free (by have := hs.free; omega) ) ?_
      conv => whnf
      repeat' ((first | refine Need.auto ?_ | refine Have.mk (fun _h => ?_)); conv => whnf)
      refine CallN.autoQ [] cloneRngO_body (cloneRngO_spec s.rings.length (rngG s.rings) false (by have := hs.rings; omega) (fun _ _ _ _ => rngCell_imm _ _)) ?_; conv => whnf
      repeat' ((first | refine Need.auto ?_ | refine Have.mk (fun _h => ?_)); conv => whnf)
      refine Lp.mkK hΓ (ι := Nat) [1, 2, 73] (fun i => [(74, .c (.int .i64 i))]) (fun _ => [.vr (s.cellsX (.sl 2 1 s.map.length s.map.length false) (.sl 3 2 s.rings.length s.rings.length false) (wrkC s.works) (evC s.evs)), .vr (default : St).cells, .arr 50 1 s.map.length (shardG s.map), .arr 98 2 s.rings.length (rngG s.rings)]) (fun i => i ≤ s.rings.length) (fun i => s.rings.length - i) 0 (Nat.zero_le _) ?_ ?_
      · refine Mv.mkW ?_ ?_ (Nat.le_of_ble_eq_true rfl) <;> (repeat' (first | exact WA.nil | refine WA.cons rfl ?_ ?_ | exact WB.nil | refine WB.cons ?_ ?_ | exact WT.nil | refine WT.cons ?_ ?_ | exact WH.nil | refine WH.cons ?_ ?_ | exact WR.nil | refine WR.cons rfl ?_ ?_ | refine WO.vr ?_ | exact WO.dead | exact WO.mpS | refine WO.mpA ?_ | exact WO.arrPA (fun i j => plainRow _ _ _) | refine WO.arrA ?_ | exact WS.u | refine WS.c ?_ | refine WS.a ?_ | refine WS.t ?_ | exact WL.nil | refine WL.cons ?_ ?_ | exact WTL.nil | refine WTL.consC ?_ ?_ | refine WTL.consL ?_ ?_ | exact WC.nils | exact WC.nil rfl | exact WC.nilp | refine WC.fzA | exact WC.ptr rfl (Nat.le_of_ble_eq_true rfl) | exact WC.mpr rfl (Nat.le_of_ble_eq_true rfl) | refine WC.slA | refine WC.intA | refine WC.int ?_ | refine WC.boolA | refine WC.bool ?_ | refine WC.strA | refine WC.str ?_ | exact WC.imm rfl))
        · exact fun i _ j _ => WC.imm rfl
        · exact fun i _ j _ => WC.reI (rngCell_imm _ _)
      · intro q hq
        have hsi := hs.items q
        conv => whnf
        repeat' ((first | refine Need.auto ?_ | refine Have.mk (fun _h => ?_)); conv => whnf)
        (first | refine Br.lt (fun h2 => ?_) (fun h2 => ?_) | refine Br.le (fun h2 => ?_) (fun h2 => ?_) | refine Br.gt (fun h2 => ?_) (fun h2 => ?_) | refine Br.ge (fun h2 => ?_) (fun h2 => ?_) | refine Br.eq (fun h2 => ?_) (fun h2 => ?_) | refine Br.ne (fun h2 => ?_) (fun h2 => ?_) | refine Br.not (fun h2 => ?_) (fun h2 => ?_) | refine Br.mk (fun h2 => ?_) (fun h2 => ?_)) <;> (try simp only [Int.toNat_natCast] at h2) <;> (conv => whnf)
        · repeat' ((first | refine Need.auto ?_ | refine Have.mk (fun _h => ?_)); conv => whnf)
          refine Dr.mk hΓ hMix (by kernel_rfl) ?_; conv => whnf
          repeat' ((first | refine Need.auto ?_ | refine Have.mk (fun _h => ?_)); conv => whnf)
          refine Frc.mk (.c (reqC (s.rings.getD q default).items)) rfl ?_
          conv => whnf
          repeat' ((first | refine Need.auto ?_ | refine Have.mk (fun _h => ?_)); conv => whnf)
          refine CallP.auto cloneReq_body (cloneReq_spec (s.rings.getD q default).items (by omega) ) ?_
          conv => whnf
          repeat' ((first | refine Need.auto ?_ | refine Have.mk (fun _h => ?_)); conv => whnf)
          have w0 := wrap_id (↑q + 1) (by have := hs.rings; omega) (by have := hs.rings; omega)
          refine ⟨q + 1, by omega, by omega, ?_⟩
          refine Mv.mkW ?_ ?_ (Nat.le_of_ble_eq_true rfl) <;> (repeat' (first | exact WA.nil | refine WA.cons rfl ?_ ?_ | exact WB.nil | refine WB.cons ?_ ?_ | exact WT.nil | refine WT.cons ?_ ?_ | exact WH.nil | refine WH.cons ?_ ?_ | exact WR.nil | refine WR.cons rfl ?_ ?_ | refine WO.vr ?_ | exact WO.dead | exact WO.mpS | refine WO.mpA ?_ | exact WO.arrPA (fun i j => plainRow _ _ _) | refine WO.arrA ?_ | exact WS.u | refine WS.c ?_ | refine WS.a ?_ | refine WS.t ?_ | exact WL.nil | refine WL.cons ?_ ?_ | exact WTL.nil | refine WTL.consC ?_ ?_ | refine WTL.consL ?_ ?_ | exact WC.nils | exact WC.nil rfl | exact WC.nilp | refine WC.fzA | exact WC.ptr rfl (Nat.le_of_ble_eq_true rfl) | exact WC.mpr rfl (Nat.le_of_ble_eq_true rfl) | refine WC.slA | refine WC.intA | refine WC.int ?_ | refine WC.boolA | refine WC.bool ?_ | refine WC.strA | refine WC.str ?_ | exact WC.imm rfl))
          · exact fun i _ j _ => WC.imm rfl
          · exact fun i _ j hj => WC.eq (ring_rep rfl i j hj) (rngCell_imm _ _)
        · repeat' ((first | refine Need.auto ?_ | refine Have.mk (fun _h => ?_)); conv => whnf)
          refine CallN.autoQ [] cloneWrkO_body (cloneWrkO_spec s.works.length (wrkG s.works) false (by have := hs.works; omega) (fun _ _ _ _ => wrkCell_imm _ _)) ?_; conv => whnf
          repeat' ((first | refine Need.auto ?_ | refine Have.mk (fun _h => ?_)); conv => whnf)
          refine Dr.mk hΓ hMix (by kernel_rfl) ?_; conv => whnf
          repeat' ((first | refine Need.auto ?_ | refine Have.mk (fun _h => ?_)); conv => whnf)
          refine CallP.auto cloneEnt_body (cloneEnt_spec s.sav.ents (by have := hs.ents; omega) ) ?_
          conv => whnf
          repeat' ((first | refine Need.auto ?_ | refine Have.mk (fun _h => ?_)); conv => whnf)
          refine CallP.auto cloneRec_body (cloneRec_spec s.sav.recs (by have := hs.recs; omega) ) ?_
          conv => whnf
          repeat' ((first | refine Need.auto ?_ | refine Have.mk (fun _h => ?_)); conv => whnf)
          refine CallN.autoQ [] cloneEvO_body (cloneEvO_spec s.evs.length (evG s.evs) false (by have := hs.evs; omega) (fun _ _ _ _ => evCell_imm _ _)) ?_; conv => whnf
          repeat' ((first | refine Need.auto ?_ | refine Have.mk (fun _h => ?_)); conv => whnf)
          refine ⟨_, _, ?_, rfl, rfl⟩
          refine RM.fz 2 rfl (Nat.zero_le _) (fun _ _ _ _ => rfl) ?_
          refine RM.renW [3, 4, 5] (by decide) ?_ ?_ <;> (repeat' (first | exact WA.nil | refine WA.cons rfl ?_ ?_ | exact WB.nil | refine WB.cons ?_ ?_ | exact WT.nil | refine WT.cons ?_ ?_ | exact WH.nil | refine WH.cons ?_ ?_ | exact WR.nil | refine WR.cons rfl ?_ ?_ | refine WO.vr ?_ | exact WO.dead | exact WO.mpS | refine WO.mpA ?_ | exact WO.arrPA (fun i j => plainRow _ _ _) | refine WO.arrA ?_ | exact WS.u | refine WS.c ?_ | refine WS.a ?_ | refine WS.t ?_ | exact WL.nil | refine WL.cons ?_ ?_ | exact WTL.nil | refine WTL.consC ?_ ?_ | refine WTL.consL ?_ ?_ | exact WC.nils | exact WC.nil rfl | exact WC.nilp | refine WC.fzA | exact WC.ptr rfl (Nat.le_of_ble_eq_true rfl) | exact WC.mpr rfl (Nat.le_of_ble_eq_true rfl) | refine WC.slA | refine WC.intA | refine WC.int ?_ | refine WC.boolA | refine WC.bool ?_ | refine WC.strA | refine WC.str ?_ | exact WC.imm rfl))
          · exact fun i _ j _ => WC.fzI (rngCell_imm _ _)
          · exact fun i _ j _ => WC.fzReI (wrkCell_imm _ _)
          · exact fun i _ j _ => WC.fzReI (evCell_imm _ _)
theorem state_body : HasBody Tryz.prog 49 := ⟨⟨Tryz.f49, Tryz.func49, rfl, by kernel_rfl⟩⟩
end Go.Proofs
end

section
open Go Go.Am
namespace Go.Proofs
set_option maxRecDepth 20000
theorem prod_range {x y a b : Int} (h1 : -a ≤ x) (h2 : x ≤ a) (h3 : 0 ≤ y) (h4 : y ≤ b) : -(a * b) ≤ x * y ∧ x * y ≤ a * b := by
  have ha : 0 ≤ a := by omega
  have e1 : x * y ≤ a * y := Int.mul_le_mul_of_nonneg_right h2 h3
  have e2 : a * y ≤ a * b := Int.mul_le_mul_of_nonneg_left h4 ha
  have e3 : (-a) * y ≤ x * y := Int.mul_le_mul_of_nonneg_right h1 h3
  have e4 : -(a * b) ≤ -a * y := by rw [Int.neg_mul]; omega
  exact ⟨by omega, by omega⟩
theorem data_range {c : Conf} (h : confR c = true) : -300 ≤ dataN c ∧ dataN c ≤ 32 := by
  have := slot_range h
  rw [confR_iff] at h
  unfold dataN
  omega
theorem cap_range {c : Conf} (h : confR c = true) : -20000 ≤ (dataN c - 3) * (c.size - 1) ∧ (dataN c - 3) * (c.size - 1) ≤ 20000 := by
  have h1 := data_range h
  rw [confR_iff] at h
  have := prod_range (x := dataN c - 3) (y := c.size - 1) (a := 303) (b := 63) (by omega) (by omega) (by omega) (by omega)
  omega
def Lay.cells (c : Conf) : List C := [.int .i64 (slotN c), .int .i64 (2 * slotN c), .int .i64 (dataN c), .int .i64 (capN c)]
theorem slot_wrap {c : Conf} (h : confR c = true) : IntKind.i64.wrap ((IntKind.i64.wrap (IntKind.i64.wrap (IntKind.i64.wrap (c.blocks + 2) + c.size) - 1)).tdiv c.size) = slotN c := by
  have hr := confR_iff.1 h
  have hs := slot_range h
  rw [wrap_id (c.blocks + 2) (by omega) (by omega), wrap_id (c.blocks + 2 + c.size) (by omega) (by omega), wrap_id (c.blocks + 2 + c.size - 1) (by omega) (by omega)]
  exact wrap_id _ (by unfold slotN at hs; omega) (by unfold slotN at hs; omega)
theorem data_wrap {c : Conf} (h : confR c = true) : IntKind.i64.wrap (c.zones - IntKind.i64.wrap (2 * slotN c)) = dataN c := by
  have hr := confR_iff.1 h
  have hs := slot_range h
  rw [wrap_id (2 * slotN c) (by omega) (by omega)]
  exact wrap_id _ (by omega) (by omega)
theorem cap_wrap {c : Conf} (h : confR c = true) : IntKind.i64.wrap (IntKind.i64.wrap (IntKind.i64.wrap (IntKind.i64.wrap (dataN c - 3) * IntKind.i64.wrap (c.size - 1)) - c.queues) - 1) = capN c := by
  have hr := confR_iff.1 h
  have hd := data_range h
  have hc := cap_range h
  rw [wrap_id (dataN c - 3) (by omega) (by omega), wrap_id (c.size - 1) (by omega) (by omega), wrap_id ((dataN c - 3) * (c.size - 1)) (by omega) (by omega), wrap_id ((dataN c - 3) * (c.size - 1) - c.queues) (by omega) (by omega)]
  exact wrap_id ((dataN c - 3) * (c.size - 1) - c.queues - 1) (by omega) (by omega)
theorem shape_spec (c : Conf) (h : confR c = true) : PSpec Tryz.prog 135 [.a c.cells] (.a (Lay.cells c)) := by
  refine PSpec.rm ?_
  have hr := confR_iff.1 h
  have hs := slot_range h
  have hd := data_range h
  have hc := cap_range h
  refine CSpec.of_vc hΓ Tryz.func135 rfl 37 0 [.cell 2 121] Tryz.ntmps135 rfl (by rw [Tryz.results135]) rfl ?_
  conv => whnf
  repeat' ((first | refine Need.auto ?_ | refine Have.mk (fun _h => ?_)); conv => whnf)
  refine RM.immW rfl ?_; (repeat' (first | exact WA.nil | refine WA.cons rfl ?_ ?_ | exact WB.nil | refine WB.cons ?_ ?_ | exact WT.nil | refine WT.cons ?_ ?_ | exact WH.nil | refine WH.cons ?_ ?_ | exact WR.nil | refine WR.cons rfl ?_ ?_ | refine WO.vr ?_ | exact WO.dead | exact WO.mpS | refine WO.mpA ?_ | exact WO.arrPA (fun i j => plainRow _ _ _) | refine WO.arrA ?_ | exact WS.u | refine WS.c ?_ | refine WS.a ?_ | refine WS.t ?_ | exact WL.nil | refine WL.cons ?_ ?_ | exact WTL.nil | refine WTL.consC ?_ ?_ | refine WTL.consL ?_ ?_ | exact WC.nils | exact WC.nil rfl | exact WC.nilp | refine WC.fzA | exact WC.ptr rfl (Nat.le_of_ble_eq_true rfl) | exact WC.mpr rfl (Nat.le_of_ble_eq_true rfl) | refine WC.slA | refine WC.intA | refine WC.int ?_ | refine WC.boolA | refine WC.bool ?_ | refine WC.strA | refine WC.str ?_ | exact WC.imm rfl))
  all_goals rw [slot_wrap h]
  · have hs := slot_range h
    exact wrap_id _ (by omega) (by omega)
  · exact data_wrap h
  · rw [data_wrap h]; exact cap_wrap h
theorem shape_body : HasBody Tryz.prog 135 := ⟨⟨Tryz.f135, Tryz.func135, rfl, by kernel_rfl⟩⟩
theorem checkL_spec (c : Conf) : PSpec Tryz.prog 134 [.a c.cells] (.c (.int .i64 (confE c))) := by
  refine PSpec.rm ?_
  refine CSpec.of_vc hΓ Tryz.func134 rfl 55 0 [.tmp 2] Tryz.ntmps134 rfl (by rw [Tryz.results134]) rfl ?_
  have bad : ¬ confR c = true → confE c = 1 := fun e => by unfold confE; rw [if_neg e]
  conv => whnf
  repeat' ((first | refine Need.auto ?_ | refine Have.mk (fun _h => ?_)); conv => whnf)
  refine Lp.roll hΓ 7 ?_
  conv => whnf
  repeat' ((first | refine Need.auto ?_ | refine Have.mk (fun _h => ?_)); conv => whnf)
  refine Br.yes rfl ?_; conv => whnf
  repeat' ((first | refine Need.auto ?_ | refine Have.mk (fun _h => ?_)); conv => whnf)
  (first | refine Br.lt (fun h0 => ?_) (fun h0 => ?_) | refine Br.le (fun h0 => ?_) (fun h0 => ?_) | refine Br.gt (fun h0 => ?_) (fun h0 => ?_) | refine Br.ge (fun h0 => ?_) (fun h0 => ?_) | refine Br.eq (fun h0 => ?_) (fun h0 => ?_) | refine Br.ne (fun h0 => ?_) (fun h0 => ?_) | refine Br.not (fun h0 => ?_) (fun h0 => ?_) | (refine Br.mk (fun h0 => ?_) (fun h0 => ?_) <;> simp [-List.length_eq_zero_iff, -List.getD_eq_getElem?_getD] at h0)) <;> (try simp only [Int.toNat_natCast] at h0) <;> (conv => whnf)
  · repeat' ((first | refine Need.auto ?_ | refine Have.mk (fun _h => ?_)); conv => whnf)
    rw [bad (fun e => by have := confR_iff.1 e; omega)]
    refine RM.immW rfl ?_; (repeat' (first | exact WA.nil | refine WA.cons rfl ?_ ?_ | exact WB.nil | refine WB.cons ?_ ?_ | exact WT.nil | refine WT.cons ?_ ?_ | exact WH.nil | refine WH.cons ?_ ?_ | exact WR.nil | refine WR.cons rfl ?_ ?_ | refine WO.vr ?_ | exact WO.dead | exact WO.mpS | refine WO.mpA ?_ | exact WO.arrPA (fun i j => plainRow _ _ _) | refine WO.arrA ?_ | exact WS.u | refine WS.c ?_ | refine WS.a ?_ | refine WS.t ?_ | exact WL.nil | refine WL.cons ?_ ?_ | exact WTL.nil | refine WTL.consC ?_ ?_ | refine WTL.consL ?_ ?_ | exact WC.nils | exact WC.nil rfl | exact WC.nilp | refine WC.fzA | exact WC.ptr rfl (Nat.le_of_ble_eq_true rfl) | exact WC.mpr rfl (Nat.le_of_ble_eq_true rfl) | refine WC.slA | refine WC.intA | refine WC.int ?_ | refine WC.boolA | refine WC.bool ?_ | refine WC.strA | refine WC.str ?_ | exact WC.imm rfl))
  · repeat' ((first | refine Need.auto ?_ | refine Have.mk (fun _h => ?_)); conv => whnf)
    refine Br.yes rfl ?_; conv => whnf
    repeat' ((first | refine Need.auto ?_ | refine Have.mk (fun _h => ?_)); conv => whnf)
    (first | refine Br.lt (fun h1 => ?_) (fun h1 => ?_) | refine Br.le (fun h1 => ?_) (fun h1 => ?_) | refine Br.gt (fun h1 => ?_) (fun h1 => ?_) | refine Br.ge (fun h1 => ?_) (fun h1 => ?_) | refine Br.eq (fun h1 => ?_) (fun h1 => ?_) | refine Br.ne (fun h1 => ?_) (fun h1 => ?_) | refine Br.not (fun h1 => ?_) (fun h1 => ?_) | (refine Br.mk (fun h1 => ?_) (fun h1 => ?_) <;> simp [-List.length_eq_zero_iff, -List.getD_eq_getElem?_getD] at h1)) <;> (try simp only [Int.toNat_natCast] at h1) <;> (conv => whnf)
    · repeat' ((first | refine Need.auto ?_ | refine Have.mk (fun _h => ?_)); conv => whnf)
      rw [bad (fun e => by have := confR_iff.1 e; omega)]
      refine RM.immW rfl ?_; (repeat' (first | exact WA.nil | refine WA.cons rfl ?_ ?_ | exact WB.nil | refine WB.cons ?_ ?_ | exact WT.nil | refine WT.cons ?_ ?_ | exact WH.nil | refine WH.cons ?_ ?_ | exact WR.nil | refine WR.cons rfl ?_ ?_ | refine WO.vr ?_ | exact WO.dead | exact WO.mpS | refine WO.mpA ?_ | exact WO.arrPA (fun i j => plainRow _ _ _) | refine WO.arrA ?_ | exact WS.u | refine WS.c ?_ | refine WS.a ?_ | refine WS.t ?_ | exact WL.nil | refine WL.cons ?_ ?_ | exact WTL.nil | refine WTL.consC ?_ ?_ | refine WTL.consL ?_ ?_ | exact WC.nils | exact WC.nil rfl | exact WC.nilp | refine WC.fzA | exact WC.ptr rfl (Nat.le_of_ble_eq_true rfl) | exact WC.mpr rfl (Nat.le_of_ble_eq_true rfl) | refine WC.slA | refine WC.intA | refine WC.int ?_ | refine WC.boolA | refine WC.bool ?_ | refine WC.strA | refine WC.str ?_ | exact WC.imm rfl))
    · repeat' ((first | refine Need.auto ?_ | refine Have.mk (fun _h => ?_)); conv => whnf)
      refine Br.yes rfl ?_; conv => whnf
      repeat' ((first | refine Need.auto ?_ | refine Have.mk (fun _h => ?_)); conv => whnf)
      (first | refine Br.lt (fun h2 => ?_) (fun h2 => ?_) | refine Br.le (fun h2 => ?_) (fun h2 => ?_) | refine Br.gt (fun h2 => ?_) (fun h2 => ?_) | refine Br.ge (fun h2 => ?_) (fun h2 => ?_) | refine Br.eq (fun h2 => ?_) (fun h2 => ?_) | refine Br.ne (fun h2 => ?_) (fun h2 => ?_) | refine Br.not (fun h2 => ?_) (fun h2 => ?_) | (refine Br.mk (fun h2 => ?_) (fun h2 => ?_) <;> simp [-List.length_eq_zero_iff, -List.getD_eq_getElem?_getD] at h2)) <;> (try simp only [Int.toNat_natCast] at h2) <;> (conv => whnf)
      · repeat' ((first | refine Need.auto ?_ | refine Have.mk (fun _h => ?_)); conv => whnf)
        rw [bad (fun e => by have := confR_iff.1 e; omega)]
        refine RM.immW rfl ?_; (repeat' (first | exact WA.nil | refine WA.cons rfl ?_ ?_ | exact WB.nil | refine WB.cons ?_ ?_ | exact WT.nil | refine WT.cons ?_ ?_ | exact WH.nil | refine WH.cons ?_ ?_ | exact WR.nil | refine WR.cons rfl ?_ ?_ | refine WO.vr ?_ | exact WO.dead | exact WO.mpS | refine WO.mpA ?_ | exact WO.arrPA (fun i j => plainRow _ _ _) | refine WO.arrA ?_ | exact WS.u | refine WS.c ?_ | refine WS.a ?_ | refine WS.t ?_ | exact WL.nil | refine WL.cons ?_ ?_ | exact WTL.nil | refine WTL.consC ?_ ?_ | refine WTL.consL ?_ ?_ | exact WC.nils | exact WC.nil rfl | exact WC.nilp | refine WC.fzA | exact WC.ptr rfl (Nat.le_of_ble_eq_true rfl) | exact WC.mpr rfl (Nat.le_of_ble_eq_true rfl) | refine WC.slA | refine WC.intA | refine WC.int ?_ | refine WC.boolA | refine WC.bool ?_ | refine WC.strA | refine WC.str ?_ | exact WC.imm rfl))
      · repeat' ((first | refine Need.auto ?_ | refine Have.mk (fun _h => ?_)); conv => whnf)
        refine Br.yes rfl ?_; conv => whnf
        repeat' ((first | refine Need.auto ?_ | refine Have.mk (fun _h => ?_)); conv => whnf)
        (first | refine Br.lt (fun h3 => ?_) (fun h3 => ?_) | refine Br.le (fun h3 => ?_) (fun h3 => ?_) | refine Br.gt (fun h3 => ?_) (fun h3 => ?_) | refine Br.ge (fun h3 => ?_) (fun h3 => ?_) | refine Br.eq (fun h3 => ?_) (fun h3 => ?_) | refine Br.ne (fun h3 => ?_) (fun h3 => ?_) | refine Br.not (fun h3 => ?_) (fun h3 => ?_) | (refine Br.mk (fun h3 => ?_) (fun h3 => ?_) <;> simp [-List.length_eq_zero_iff, -List.getD_eq_getElem?_getD] at h3)) <;> (try simp only [Int.toNat_natCast] at h3) <;> (conv => whnf)
        · repeat' ((first | refine Need.auto ?_ | refine Have.mk (fun _h => ?_)); conv => whnf)
          rw [bad (fun e => by have := confR_iff.1 e; omega)]
          refine RM.immW rfl ?_; (repeat' (first | exact WA.nil | refine WA.cons rfl ?_ ?_ | exact WB.nil | refine WB.cons ?_ ?_ | exact WT.nil | refine WT.cons ?_ ?_ | exact WH.nil | refine WH.cons ?_ ?_ | exact WR.nil | refine WR.cons rfl ?_ ?_ | refine WO.vr ?_ | exact WO.dead | exact WO.mpS | refine WO.mpA ?_ | exact WO.arrPA (fun i j => plainRow _ _ _) | refine WO.arrA ?_ | exact WS.u | refine WS.c ?_ | refine WS.a ?_ | refine WS.t ?_ | exact WL.nil | refine WL.cons ?_ ?_ | exact WTL.nil | refine WTL.consC ?_ ?_ | refine WTL.consL ?_ ?_ | exact WC.nils | exact WC.nil rfl | exact WC.nilp | refine WC.fzA | exact WC.ptr rfl (Nat.le_of_ble_eq_true rfl) | exact WC.mpr rfl (Nat.le_of_ble_eq_true rfl) | refine WC.slA | refine WC.intA | refine WC.int ?_ | refine WC.boolA | refine WC.bool ?_ | refine WC.strA | refine WC.str ?_ | exact WC.imm rfl))
        · repeat' ((first | refine Need.auto ?_ | refine Have.mk (fun _h => ?_)); conv => whnf)
          refine Br.yes rfl ?_; conv => whnf
          repeat' ((first | refine Need.auto ?_ | refine Have.mk (fun _h => ?_)); conv => whnf)
          (first | refine Br.lt (fun h4 => ?_) (fun h4 => ?_) | refine Br.le (fun h4 => ?_) (fun h4 => ?_) | refine Br.gt (fun h4 => ?_) (fun h4 => ?_) | refine Br.ge (fun h4 => ?_) (fun h4 => ?_) | refine Br.eq (fun h4 => ?_) (fun h4 => ?_) | refine Br.ne (fun h4 => ?_) (fun h4 => ?_) | refine Br.not (fun h4 => ?_) (fun h4 => ?_) | (refine Br.mk (fun h4 => ?_) (fun h4 => ?_) <;> simp [-List.length_eq_zero_iff, -List.getD_eq_getElem?_getD] at h4)) <;> (try simp only [Int.toNat_natCast] at h4) <;> (conv => whnf)
          · repeat' ((first | refine Need.auto ?_ | refine Have.mk (fun _h => ?_)); conv => whnf)
            rw [bad (fun e => by have := confR_iff.1 e; omega)]
            refine RM.immW rfl ?_; (repeat' (first | exact WA.nil | refine WA.cons rfl ?_ ?_ | exact WB.nil | refine WB.cons ?_ ?_ | exact WT.nil | refine WT.cons ?_ ?_ | exact WH.nil | refine WH.cons ?_ ?_ | exact WR.nil | refine WR.cons rfl ?_ ?_ | refine WO.vr ?_ | exact WO.dead | exact WO.mpS | refine WO.mpA ?_ | exact WO.arrPA (fun i j => plainRow _ _ _) | refine WO.arrA ?_ | exact WS.u | refine WS.c ?_ | refine WS.a ?_ | refine WS.t ?_ | exact WL.nil | refine WL.cons ?_ ?_ | exact WTL.nil | refine WTL.consC ?_ ?_ | refine WTL.consL ?_ ?_ | exact WC.nils | exact WC.nil rfl | exact WC.nilp | refine WC.fzA | exact WC.ptr rfl (Nat.le_of_ble_eq_true rfl) | exact WC.mpr rfl (Nat.le_of_ble_eq_true rfl) | refine WC.slA | refine WC.intA | refine WC.int ?_ | refine WC.boolA | refine WC.bool ?_ | refine WC.strA | refine WC.str ?_ | exact WC.imm rfl))
          · repeat' ((first | refine Need.auto ?_ | refine Have.mk (fun _h => ?_)); conv => whnf)
            refine Br.yes rfl ?_; conv => whnf
            repeat' ((first | refine Need.auto ?_ | refine Have.mk (fun _h => ?_)); conv => whnf)
            (first | refine Br.lt (fun h5 => ?_) (fun h5 => ?_) | refine Br.le (fun h5 => ?_) (fun h5 => ?_) | refine Br.gt (fun h5 => ?_) (fun h5 => ?_) | refine Br.ge (fun h5 => ?_) (fun h5 => ?_) | refine Br.eq (fun h5 => ?_) (fun h5 => ?_) | refine Br.ne (fun h5 => ?_) (fun h5 => ?_) | refine Br.not (fun h5 => ?_) (fun h5 => ?_) | (refine Br.mk (fun h5 => ?_) (fun h5 => ?_) <;> simp [-List.length_eq_zero_iff, -List.getD_eq_getElem?_getD] at h5)) <;> (try simp only [Int.toNat_natCast] at h5) <;> (conv => whnf)
            · repeat' ((first | refine Need.auto ?_ | refine Have.mk (fun _h => ?_)); conv => whnf)
              rw [bad (fun e => by have := confR_iff.1 e; omega)]
              refine RM.immW rfl ?_; (repeat' (first | exact WA.nil | refine WA.cons rfl ?_ ?_ | exact WB.nil | refine WB.cons ?_ ?_ | exact WT.nil | refine WT.cons ?_ ?_ | exact WH.nil | refine WH.cons ?_ ?_ | exact WR.nil | refine WR.cons rfl ?_ ?_ | refine WO.vr ?_ | exact WO.dead | exact WO.mpS | refine WO.mpA ?_ | exact WO.arrPA (fun i j => plainRow _ _ _) | refine WO.arrA ?_ | exact WS.u | refine WS.c ?_ | refine WS.a ?_ | refine WS.t ?_ | exact WL.nil | refine WL.cons ?_ ?_ | exact WTL.nil | refine WTL.consC ?_ ?_ | refine WTL.consL ?_ ?_ | exact WC.nils | exact WC.nil rfl | exact WC.nilp | refine WC.fzA | exact WC.ptr rfl (Nat.le_of_ble_eq_true rfl) | exact WC.mpr rfl (Nat.le_of_ble_eq_true rfl) | refine WC.slA | refine WC.intA | refine WC.int ?_ | refine WC.boolA | refine WC.bool ?_ | refine WC.strA | refine WC.str ?_ | exact WC.imm rfl))
            · repeat' ((first | refine Need.auto ?_ | refine Have.mk (fun _h => ?_)); conv => whnf)
              refine Br.no rfl ?_; conv => whnf
              repeat' ((first | refine Need.auto ?_ | refine Have.mk (fun _h => ?_)); conv => whnf)
              have hr : confR c = true := confR_iff.2 (by omega)
              refine CallN.pureA shape_body (shape_spec c hr ) ?_
              conv => whnf
              repeat' ((first | refine Need.auto ?_ | refine Have.mk (fun _h => ?_)); conv => whnf)
              (first | refine Br.lt (fun h9 => ?_) (fun h9 => ?_) | refine Br.le (fun h9 => ?_) (fun h9 => ?_) | refine Br.gt (fun h9 => ?_) (fun h9 => ?_) | refine Br.ge (fun h9 => ?_) (fun h9 => ?_) | refine Br.eq (fun h9 => ?_) (fun h9 => ?_) | refine Br.ne (fun h9 => ?_) (fun h9 => ?_) | refine Br.not (fun h9 => ?_) (fun h9 => ?_) | (refine Br.mk (fun h9 => ?_) (fun h9 => ?_) <;> simp [-List.length_eq_zero_iff, -List.getD_eq_getElem?_getD] at h9)) <;> (try simp only [Int.toNat_natCast] at h9) <;> (conv => whnf)
              · repeat' ((first | refine Need.auto ?_ | refine Have.mk (fun _h => ?_)); conv => whnf)
                rw [show confE c = 11 by unfold confE; rw [if_pos hr, if_pos h9]]
                refine RM.immW rfl ?_; (repeat' (first | exact WA.nil | refine WA.cons rfl ?_ ?_ | exact WB.nil | refine WB.cons ?_ ?_ | exact WT.nil | refine WT.cons ?_ ?_ | exact WH.nil | refine WH.cons ?_ ?_ | exact WR.nil | refine WR.cons rfl ?_ ?_ | refine WO.vr ?_ | exact WO.dead | exact WO.mpS | refine WO.mpA ?_ | exact WO.arrPA (fun i j => plainRow _ _ _) | refine WO.arrA ?_ | exact WS.u | refine WS.c ?_ | refine WS.a ?_ | refine WS.t ?_ | exact WL.nil | refine WL.cons ?_ ?_ | exact WTL.nil | refine WTL.consC ?_ ?_ | refine WTL.consL ?_ ?_ | exact WC.nils | exact WC.nil rfl | exact WC.nilp | refine WC.fzA | exact WC.ptr rfl (Nat.le_of_ble_eq_true rfl) | exact WC.mpr rfl (Nat.le_of_ble_eq_true rfl) | refine WC.slA | refine WC.intA | refine WC.int ?_ | refine WC.boolA | refine WC.bool ?_ | refine WC.strA | refine WC.str ?_ | exact WC.imm rfl))
              · repeat' ((first | refine Need.auto ?_ | refine Have.mk (fun _h => ?_)); conv => whnf)
                rw [show confE c = 0 by unfold confE; rw [if_pos hr, if_neg (by omega)]]
                refine RM.immW rfl ?_; (repeat' (first | exact WA.nil | refine WA.cons rfl ?_ ?_ | exact WB.nil | refine WB.cons ?_ ?_ | exact WT.nil | refine WT.cons ?_ ?_ | exact WH.nil | refine WH.cons ?_ ?_ | exact WR.nil | refine WR.cons rfl ?_ ?_ | refine WO.vr ?_ | exact WO.dead | exact WO.mpS | refine WO.mpA ?_ | exact WO.arrPA (fun i j => plainRow _ _ _) | refine WO.arrA ?_ | exact WS.u | refine WS.c ?_ | refine WS.a ?_ | refine WS.t ?_ | exact WL.nil | refine WL.cons ?_ ?_ | exact WTL.nil | refine WTL.consC ?_ ?_ | refine WTL.consL ?_ ?_ | exact WC.nils | exact WC.nil rfl | exact WC.nilp | refine WC.fzA | exact WC.ptr rfl (Nat.le_of_ble_eq_true rfl) | exact WC.mpr rfl (Nat.le_of_ble_eq_true rfl) | refine WC.slA | refine WC.intA | refine WC.int ?_ | refine WC.boolA | refine WC.bool ?_ | refine WC.strA | refine WC.str ?_ | exact WC.imm rfl))
theorem checkL_body : HasBody Tryz.prog 134 := ⟨⟨Tryz.f134, Tryz.func134, rfl, by kernel_rfl⟩⟩
def layM (c : Conf) : List C := if confE c = 0 then Lay.cells c else [.int .i64 0, .int .i64 0, .int .i64 0, .int .i64 0]
theorem lay_ok {c : Conf} (h : confE c = 0) : layM c = Lay.cells c := if_pos h
theorem lay_no {c : Conf} (h : confE c ≠ 0) : layM c = [.int .i64 0, .int .i64 0, .int .i64 0, .int .i64 0] := if_neg h
theorem ofL_spec (c : Conf) : PSpec Tryz.prog 52 [.a c.cells] (.t [.inr (layM c), .inl (.int .i64 (confE c))]) := by
  refine PSpec.rm ?_
  refine CSpec.of_vc hΓ Tryz.func52 rfl 13 0 [.cell 2 121, .tmp 3] Tryz.ntmps52 rfl (by rw [Tryz.results52]) rfl ?_
  conv => whnf
  repeat' ((first | refine Need.auto ?_ | refine Have.mk (fun _h => ?_)); conv => whnf)
  refine CallN.pureA checkL_body (checkL_spec c ) ?_
  conv => whnf
  repeat' ((first | refine Need.auto ?_ | refine Have.mk (fun _h => ?_)); conv => whnf)
  (first | refine Br.lt (fun h => ?_) (fun h => ?_) | refine Br.le (fun h => ?_) (fun h => ?_) | refine Br.gt (fun h => ?_) (fun h => ?_) | refine Br.ge (fun h => ?_) (fun h => ?_) | refine Br.eq (fun h => ?_) (fun h => ?_) | refine Br.ne (fun h => ?_) (fun h => ?_) | refine Br.not (fun h => ?_) (fun h => ?_) | refine Br.mk (fun h => ?_) (fun h => ?_)) <;> (try simp only [Int.toNat_natCast] at h) <;> (conv => whnf)
  · repeat' ((first | refine Need.auto ?_ | refine Have.mk (fun _h => ?_)); conv => whnf)
    rw [lay_no h]
    refine RM.immW rfl ?_; (repeat' (first | exact WA.nil | refine WA.cons rfl ?_ ?_ | exact WB.nil | refine WB.cons ?_ ?_ | exact WT.nil | refine WT.cons ?_ ?_ | exact WH.nil | refine WH.cons ?_ ?_ | exact WR.nil | refine WR.cons rfl ?_ ?_ | refine WO.vr ?_ | exact WO.dead | exact WO.mpS | refine WO.mpA ?_ | exact WO.arrPA (fun i j => plainRow _ _ _) | refine WO.arrA ?_ | exact WS.u | refine WS.c ?_ | refine WS.a ?_ | refine WS.t ?_ | exact WL.nil | refine WL.cons ?_ ?_ | exact WTL.nil | refine WTL.consC ?_ ?_ | refine WTL.consL ?_ ?_ | exact WC.nils | exact WC.nil rfl | exact WC.nilp | refine WC.fzA | exact WC.ptr rfl (Nat.le_of_ble_eq_true rfl) | exact WC.mpr rfl (Nat.le_of_ble_eq_true rfl) | refine WC.slA | refine WC.intA | refine WC.int ?_ | refine WC.boolA | refine WC.bool ?_ | refine WC.strA | refine WC.str ?_ | exact WC.imm rfl))
  · repeat' ((first | refine Need.auto ?_ | refine Have.mk (fun _h => ?_)); conv => whnf)
    have h0 : confE c = 0 := by omega
    refine CallN.pureA shape_body (shape_spec c (confE_r h0).1 ) ?_
    conv => whnf
    repeat' ((first | refine Need.auto ?_ | refine Have.mk (fun _h => ?_)); conv => whnf)
    rw [lay_ok h0, h0]
    refine RM.immW rfl ?_; (repeat' (first | exact WA.nil | refine WA.cons rfl ?_ ?_ | exact WB.nil | refine WB.cons ?_ ?_ | exact WT.nil | refine WT.cons ?_ ?_ | exact WH.nil | refine WH.cons ?_ ?_ | exact WR.nil | refine WR.cons rfl ?_ ?_ | refine WO.vr ?_ | exact WO.dead | exact WO.mpS | refine WO.mpA ?_ | exact WO.arrPA (fun i j => plainRow _ _ _) | refine WO.arrA ?_ | exact WS.u | refine WS.c ?_ | refine WS.a ?_ | refine WS.t ?_ | exact WL.nil | refine WL.cons ?_ ?_ | exact WTL.nil | refine WTL.consC ?_ ?_ | refine WTL.consL ?_ ?_ | exact WC.nils | exact WC.nil rfl | exact WC.nilp | refine WC.fzA | exact WC.ptr rfl (Nat.le_of_ble_eq_true rfl) | exact WC.mpr rfl (Nat.le_of_ble_eq_true rfl) | refine WC.slA | refine WC.intA | refine WC.int ?_ | refine WC.boolA | refine WC.bool ?_ | refine WC.strA | refine WC.str ?_ | exact WC.imm rfl))
theorem ofLok_spec (c : Conf) (h : confE c = 0) : PSpec Tryz.prog 52 [.a c.cells] (.t [.inr (Lay.cells c), .inl (.int .i64 0)]) := by
  have := ofL_spec c
  rwa [lay_ok h, h] at this
theorem ofLok_body : HasBody Tryz.prog 52 := ⟨⟨Tryz.f52, Tryz.func52, rfl, by kernel_rfl⟩⟩
theorem ofLno_spec (c : Conf) (h : confE c ≠ 0) : PSpec Tryz.prog 52 [.a c.cells] (.t [.inr [.int .i64 0, .int .i64 0, .int .i64 0, .int .i64 0], .inl (.int .i64 (confE c))]) := by
  have := ofL_spec c
  rwa [lay_no h] at this
theorem ofLno_body : HasBody Tryz.prog 52 := ⟨⟨Tryz.f52, Tryz.func52, rfl, by kernel_rfl⟩⟩
theorem isDataL_spec (c : Conf) (z : Int) : PSpec Tryz.prog 225 [.a c.cells, .c (.int .i64 z)] (.c (.bool (isDataM c z))) := by
  refine PSpec.rm ?_
  refine CSpec.of_vc hΓ Tryz.func225 rfl 26 0 [.tmp 4] Tryz.ntmps225 rfl (by rw [Tryz.results225]) rfl ?_
  conv => whnf
  repeat' ((first | refine Need.auto ?_ | refine Have.mk (fun _h => ?_)); conv => whnf)
  by_cases h : confE c = 0
  · refine CallN.pureA ofLok_body (ofLok_spec c h ) ?_
    conv => whnf
    repeat' ((first | refine Need.auto ?_ | refine Have.mk (fun _h => ?_)); conv => whnf)
    refine RM.immW rfl ?_; (repeat' (first | exact WA.nil | refine WA.cons rfl ?_ ?_ | exact WB.nil | refine WB.cons ?_ ?_ | exact WT.nil | refine WT.cons ?_ ?_ | exact WH.nil | refine WH.cons ?_ ?_ | exact WR.nil | refine WR.cons rfl ?_ ?_ | refine WO.vr ?_ | exact WO.dead | exact WO.mpS | refine WO.mpA ?_ | exact WO.arrPA (fun i j => plainRow _ _ _) | refine WO.arrA ?_ | exact WS.u | refine WS.c ?_ | refine WS.a ?_ | refine WS.t ?_ | exact WL.nil | refine WL.cons ?_ ?_ | exact WTL.nil | refine WTL.consC ?_ ?_ | refine WTL.consL ?_ ?_ | exact WC.nils | exact WC.nil rfl | exact WC.nilp | refine WC.fzA | exact WC.ptr rfl (Nat.le_of_ble_eq_true rfl) | exact WC.mpr rfl (Nat.le_of_ble_eq_true rfl) | refine WC.slA | refine WC.intA | refine WC.int ?_ | refine WC.boolA | refine WC.bool ?_ | refine WC.strA | refine WC.str ?_ | exact WC.imm rfl))
    unfold isDataM
    by_cases h1 : 2 * slotN c ≤ z <;> simp [h, h1]
  · refine CallN.pureA ofLno_body (ofLno_spec c h ) ?_
    conv => whnf
    repeat' ((first | refine Need.auto ?_ | refine Have.mk (fun _h => ?_)); conv => whnf)
    refine RM.immW rfl ?_; (repeat' (first | exact WA.nil | refine WA.cons rfl ?_ ?_ | exact WB.nil | refine WB.cons ?_ ?_ | exact WT.nil | refine WT.cons ?_ ?_ | exact WH.nil | refine WH.cons ?_ ?_ | exact WR.nil | refine WR.cons rfl ?_ ?_ | refine WO.vr ?_ | exact WO.dead | exact WO.mpS | refine WO.mpA ?_ | exact WO.arrPA (fun i j => plainRow _ _ _) | refine WO.arrA ?_ | exact WS.u | refine WS.c ?_ | refine WS.a ?_ | refine WS.t ?_ | exact WL.nil | refine WL.cons ?_ ?_ | exact WTL.nil | refine WTL.consC ?_ ?_ | refine WTL.consL ?_ ?_ | exact WC.nils | exact WC.nil rfl | exact WC.nilp | refine WC.fzA | exact WC.ptr rfl (Nat.le_of_ble_eq_true rfl) | exact WC.mpr rfl (Nat.le_of_ble_eq_true rfl) | refine WC.slA | refine WC.intA | refine WC.int ?_ | refine WC.boolA | refine WC.bool ?_ | refine WC.strA | refine WC.str ?_ | exact WC.imm rfl))
    unfold isDataM
    simp [h]
theorem isDataL_body : HasBody Tryz.prog 225 := ⟨⟨Tryz.f225, Tryz.func225, rfl, by kernel_rfl⟩⟩
end Go.Proofs
end
