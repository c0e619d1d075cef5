/- Part of the proofs of laws of this seat: contracts and plain lemmas; no condition is added to a statement. -/
import Derived.Test.YtmpoogflpmaijaaGreatEnv
import Derived.Test.YtmpoogflpmaijaaGreatMods
set_option linter.unusedSimpArgs false
set_option linter.unusedVariables false
open Go Go.Am
namespace Go.Proofs
theorem light_spec (l : List Int) : PSpec Tryz.prog 7 [.c (intsC l)] (.c (.bool (decide (l.length ≤ 300)))) := by
  refine PSpec.rm ?_
  refine ov hΓ Tryz.func7 6 0 [.tmp 2] Tryz.ntmps7 Tryz.results7 ?_
  ((conv=>whnf);(repeat' ((first|refine Nd ?_|refine Hv fun _h=>?_);conv=>whnf)))
  refine RM.i1 ?_
  exact decide_eq_decide.2 (by omega)
theorem light_body : HasBody Tryz.prog 7 := hB Tryz.func7

theorem mod_spec (x n : Int) : PSpec Tryz.prog 13 [.c (.int .i64 x), .c (.int .i64 n)] (.c (.int .i64 (modI x n))) := by
  refine PSpec.rm ?_
  refine ov hΓ Tryz.func13 14 0 [.tmp 4] Tryz.ntmps13 Tryz.results13 ?_
  ((conv=>whnf);(repeat' ((first|refine Nd ?_|refine Hv fun _h=>?_);conv=>whnf)))
  refine Br.of (fun h=>?_) (fun h=>?_)<;>(try simp only [Int.toNat_natCast] at h)<;>(conv=>whnf)
  · ((conv=>whnf);(repeat' ((first|refine Nd ?_|refine Hv fun _h=>?_);conv=>whnf)))
    rw [modI_zero (by omega)]
    exact RM.i0
  · ((conv=>whnf);(repeat' ((first|refine Nd ?_|refine Hv fun _h=>?_);conv=>whnf)))
    rw [show modI x n = (IntKind.i64.wrap (x.tmod n + n)).tmod n from if_neg (by omega)]
    exact RM.i0
theorem mod_body : HasBody Tryz.prog 13 := hB Tryz.func13

theorem roll_spec (l : List Int) (hl : l.length ≤ 10000000) : CSpec Tryz.prog 25 [.c (intsC l)] [] fun s H => s = .c (.ptr 0 0) ∧ H = [.vr (DiceM.cells ⟨l, 0⟩)] := by
  refine CSpec.rm ?_
  refine ov hΓ Tryz.func25 8 0 [.tmp 2] Tryz.ntmps25 Tryz.results25 ?_
  ((conv=>whnf);(repeat' ((first|refine Nd ?_|refine Hv fun _h=>?_);conv=>whnf)))
  refine ⟨_, _, ?_, rfl, rfl⟩
  refine RM.rg 0 (g' := intsG .i64 l) rfl (fun i _ j _ => rowG_app0 j) rfl ?_
  refine RM.fz 0 rfl (Nat.zero_le _) (fun i _ j _ => rfl) ?_
  exact RM.renW [1] (by decide) wb0 wb0
theorem roll_body : HasBody Tryz.prog 25 := hB Tryz.func25

theorem rest_spec (d : DiceM) (hd : d.ok) : CSpec Tryz.prog 26 [.c (.ptr 0 0)] [.vr d.cells] fun s H => s = .c (.int .i64 d.rest) ∧ H = [.vr d.cells] := by
  refine CSpec.rm ?_
  refine ov hΓ Tryz.func26 14 1 [.tmp 2] Tryz.ntmps26 Tryz.results26 ?_
  ((conv=>whnf);(repeat' ((first|refine Nd ?_|refine Hv fun _h=>?_);conv=>whnf)))
  refine Dr.mk hΓ hMix (by kernel_rfl) ?_; conv=>whnf
  ((conv=>whnf);(repeat' ((first|refine Nd ?_|refine Hv fun _h=>?_);conv=>whnf)))
  refine ⟨_, _, ?_, rfl, rfl⟩
  refine RM.w1 ?_
  have := hd.le
  have := hd.len
  rw [wrap_id _ (by omega) (by omega), DiceM.rest]
  omega
theorem rest_body : HasBody Tryz.prog 26 := hB Tryz.func26

theorem next_spec (d : DiceM) (hd : d.ok) (n : Int) : CSpec Tryz.prog 27 [.c (.ptr 0 0), .c (.int .i64 n)] [.vr d.cells] fun s H => s = .c (.int .i64 (d.next n)) ∧ H = [.vr d.step.cells] := by
  refine CSpec.rm ?_
  refine ov hΓ Tryz.func27 35 1 [.tmp 4] Tryz.ntmps27 Tryz.results27 ?_
  have h1 := hd.le
  have h2 := hd.len
  ((conv=>whnf);(repeat' ((first|refine Nd ?_|refine Hv fun _h=>?_);conv=>whnf)))
  refine Dr.mk hΓ hMix (by kernel_rfl) ?_; conv=>whnf
  ((conv=>whnf);(repeat' ((first|refine Nd ?_|refine Hv fun _h=>?_);conv=>whnf)))
  refine Br.of (fun h=>?_) (fun h=>?_)<;>(try simp only [Int.toNat_natCast] at h)<;>(conv=>whnf)
  · ((conv=>whnf);(repeat' ((first|refine Nd ?_|refine Hv fun _h=>?_);conv=>whnf)))
    have h' : d.l.length ≤ d.at_ := by omega
    refine ⟨_, _, ?_, rfl, rfl⟩
    rw [show d.step = d from if_pos h', show d.next n = 0 from if_pos h']
    exact RM.w0
  · ((conv=>whnf);(repeat' ((first|refine Nd ?_|refine Hv fun _h=>?_);conv=>whnf)))
    have h' : ¬ d.l.length ≤ d.at_ := by omega
    have w0 := wrap_id (↑d.at_ + 1) (by omega) (by omega)
    have w1 := wrap_id (↑d.at_ + 1 - 1) (by omega) (by omega)
    refine Dr.mk hΓ hMix (by kernel_rfl) ?_; conv=>whnf
    ((conv=>whnf);(repeat' ((first|refine Nd ?_|refine Hv fun _h=>?_);conv=>whnf)))
    have e0 : (IntKind.i64.wrap (IntKind.i64.wrap (↑d.at_ + 1) - 1)).toNat = d.at_ := by rw [w0, w1]; omega
    rw [e0]
    refine CallP.auto mod_body (mod_spec (d.l.getD d.at_ 0) n ) ?_
    ((conv=>whnf);(repeat' ((first|refine Nd ?_|refine Hv fun _h=>?_);conv=>whnf)))
    refine ⟨_, _, ?_, rfl, rfl⟩
    rw [show d.step = ⟨d.l, d.at_ + 1⟩ from if_neg h', show d.next n = modI (d.l.getD d.at_ 0) n from if_neg h']
    exact RM.w0
theorem next_body : HasBody Tryz.prog 27 := hB Tryz.func27
theorem value_spec (n : Int) : PSpec Tryz.prog 23 [.c (.int .i64 n)] (.c (.str (valueS n))) := by
  refine PSpec.rm ?_
  refine ov hΓ Tryz.func23 30 0 [.tmp 2] Tryz.ntmps23 Tryz.results23 ?_
  ((conv=>whnf);(repeat' ((first|refine Nd ?_|refine Hv fun _h=>?_);conv=>whnf)))
  refine Lp.mkK hΓ (ι := Nat) [0] (fun k => [(4, .c (.int .i64 k)), (3, .c (.sl 0 1 16 16 true))]) (fun k => [.arr 5 1 16 (genG (fun i => if i < k then valueW n i else 0))]) (fun k => k ≤ 16) (fun k => 16 - k) 0 (Nat.zero_le _) ?_ ?_
  · refine Mv.k1 ?_
    intro i hi j hj
    have hj' : j < 1 := hj
    have : j = 0 := by omega
    subst this
    exact WC.eq (by simp [zeroG, zeroL, lget, getL, genG, Z.toC]) rfl
  · intro k hk
    ((conv=>whnf);(repeat' ((first|refine Nd ?_|refine Hv fun _h=>?_);conv=>whnf)))
    refine Br.of (fun h1=>?_) (fun h1=>?_)<;>(try simp only [Int.toNat_natCast] at h1)<;>(conv=>whnf)
    · ((conv=>whnf);(repeat' ((first|refine Nd ?_|refine Hv fun _h=>?_);conv=>whnf)))
      refine CallN.pureA mod_body (mod_spec _ _ ) ?_
      ((conv=>whnf);(repeat' ((first|refine Nd ?_|refine Hv fun _h=>?_);conv=>whnf)))
      refine ⟨k + 1, by omega, by omega, ?_⟩
      refine Mv.k1 ?_
      intro i hi j hj
      refine WC.eq ((genG_set i j hj).trans ?_) rfl
      simp only [genG, Int.toNat_natCast]
      congr 1
      by_cases c : i = k
      · subst c
        rw [if_pos rfl, if_pos (by omega)]; rfl
      · rw [if_neg c]
        by_cases c2 : i < k
        · rw [if_pos c2, if_pos (by omega)]
        · rw [if_neg c2, if_neg (by omega)]
    · ((conv=>whnf);(repeat' ((first|refine Nd ?_|refine Hv fun _h=>?_);conv=>whnf)))
      have : k = 16 := by omega
      subst this
      refine CallN.pureA mod_body (mod_spec _ _ ) ?_
      ((conv=>whnf);(repeat' ((first|refine Nd ?_|refine Hv fun _h=>?_);conv=>whnf)))
      refine Need.mk (fun i hi => ⟨_, genG_set i 0 (by decide)⟩) ?_
      ((conv=>whnf);(repeat' ((first|refine Nd ?_|refine Hv fun _h=>?_);conv=>whnf)))
      exact RM.i0
theorem value_body : HasBody Tryz.prog 23 := hB Tryz.func23
end Go.Proofs
