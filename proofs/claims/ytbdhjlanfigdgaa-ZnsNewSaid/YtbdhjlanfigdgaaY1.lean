import Derived.Test.YtbdhjlanfigdgaaM2
import Derived.Test.YtbdhjlanfigdgaaEnv
open Go Go.Am
namespace Go.Proofs

theorem put1_spec (n : Int) (hn : 0 ≤ n ∧ n < 256) : PSpec Try.prog 78 [.c (.int .i64 n), .c (.int .i64 1)] (.t [.inl (.str (putS n 1)), .inl (.int .i64 0)]) := by
  refine PSpec.rm ?_
  refine CSpec.of_vc hΓ Try.func78 rfl 44 0 [.tmp 4, .tmp 5] Try.ntmps78 rfl (by rw [Try.results78]) rfl ?_
  conv => whnf
  repeat' ((first | refine Need.mk (by first | (simp; done) | omega | decide | (intro _h; decide) | (simp_all; done) | (intro _h; simp_all; done) | (simp_all; omega)) ?_ | refine Have.mk (fun _h => ?_)); conv => whnf)
  have e : IntKind.i64.wrap (1 * 2 ^ min (IntKind.u64.wrap (IntKind.i64.wrap (8 * 1))).toNat IntKind.i64.bits) = 256 := by decide
  refine Br.no (by rw [e]; simp; omega) ?_
  conv => whnf
  repeat' ((first | refine Need.mk (by first | (simp; done) | omega | decide | (intro _h; decide) | (simp_all; done) | (intro _h; simp_all; done) | (simp_all; omega)) ?_ | refine Have.mk (fun _h => ?_)); conv => whnf)
  refine Lp.mk hΓ (ι := Nat) (fun k => [(7, .c (.int .i64 k)), (6, .c (.sl 0 1 1 1 true)), (0, .c (.int .i64 n)), (1, .c (.int .i64 1))]) (fun k => [.arr 5 1 1 (putG n k)]) (fun k => k ≤ 1) (fun k => 1 - k) 0 (Nat.zero_le _) ?_ ?_
  · exact Mv.mk' 1 rfl ⟨O.wk.arr rfl (fun i hi j hj => by
      have hj : j < 1 := hj
      have : j = 0 := by omega
      subst this
      exact wkC.imm rfl), trivial⟩ ⟨wkS.imm rfl, wkS.c (wkC.sl (by decide) rfl rfl (fun _ => rfl)), wkS.imm rfl, wkS.imm rfl, trivial⟩ (Nat.zero_le _)
  · intro k hk
    conv => whnf
    repeat' ((first | refine Need.mk (by first | (simp; done) | omega | decide | (intro _h; decide) | (simp_all; done) | (intro _h; simp_all; done) | (simp_all; omega)) ?_ | refine Have.mk (fun _h => ?_)); conv => whnf)
    (first | refine Br.lt (fun h => ?_) (fun h => ?_) | refine Br.le (fun h => ?_) (fun h => ?_) | refine Br.gt (fun h => ?_) (fun h => ?_) | refine Br.ge (fun h => ?_) (fun h => ?_) | refine Br.eq (fun h => ?_) (fun h => ?_) | refine Br.ne (fun h => ?_) (fun h => ?_) | refine Br.not (fun h => ?_) (fun h => ?_) | refine Br.mk (fun h => ?_) (fun h => ?_)) <;> (conv => whnf)
    · repeat' ((first | refine Need.mk (by first | (simp; done) | omega | decide | (intro _h; decide) | (simp_all; done) | (intro _h; simp_all; done) | (simp_all; omega)) ?_ | refine Have.mk (fun _h => ?_)); conv => whnf)
      refine Need.mk (by rw [IntKind.wrap_u64]; omega) ?_
      conv => whnf
      repeat' ((first | refine Need.mk (by first | (simp; done) | omega | decide | (intro _h; decide) | (simp_all; done) | (intro _h; simp_all; done) | (simp_all; omega)) ?_ | refine Have.mk (fun _h => ?_)); conv => whnf)
      have w0 := wrap_id (↑k + 1) (by omega) (by omega)
      refine ⟨k + 1, by omega, by omega, Mv.mk' 1 rfl ⟨O.wk.arr rfl (fun i hi j hj => wkC.of_eq (putG_imm _ _ _ _) ?_), trivial⟩ ⟨wkS.c (wkC.int (by rw [w0]; rfl)), wkS.c (wkC.sl (by decide) rfl rfl (fun e => e)), wkS.imm rfl, wkS.imm rfl, trivial⟩ (Nat.zero_le _)⟩
      have hj : j = 0 := by omega
      subst hj
      rw [updG_one]
      simp only [putG, putB, Int.toNat_natCast]
      by_cases c : i = k
      · subst c
        simp
      · rw [if_neg (by simp [c])]
        by_cases c2 : i < k
        · rw [if_pos c2, if_pos (by omega)]
        · rw [if_neg c2, if_neg (by omega)]
    · repeat' ((first | refine Need.mk (by first | (simp; done) | omega | decide | (intro _h; decide) | (simp_all; done) | (intro _h; simp_all; done) | (simp_all; omega)) ?_ | refine Have.mk (fun _h => ?_)); conv => whnf)
      have : k = 1 := by omega
      subst this
      refine Need.mk (fun i hi => ⟨putB n i, by simp only [putG]; rw [if_pos hi]⟩) ?_
      conv => whnf
      repeat' ((first | refine Need.mk (by first | (simp; done) | omega | decide | (intro _h; decide) | (simp_all; done) | (intro _h; simp_all; done) | (simp_all; omega)) ?_ | refine Have.mk (fun _h => ?_)); conv => whnf)
      exact RM.imm rfl (wkS.t ⟨wkC.str (putG_str n 1), wkC.imm rfl, trivial⟩)

theorem put4_spec (n : Int) (hn : 0 ≤ n ∧ n < 4294967296) : PSpec Try.prog 78 [.c (.int .i64 n), .c (.int .i64 4)] (.t [.inl (.str (putS n 4)), .inl (.int .i64 0)]) := by
  refine PSpec.rm ?_
  refine CSpec.of_vc hΓ Try.func78 rfl 44 0 [.tmp 4, .tmp 5] Try.ntmps78 rfl (by rw [Try.results78]) rfl ?_
  conv => whnf
  repeat' ((first | refine Need.mk (by first | (simp; done) | omega | decide | (intro _h; decide) | (simp_all; done) | (intro _h; simp_all; done) | (simp_all; omega)) ?_ | refine Have.mk (fun _h => ?_)); conv => whnf)
  have e : IntKind.i64.wrap (1 * 2 ^ min (IntKind.u64.wrap (IntKind.i64.wrap (8 * 4))).toNat IntKind.i64.bits) = 4294967296 := by decide
  refine Br.no (by rw [e]; simp; omega) ?_
  conv => whnf
  repeat' ((first | refine Need.mk (by first | (simp; done) | omega | decide | (intro _h; decide) | (simp_all; done) | (intro _h; simp_all; done) | (simp_all; omega)) ?_ | refine Have.mk (fun _h => ?_)); conv => whnf)
  refine Lp.mk hΓ (ι := Nat) (fun k => [(7, .c (.int .i64 k)), (6, .c (.sl 0 1 4 4 true)), (0, .c (.int .i64 n)), (1, .c (.int .i64 4))]) (fun k => [.arr 5 1 4 (putG n k)]) (fun k => k ≤ 4) (fun k => 4 - k) 0 (Nat.zero_le _) ?_ ?_
  · exact Mv.mk' 1 rfl ⟨O.wk.arr rfl (fun i hi j hj => by
      have hj : j < 1 := hj
      have : j = 0 := by omega
      subst this
      exact wkC.imm rfl), trivial⟩ ⟨wkS.imm rfl, wkS.c (wkC.sl (by decide) rfl rfl (fun _ => rfl)), wkS.imm rfl, wkS.imm rfl, trivial⟩ (Nat.zero_le _)
  · intro k hk
    conv => whnf
    repeat' ((first | refine Need.mk (by first | (simp; done) | omega | decide | (intro _h; decide) | (simp_all; done) | (intro _h; simp_all; done) | (simp_all; omega)) ?_ | refine Have.mk (fun _h => ?_)); conv => whnf)
    (first | refine Br.lt (fun h => ?_) (fun h => ?_) | refine Br.le (fun h => ?_) (fun h => ?_) | refine Br.gt (fun h => ?_) (fun h => ?_) | refine Br.ge (fun h => ?_) (fun h => ?_) | refine Br.eq (fun h => ?_) (fun h => ?_) | refine Br.ne (fun h => ?_) (fun h => ?_) | refine Br.not (fun h => ?_) (fun h => ?_) | refine Br.mk (fun h => ?_) (fun h => ?_)) <;> (conv => whnf)
    · repeat' ((first | refine Need.mk (by first | (simp; done) | omega | decide | (intro _h; decide) | (simp_all; done) | (intro _h; simp_all; done) | (simp_all; omega)) ?_ | refine Have.mk (fun _h => ?_)); conv => whnf)
      refine Need.mk (by rw [IntKind.wrap_u64]; omega) ?_
      conv => whnf
      repeat' ((first | refine Need.mk (by first | (simp; done) | omega | decide | (intro _h; decide) | (simp_all; done) | (intro _h; simp_all; done) | (simp_all; omega)) ?_ | refine Have.mk (fun _h => ?_)); conv => whnf)
      have w0 := wrap_id (↑k + 1) (by omega) (by omega)
      refine ⟨k + 1, by omega, by omega, Mv.mk' 1 rfl ⟨O.wk.arr rfl (fun i hi j hj => wkC.of_eq (putG_imm _ _ _ _) ?_), trivial⟩ ⟨wkS.c (wkC.int (by rw [w0]; rfl)), wkS.c (wkC.sl (by decide) rfl rfl (fun e => e)), wkS.imm rfl, wkS.imm rfl, trivial⟩ (Nat.zero_le _)⟩
      have hj : j = 0 := by omega
      subst hj
      rw [updG_one]
      simp only [putG, putB, Int.toNat_natCast]
      by_cases c : i = k
      · subst c
        simp
      · rw [if_neg (by simp [c])]
        by_cases c2 : i < k
        · rw [if_pos c2, if_pos (by omega)]
        · rw [if_neg c2, if_neg (by omega)]
    · repeat' ((first | refine Need.mk (by first | (simp; done) | omega | decide | (intro _h; decide) | (simp_all; done) | (intro _h; simp_all; done) | (simp_all; omega)) ?_ | refine Have.mk (fun _h => ?_)); conv => whnf)
      have : k = 4 := by omega
      subst this
      refine Need.mk (fun i hi => ⟨putB n i, by simp only [putG]; rw [if_pos hi]⟩) ?_
      conv => whnf
      repeat' ((first | refine Need.mk (by first | (simp; done) | omega | decide | (intro _h; decide) | (simp_all; done) | (intro _h; simp_all; done) | (simp_all; omega)) ?_ | refine Have.mk (fun _h => ?_)); conv => whnf)
      exact RM.imm rfl (wkS.t ⟨wkC.str (putG_str n 4), wkC.imm rfl, trivial⟩)

theorem put6_spec (n : Int) (hn : 0 ≤ n ∧ n < 281474976710656) : PSpec Try.prog 78 [.c (.int .i64 n), .c (.int .i64 6)] (.t [.inl (.str (putS n 6)), .inl (.int .i64 0)]) := by
  refine PSpec.rm ?_
  refine CSpec.of_vc hΓ Try.func78 rfl 44 0 [.tmp 4, .tmp 5] Try.ntmps78 rfl (by rw [Try.results78]) rfl ?_
  conv => whnf
  repeat' ((first | refine Need.mk (by first | (simp; done) | omega | decide | (intro _h; decide) | (simp_all; done) | (intro _h; simp_all; done) | (simp_all; omega)) ?_ | refine Have.mk (fun _h => ?_)); conv => whnf)
  have e : IntKind.i64.wrap (1 * 2 ^ min (IntKind.u64.wrap (IntKind.i64.wrap (8 * 6))).toNat IntKind.i64.bits) = 281474976710656 := by decide
  refine Br.no (by rw [e]; simp; omega) ?_
  conv => whnf
  repeat' ((first | refine Need.mk (by first | (simp; done) | omega | decide | (intro _h; decide) | (simp_all; done) | (intro _h; simp_all; done) | (simp_all; omega)) ?_ | refine Have.mk (fun _h => ?_)); conv => whnf)
  refine Lp.mk hΓ (ι := Nat) (fun k => [(7, .c (.int .i64 k)), (6, .c (.sl 0 1 6 6 true)), (0, .c (.int .i64 n)), (1, .c (.int .i64 6))]) (fun k => [.arr 5 1 6 (putG n k)]) (fun k => k ≤ 6) (fun k => 6 - k) 0 (Nat.zero_le _) ?_ ?_
  · exact Mv.mk' 1 rfl ⟨O.wk.arr rfl (fun i hi j hj => by
      have hj : j < 1 := hj
      have : j = 0 := by omega
      subst this
      exact wkC.imm rfl), trivial⟩ ⟨wkS.imm rfl, wkS.c (wkC.sl (by decide) rfl rfl (fun _ => rfl)), wkS.imm rfl, wkS.imm rfl, trivial⟩ (Nat.zero_le _)
  · intro k hk
    conv => whnf
    repeat' ((first | refine Need.mk (by first | (simp; done) | omega | decide | (intro _h; decide) | (simp_all; done) | (intro _h; simp_all; done) | (simp_all; omega)) ?_ | refine Have.mk (fun _h => ?_)); conv => whnf)
    (first | refine Br.lt (fun h => ?_) (fun h => ?_) | refine Br.le (fun h => ?_) (fun h => ?_) | refine Br.gt (fun h => ?_) (fun h => ?_) | refine Br.ge (fun h => ?_) (fun h => ?_) | refine Br.eq (fun h => ?_) (fun h => ?_) | refine Br.ne (fun h => ?_) (fun h => ?_) | refine Br.not (fun h => ?_) (fun h => ?_) | refine Br.mk (fun h => ?_) (fun h => ?_)) <;> (conv => whnf)
    · repeat' ((first | refine Need.mk (by first | (simp; done) | omega | decide | (intro _h; decide) | (simp_all; done) | (intro _h; simp_all; done) | (simp_all; omega)) ?_ | refine Have.mk (fun _h => ?_)); conv => whnf)
      refine Need.mk (by rw [IntKind.wrap_u64]; omega) ?_
      conv => whnf
      repeat' ((first | refine Need.mk (by first | (simp; done) | omega | decide | (intro _h; decide) | (simp_all; done) | (intro _h; simp_all; done) | (simp_all; omega)) ?_ | refine Have.mk (fun _h => ?_)); conv => whnf)
      have w0 := wrap_id (↑k + 1) (by omega) (by omega)
      refine ⟨k + 1, by omega, by omega, Mv.mk' 1 rfl ⟨O.wk.arr rfl (fun i hi j hj => wkC.of_eq (putG_imm _ _ _ _) ?_), trivial⟩ ⟨wkS.c (wkC.int (by rw [w0]; rfl)), wkS.c (wkC.sl (by decide) rfl rfl (fun e => e)), wkS.imm rfl, wkS.imm rfl, trivial⟩ (Nat.zero_le _)⟩
      have hj : j = 0 := by omega
      subst hj
      rw [updG_one]
      simp only [putG, putB, Int.toNat_natCast]
      by_cases c : i = k
      · subst c
        simp
      · rw [if_neg (by simp [c])]
        by_cases c2 : i < k
        · rw [if_pos c2, if_pos (by omega)]
        · rw [if_neg c2, if_neg (by omega)]
    · repeat' ((first | refine Need.mk (by first | (simp; done) | omega | decide | (intro _h; decide) | (simp_all; done) | (intro _h; simp_all; done) | (simp_all; omega)) ?_ | refine Have.mk (fun _h => ?_)); conv => whnf)
      have : k = 6 := by omega
      subst this
      refine Need.mk (fun i hi => ⟨putB n i, by simp only [putG]; rw [if_pos hi]⟩) ?_
      conv => whnf
      repeat' ((first | refine Need.mk (by first | (simp; done) | omega | decide | (intro _h; decide) | (simp_all; done) | (intro _h; simp_all; done) | (simp_all; omega)) ?_ | refine Have.mk (fun _h => ?_)); conv => whnf)
      exact RM.imm rfl (wkS.t ⟨wkC.str (putG_str n 6), wkC.imm rfl, trivial⟩)
theorem put1_body : HasBody Try.prog 78 := ⟨⟨Try.f78, Try.func78, rfl, by kernel_rfl⟩⟩
theorem put4_body : HasBody Try.prog 78 := put1_body
theorem put6_body : HasBody Try.prog 78 := put1_body

theorem number1_spec (n : Int) (hn : 0 ≤ n ∧ n < 256) : PSpec Try.prog 70 [.c (.int .i64 n), .c (.int .i64 1)] (.c (.str (putS n 1))) := by
  refine CSpec.of_vc hΓ Try.func70 rfl 14 0 [.tmp 4] Try.ntmps70 rfl (by rw [Try.results70]) rfl ?_
  conv => whnf
  refine CallN.pure put1_body (put1_spec n hn ) (leA.refl rfl) rfl ?_
  conv => whnf
  repeat' ((first | refine Need.mk (by first | (simp; done) | omega | decide | (intro _h; decide) | (simp_all; done) | (intro _h; simp_all; done) | (simp_all; omega)) ?_ | refine Have.mk (fun _h => ?_)); conv => whnf)
theorem number1_body : HasBody Try.prog 70 := ⟨⟨Try.f70, Try.func70, rfl, by kernel_rfl⟩⟩

theorem number4_spec (n : Int) (hn : 0 ≤ n ∧ n < 4294967296) : PSpec Try.prog 70 [.c (.int .i64 n), .c (.int .i64 4)] (.c (.str (putS n 4))) := by
  refine CSpec.of_vc hΓ Try.func70 rfl 14 0 [.tmp 4] Try.ntmps70 rfl (by rw [Try.results70]) rfl ?_
  conv => whnf
  refine CallN.pure put4_body (put4_spec n hn ) (leA.refl rfl) rfl ?_
  conv => whnf
  repeat' ((first | refine Need.mk (by first | (simp; done) | omega | decide | (intro _h; decide) | (simp_all; done) | (intro _h; simp_all; done) | (simp_all; omega)) ?_ | refine Have.mk (fun _h => ?_)); conv => whnf)
theorem number4_body : HasBody Try.prog 70 := ⟨⟨Try.f70, Try.func70, rfl, by kernel_rfl⟩⟩

theorem number6_spec (n : Int) (hn : 0 ≤ n ∧ n < 281474976710656) : PSpec Try.prog 70 [.c (.int .i64 n), .c (.int .i64 6)] (.c (.str (putS n 6))) := by
  refine CSpec.of_vc hΓ Try.func70 rfl 14 0 [.tmp 4] Try.ntmps70 rfl (by rw [Try.results70]) rfl ?_
  conv => whnf
  refine CallN.pure put6_body (put6_spec n hn ) (leA.refl rfl) rfl ?_
  conv => whnf
  repeat' ((first | refine Need.mk (by first | (simp; done) | omega | decide | (intro _h; decide) | (simp_all; done) | (intro _h; simp_all; done) | (simp_all; omega)) ?_ | refine Have.mk (fun _h => ?_)); conv => whnf)
theorem number6_body : HasBody Try.prog 70 := ⟨⟨Try.f70, Try.func70, rfl, by kernel_rfl⟩⟩
end Go.Proofs
