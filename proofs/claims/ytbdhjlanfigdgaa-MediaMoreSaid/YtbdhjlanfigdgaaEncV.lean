/- Part of the proofs of laws of this seat: contracts and plain lemmas; no condition is added to a statement. -/
import Derived.Test.YtbdhjlanfigdgaaModsV
import Derived.Test.YtbdhjlanfigdgaaEnvV
set_option linter.unusedSimpArgs false
set_option linter.unusedVariables false
section
open Go Go.Am
namespace Go.Proofs

theorem put1_spec (n : Int) (hn : 0 ≤ n ∧ n < 256) : PSpec Try.prog 78 [.c (.int .i64 n), .c (.int .i64 1)] (.t [.inl (.str (putS n 1)), .inl (.int .i64 0)]) := by
  refine PSpec.rm ?_
  refine CSpec.of_vc hΓ Try.func78 rfl 44 0 [.tmp 4, .tmp 5] Try.ntmps78 rfl (by rw [Try.results78]) rfl ?_
  conv => whnf
  repeat' ((first | refine Need.auto ?_ | refine Have.mk (fun _h => ?_)); conv => whnf)
  have e : IntKind.i64.wrap (1 * 2 ^ min (IntKind.u64.wrap (IntKind.i64.wrap (8 * 1))).toNat IntKind.i64.bits) = 256 := by decide
  refine Br.no (by rw [e]; simp; omega) ?_
  conv => whnf
  repeat' ((first | refine Need.auto ?_ | refine Have.mk (fun _h => ?_)); conv => whnf)
  refine Lp.mk hΓ (ι := Nat) (fun k => [(7, .c (.int .i64 k)), (6, .c (.sl 0 1 1 1 true)), (0, .c (.int .i64 n)), (1, .c (.int .i64 1))]) (fun k => [.arr 5 1 1 (putG n k)]) (fun k => k ≤ 1) (fun k => 1 - k) 0 (Nat.zero_le _) ?_ ?_
  · exact Mv.mk' 1 rfl ⟨O.wk.arr rfl (fun i hi j hj => by
      have hj : j < 1 := hj
      have : j = 0 := by omega
      subst this
      exact wkC.imm rfl), trivial⟩ ⟨wkS.imm rfl, wkS.c (wkC.sl (by decide) rfl rfl (fun _ => rfl)), wkS.imm rfl, wkS.imm rfl, trivial⟩ (Nat.zero_le _)
  · intro k hk
    conv => whnf
    repeat' ((first | refine Need.auto ?_ | refine Have.mk (fun _h => ?_)); conv => whnf)
    (first | refine Br.lt (fun h => ?_) (fun h => ?_) | refine Br.le (fun h => ?_) (fun h => ?_) | refine Br.gt (fun h => ?_) (fun h => ?_) | refine Br.ge (fun h => ?_) (fun h => ?_) | refine Br.eq (fun h => ?_) (fun h => ?_) | refine Br.ne (fun h => ?_) (fun h => ?_) | refine Br.not (fun h => ?_) (fun h => ?_) | refine Br.mk (fun h => ?_) (fun h => ?_)) <;> (try simp only [Int.toNat_natCast] at h) <;> (conv => whnf)
    · repeat' ((first | refine Need.auto ?_ | refine Have.mk (fun _h => ?_)); conv => whnf)
      refine Need.mk (by rw [IntKind.wrap_u64]; omega) ?_
      conv => whnf
      repeat' ((first | refine Need.auto ?_ | refine Have.mk (fun _h => ?_)); conv => whnf)
      have w0 := wrap_id (↑k + 1) (by omega) (by omega)
      refine ⟨k + 1, by omega, by omega, Mv.mk' 1 rfl ⟨O.wk.arr rfl (fun i hi j hj => wkC.of_eq (putG_imm _ _ _ _) ?_), trivial⟩ ⟨wkS.c (wkC.int (by rw [w0]; rfl)), wkS.c (wkC.sl (by decide) rfl rfl (fun e => e)), wkS.imm rfl, wkS.imm rfl, trivial⟩ (Nat.zero_le _)⟩
      have hj : j = 0 := by omega
      subst hj
      rw [updG_one]
      simp only [putG, putB, Int.toNat_natCast]
      by_cases c : i = k
      · subst c
        simp
      · rw [if_neg (by simp [c])]
        by_cases c2 : i < k
        · rw [if_pos c2, if_pos (by omega)]
        · rw [if_neg c2, if_neg (by omega)]
    · repeat' ((first | refine Need.auto ?_ | refine Have.mk (fun _h => ?_)); conv => whnf)
      have : k = 1 := by omega
      subst this
      refine Need.mk (fun i hi => ⟨putB n i, by simp only [putG]; rw [if_pos hi]⟩) ?_
      conv => whnf
      repeat' ((first | refine Need.auto ?_ | refine Have.mk (fun _h => ?_)); conv => whnf)
      exact RM.imm rfl (wkS.t ⟨wkC.str (putG_str n 1), wkC.imm rfl, trivial⟩)

theorem put4_spec (n : Int) (hn : 0 ≤ n ∧ n < 4294967296) : PSpec Try.prog 78 [.c (.int .i64 n), .c (.int .i64 4)] (.t [.inl (.str (putS n 4)), .inl (.int .i64 0)]) := by
  refine PSpec.rm ?_
  refine CSpec.of_vc hΓ Try.func78 rfl 44 0 [.tmp 4, .tmp 5] Try.ntmps78 rfl (by rw [Try.results78]) rfl ?_
  conv => whnf
  repeat' ((first | refine Need.auto ?_ | refine Have.mk (fun _h => ?_)); conv => whnf)
  have e : IntKind.i64.wrap (1 * 2 ^ min (IntKind.u64.wrap (IntKind.i64.wrap (8 * 4))).toNat IntKind.i64.bits) = 4294967296 := by decide
  refine Br.no (by rw [e]; simp; omega) ?_
  conv => whnf
  repeat' ((first | refine Need.auto ?_ | refine Have.mk (fun _h => ?_)); conv => whnf)
  refine Lp.mk hΓ (ι := Nat) (fun k => [(7, .c (.int .i64 k)), (6, .c (.sl 0 1 4 4 true)), (0, .c (.int .i64 n)), (1, .c (.int .i64 4))]) (fun k => [.arr 5 1 4 (putG n k)]) (fun k => k ≤ 4) (fun k => 4 - k) 0 (Nat.zero_le _) ?_ ?_
  · exact Mv.mk' 1 rfl ⟨O.wk.arr rfl (fun i hi j hj => by
      have hj : j < 1 := hj
      have : j = 0 := by omega
      subst this
      exact wkC.imm rfl), trivial⟩ ⟨wkS.imm rfl, wkS.c (wkC.sl (by decide) rfl rfl (fun _ => rfl)), wkS.imm rfl, wkS.imm rfl, trivial⟩ (Nat.zero_le _)
  · intro k hk
    conv => whnf
    repeat' ((first | refine Need.auto ?_ | refine Have.mk (fun _h => ?_)); conv => whnf)
    (first | refine Br.lt (fun h => ?_) (fun h => ?_) | refine Br.le (fun h => ?_) (fun h => ?_) | refine Br.gt (fun h => ?_) (fun h => ?_) | refine Br.ge (fun h => ?_) (fun h => ?_) | refine Br.eq (fun h => ?_) (fun h => ?_) | refine Br.ne (fun h => ?_) (fun h => ?_) | refine Br.not (fun h => ?_) (fun h => ?_) | refine Br.mk (fun h => ?_) (fun h => ?_)) <;> (try simp only [Int.toNat_natCast] at h) <;> (conv => whnf)
    · repeat' ((first | refine Need.auto ?_ | refine Have.mk (fun _h => ?_)); conv => whnf)
      refine Need.mk (by rw [IntKind.wrap_u64]; omega) ?_
      conv => whnf
      repeat' ((first | refine Need.auto ?_ | refine Have.mk (fun _h => ?_)); conv => whnf)
      have w0 := wrap_id (↑k + 1) (by omega) (by omega)
      refine ⟨k + 1, by omega, by omega, Mv.mk' 1 rfl ⟨O.wk.arr rfl (fun i hi j hj => wkC.of_eq (putG_imm _ _ _ _) ?_), trivial⟩ ⟨wkS.c (wkC.int (by rw [w0]; rfl)), wkS.c (wkC.sl (by decide) rfl rfl (fun e => e)), wkS.imm rfl, wkS.imm rfl, trivial⟩ (Nat.zero_le _)⟩
      have hj : j = 0 := by omega
      subst hj
      rw [updG_one]
      simp only [putG, putB, Int.toNat_natCast]
      by_cases c : i = k
      · subst c
        simp
      · rw [if_neg (by simp [c])]
        by_cases c2 : i < k
        · rw [if_pos c2, if_pos (by omega)]
        · rw [if_neg c2, if_neg (by omega)]
    · repeat' ((first | refine Need.auto ?_ | refine Have.mk (fun _h => ?_)); conv => whnf)
      have : k = 4 := by omega
      subst this
      refine Need.mk (fun i hi => ⟨putB n i, by simp only [putG]; rw [if_pos hi]⟩) ?_
      conv => whnf
      repeat' ((first | refine Need.auto ?_ | refine Have.mk (fun _h => ?_)); conv => whnf)
      exact RM.imm rfl (wkS.t ⟨wkC.str (putG_str n 4), wkC.imm rfl, trivial⟩)

theorem put6_spec (n : Int) (hn : 0 ≤ n ∧ n < 281474976710656) : PSpec Try.prog 78 [.c (.int .i64 n), .c (.int .i64 6)] (.t [.inl (.str (putS n 6)), .inl (.int .i64 0)]) := by
  refine PSpec.rm ?_
  refine CSpec.of_vc hΓ Try.func78 rfl 44 0 [.tmp 4, .tmp 5] Try.ntmps78 rfl (by rw [Try.results78]) rfl ?_
  conv => whnf
  repeat' ((first | refine Need.auto ?_ | refine Have.mk (fun _h => ?_)); conv => whnf)
  have e : IntKind.i64.wrap (1 * 2 ^ min (IntKind.u64.wrap (IntKind.i64.wrap (8 * 6))).toNat IntKind.i64.bits) = 281474976710656 := by decide
  refine Br.no (by rw [e]; simp; omega) ?_
  conv => whnf
  repeat' ((first | refine Need.auto ?_ | refine Have.mk (fun _h => ?_)); conv => whnf)
  refine Lp.mk hΓ (ι := Nat) (fun k => [(7, .c (.int .i64 k)), (6, .c (.sl 0 1 6 6 true)), (0, .c (.int .i64 n)), (1, .c (.int .i64 6))]) (fun k => [.arr 5 1 6 (putG n k)]) (fun k => k ≤ 6) (fun k => 6 - k) 0 (Nat.zero_le _) ?_ ?_
  · exact Mv.mk' 1 rfl ⟨O.wk.arr rfl (fun i hi j hj => by
      have hj : j < 1 := hj
      have : j = 0 := by omega
      subst this
      exact wkC.imm rfl), trivial⟩ ⟨wkS.imm rfl, wkS.c (wkC.sl (by decide) rfl rfl (fun _ => rfl)), wkS.imm rfl, wkS.imm rfl, trivial⟩ (Nat.zero_le _)
  · intro k hk
    conv => whnf
    repeat' ((first | refine Need.auto ?_ | refine Have.mk (fun _h => ?_)); conv => whnf)
    (first | refine Br.lt (fun h => ?_) (fun h => ?_) | refine Br.le (fun h => ?_) (fun h => ?_) | refine Br.gt (fun h => ?_) (fun h => ?_) | refine Br.ge (fun h => ?_) (fun h => ?_) | refine Br.eq (fun h => ?_) (fun h => ?_) | refine Br.ne (fun h => ?_) (fun h => ?_) | refine Br.not (fun h => ?_) (fun h => ?_) | refine Br.mk (fun h => ?_) (fun h => ?_)) <;> (try simp only [Int.toNat_natCast] at h) <;> (conv => whnf)
    · repeat' ((first | refine Need.auto ?_ | refine Have.mk (fun _h => ?_)); conv => whnf)
      refine Need.mk (by rw [IntKind.wrap_u64]; omega) ?_
      conv => whnf
      repeat' ((first | refine Need.auto ?_ | refine Have.mk (fun _h => ?_)); conv => whnf)
      have w0 := wrap_id (↑k + 1) (by omega) (by omega)
      refine ⟨k + 1, by omega, by omega, Mv.mk' 1 rfl ⟨O.wk.arr rfl (fun i hi j hj => wkC.of_eq (putG_imm _ _ _ _) ?_), trivial⟩ ⟨wkS.c (wkC.int (by rw [w0]; rfl)), wkS.c (wkC.sl (by decide) rfl rfl (fun e => e)), wkS.imm rfl, wkS.imm rfl, trivial⟩ (Nat.zero_le _)⟩
      have hj : j = 0 := by omega
      subst hj
      rw [updG_one]
      simp only [putG, putB, Int.toNat_natCast]
      by_cases c : i = k
      · subst c
        simp
      · rw [if_neg (by simp [c])]
        by_cases c2 : i < k
        · rw [if_pos c2, if_pos (by omega)]
        · rw [if_neg c2, if_neg (by omega)]
    · repeat' ((first | refine Need.auto ?_ | refine Have.mk (fun _h => ?_)); conv => whnf)
      have : k = 6 := by omega
      subst this
      refine Need.mk (fun i hi => ⟨putB n i, by simp only [putG]; rw [if_pos hi]⟩) ?_
      conv => whnf
      repeat' ((first | refine Need.auto ?_ | refine Have.mk (fun _h => ?_)); conv => whnf)
      exact RM.imm rfl (wkS.t ⟨wkC.str (putG_str n 6), wkC.imm rfl, trivial⟩)
theorem put1_body : HasBody Try.prog 78 := ⟨⟨Try.f78, Try.func78, rfl, by kernel_rfl⟩⟩
theorem put4_body : HasBody Try.prog 78 := put1_body
theorem put6_body : HasBody Try.prog 78 := put1_body

theorem number1_spec (n : Int) (hn : 0 ≤ n ∧ n < 256) : PSpec Try.prog 70 [.c (.int .i64 n), .c (.int .i64 1)] (.c (.str (putS n 1))) := by
  refine CSpec.of_vc hΓ Try.func70 rfl 14 0 [.tmp 4] Try.ntmps70 rfl (by rw [Try.results70]) rfl ?_
  conv => whnf
  refine CallN.pure put1_body (put1_spec n hn ) (leA.refl rfl) rfl ?_
  conv => whnf
  repeat' ((first | refine Need.auto ?_ | refine Have.mk (fun _h => ?_)); conv => whnf)
theorem number1_body : HasBody Try.prog 70 := ⟨⟨Try.f70, Try.func70, rfl, by kernel_rfl⟩⟩

theorem number4_spec (n : Int) (hn : 0 ≤ n ∧ n < 4294967296) : PSpec Try.prog 70 [.c (.int .i64 n), .c (.int .i64 4)] (.c (.str (putS n 4))) := by
  refine CSpec.of_vc hΓ Try.func70 rfl 14 0 [.tmp 4] Try.ntmps70 rfl (by rw [Try.results70]) rfl ?_
  conv => whnf
  refine CallN.pure put4_body (put4_spec n hn ) (leA.refl rfl) rfl ?_
  conv => whnf
  repeat' ((first | refine Need.auto ?_ | refine Have.mk (fun _h => ?_)); conv => whnf)
theorem number4_body : HasBody Try.prog 70 := ⟨⟨Try.f70, Try.func70, rfl, by kernel_rfl⟩⟩

theorem number6_spec (n : Int) (hn : 0 ≤ n ∧ n < 281474976710656) : PSpec Try.prog 70 [.c (.int .i64 n), .c (.int .i64 6)] (.c (.str (putS n 6))) := by
  refine CSpec.of_vc hΓ Try.func70 rfl 14 0 [.tmp 4] Try.ntmps70 rfl (by rw [Try.results70]) rfl ?_
  conv => whnf
  refine CallN.pure put6_body (put6_spec n hn ) (leA.refl rfl) rfl ?_
  conv => whnf
  repeat' ((first | refine Need.auto ?_ | refine Have.mk (fun _h => ?_)); conv => whnf)
theorem number6_body : HasBody Try.prog 70 := ⟨⟨Try.f70, Try.func70, rfl, by kernel_rfl⟩⟩
end Go.Proofs
end

section
open Go Go.Am
namespace Go.Proofs
theorem add_spec (sum : Int) (b : ByteArray) (hb : b.size ≤ 10000000) : PSpec Try.prog 80 [.c (.int .u32 sum), .c (.str b)] (.c (.int .u32 (addU sum b))) := by
  refine CSpec.of_vc hΓ Try.func80 rfl 37 0 [.tmp 4] Try.ntmps80 rfl (by rw [Try.results80]) rfl ?_
  conv => whnf
  repeat' ((first | refine Need.auto ?_ | refine Have.mk (fun _h => ?_)); conv => whnf)
  refine Lp.mk hΓ (ι := Nat) (fun k => [(6, .c (.int .i64 k)), (5, .c (.int .u32 (crcTo sum b k))), (1, .c (.str b))]) (fun _ => []) (fun k => k ≤ b.size) (fun k => b.size - k) 0 (Nat.zero_le _) ?_ ?_
  · exact Mv.mk' 0 rfl trivial ⟨wkS.imm rfl, wkS.imm rfl, wkS.imm rfl, trivial⟩ (Nat.zero_le _)
  · intro k hk
    conv => whnf
    repeat' ((first | refine Need.auto ?_ | refine Have.mk (fun _h => ?_)); conv => whnf)
    (first | refine Br.lt (fun h => ?_) (fun h => ?_) | refine Br.le (fun h => ?_) (fun h => ?_) | refine Br.gt (fun h => ?_) (fun h => ?_) | refine Br.ge (fun h => ?_) (fun h => ?_) | refine Br.eq (fun h => ?_) (fun h => ?_) | refine Br.ne (fun h => ?_) (fun h => ?_) | refine Br.not (fun h => ?_) (fun h => ?_) | refine Br.mk (fun h => ?_) (fun h => ?_)) <;> (try simp only [Int.toNat_natCast] at h) <;> (conv => whnf)
    · repeat' ((first | refine Need.auto ?_ | refine Have.mk (fun _h => ?_)); conv => whnf)
      refine Lp.mk hΓ (ι := Nat) (fun j => [(7, .c (.int .i64 j)), (5, .c (.int .u32 (iterI crcBit j (xorU (crcTo sum b k) (byteAt b k))))), (6, .c (.int .i64 k)), (1, .c (.str b))]) (fun _ => []) (fun j => j ≤ 8) (fun j => 8 - j) 0 (Nat.zero_le _) ?_ ?_
      · exact Mv.mk' 0 rfl trivial ⟨wkS.imm rfl, wkS.imm rfl, wkS.imm rfl, wkS.imm rfl, trivial⟩ (Nat.zero_le _)
      · intro j hj
        conv => whnf
        repeat' ((first | refine Need.auto ?_ | refine Have.mk (fun _h => ?_)); conv => whnf)
        have w1 := wrap_id (↑j + 1) (by omega) (by omega)
        (first | refine Br.lt (fun h2 => ?_) (fun h2 => ?_) | refine Br.le (fun h2 => ?_) (fun h2 => ?_) | refine Br.gt (fun h2 => ?_) (fun h2 => ?_) | refine Br.ge (fun h2 => ?_) (fun h2 => ?_) | refine Br.eq (fun h2 => ?_) (fun h2 => ?_) | refine Br.ne (fun h2 => ?_) (fun h2 => ?_) | refine Br.not (fun h2 => ?_) (fun h2 => ?_) | refine Br.mk (fun h2 => ?_) (fun h2 => ?_)) <;> (try simp only [Int.toNat_natCast] at h2) <;> (conv => whnf)
        · repeat' ((first | refine Need.auto ?_ | refine Have.mk (fun _h => ?_)); conv => whnf)
          (first | refine Br.lt (fun h3 => ?_) (fun h3 => ?_) | refine Br.le (fun h3 => ?_) (fun h3 => ?_) | refine Br.gt (fun h3 => ?_) (fun h3 => ?_) | refine Br.ge (fun h3 => ?_) (fun h3 => ?_) | refine Br.eq (fun h3 => ?_) (fun h3 => ?_) | refine Br.ne (fun h3 => ?_) (fun h3 => ?_) | refine Br.not (fun h3 => ?_) (fun h3 => ?_) | refine Br.mk (fun h3 => ?_) (fun h3 => ?_)) <;> (try simp only [Int.toNat_natCast] at h3) <;> (conv => whnf)
          · repeat' ((first | refine Need.auto ?_ | refine Have.mk (fun _h => ?_)); conv => whnf)
            exact ⟨j + 1, by omega, by omega, Mv.mk' 0 rfl trivial ⟨wkS.c (wkC.int (by rw [w1]; rfl)), wkS.c (wkC.int (by simp only [iterI]; exact (if_pos h3).symm)), wkS.imm rfl, wkS.imm rfl, trivial⟩ (Nat.zero_le _)⟩
          · repeat' ((first | refine Need.auto ?_ | refine Have.mk (fun _h => ?_)); conv => whnf)
            exact ⟨j + 1, by omega, by omega, Mv.mk' 0 rfl trivial ⟨wkS.c (wkC.int (by rw [w1]; rfl)), wkS.c (wkC.int (by simp only [iterI]; exact (if_neg h3).symm)), wkS.imm rfl, wkS.imm rfl, trivial⟩ (Nat.zero_le _)⟩
        · repeat' ((first | refine Need.auto ?_ | refine Have.mk (fun _h => ?_)); conv => whnf)
          have : j = 8 := by omega
          subst this
          have w0 := wrap_id (↑k + 1) (by omega) (by omega)
          exact ⟨k + 1, by omega, by omega, Mv.mk' 0 rfl trivial ⟨wkS.c (wkC.int (by rw [w0]; rfl)), wkS.imm rfl, wkS.imm rfl, trivial⟩ (Nat.zero_le _)⟩
    · repeat' ((first | refine Need.auto ?_ | refine Have.mk (fun _h => ?_)); conv => whnf)
      have : k = b.size := by omega
      subst this
      rfl
theorem add_body : HasBody Try.prog 80 := ⟨⟨Try.f80, Try.func80, rfl, by kernel_rfl⟩⟩

theorem sum_spec (b : ByteArray) (hb : b.size ≤ 10000000) : PSpec Try.prog 79 [.c (.str b)] (.c (.int .u32 (addU 0 b))) := by
  refine CSpec.of_vc hΓ Try.func79 rfl 5 0 [.tmp 2] Try.ntmps79 rfl (by rw [Try.results79]) rfl ?_
  conv => whnf
  refine CallN.pure add_body (add_spec 0 b hb ) (leA.refl rfl) rfl ?_
  conv => whnf
  repeat' ((first | refine Need.auto ?_ | refine Have.mk (fun _h => ?_)); conv => whnf)
theorem sum_body : HasBody Try.prog 79 := ⟨⟨Try.f79, Try.func79, rfl, by kernel_rfl⟩⟩

theorem seal_spec (b : ByteArray) (hb : b.size ≤ 10000000) : PSpec Try.prog 72 [.c (.str b)] (.c (.str (b ++ putS (IntKind.i64.wrap (addU 0 b)) 4))) := by
  refine CSpec.of_vc hΓ Try.func72 rfl 9 0 [.tmp 2] Try.ntmps72 rfl (by rw [Try.results72]) rfl ?_
  conv => whnf
  refine CallN.pure sum_body (sum_spec b hb ) (leA.refl rfl) rfl ?_
  conv => whnf
  have hl := addU_lt 0 b
  refine CallN.pure number4_body (number4_spec _ (by rw [wrap_id _ (by omega) (by omega)]; exact hl) ) (leA.refl rfl) rfl ?_
  conv => whnf
  refine Need.mk (by rw [putS_size]; omega) ?_
  conv => whnf
  repeat' ((first | refine Need.auto ?_ | refine Have.mk (fun _h => ?_)); conv => whnf)
theorem seal_body : HasBody Try.prog 72 := ⟨⟨Try.f72, Try.func72, rfl, by kernel_rfl⟩⟩

theorem pad_spec (b : ByteArray) (hb : b.size ≤ 20) : PSpec Try.prog 71 [.c (.str b), .c (.int .i64 20)] (.c (.str (padS b))) := by
  refine PSpec.rm ?_
  refine CSpec.of_vc hΓ Try.func71 rfl 18 0 [.tmp 4] Try.ntmps71 rfl (by rw [Try.results71]) rfl ?_
  conv => whnf
  repeat' ((first | refine Need.auto ?_ | refine Have.mk (fun _h => ?_)); conv => whnf)
  (first | refine Br.lt (fun h => ?_) (fun h => ?_) | refine Br.le (fun h => ?_) (fun h => ?_) | refine Br.gt (fun h => ?_) (fun h => ?_) | refine Br.ge (fun h => ?_) (fun h => ?_) | refine Br.eq (fun h => ?_) (fun h => ?_) | refine Br.ne (fun h => ?_) (fun h => ?_) | refine Br.not (fun h => ?_) (fun h => ?_) | refine Br.mk (fun h => ?_) (fun h => ?_)) <;> (try simp only [Int.toNat_natCast] at h) <;> (conv => whnf)
  · repeat' ((first | refine Need.auto ?_ | refine Have.mk (fun _h => ?_)); conv => whnf)
    have : b.size = 20 := by omega
    exact RM.imm rfl (wkS.c (wkC.str (by simp [padS, this])))
  · repeat' ((first | refine Need.auto ?_ | refine Have.mk (fun _h => ?_)); conv => whnf)
    have w0 := wrap_id (20 - (b.size : Int)) (by omega) (by omega)
    have n0 : ((20 : Int) - (b.size : Int)).toNat = 20 - b.size := by omega
    rw [w0]
    repeat' ((first | refine Need.auto ?_ | refine Have.mk (fun _h => ?_)); conv => whnf)
    rw [n0]
    refine Need.mk (fun i hi => ⟨0, rfl⟩) ?_
    conv => whnf
    refine Need.mk (by rw [bytesOf_size]; omega) ?_
    conv => whnf
    repeat' ((first | refine Need.auto ?_ | refine Have.mk (fun _h => ?_)); conv => whnf)
    refine RM.imm rfl (wkS.c (wkC.str ?_))
    simp only [padS]
    rw [if_pos (by omega)]
    rfl
theorem pad_body : HasBody Try.prog 71 := ⟨⟨Try.f71, Try.func71, rfl, by kernel_rfl⟩⟩
end Go.Proofs
end

section
open Go Go.Am
namespace Go.Proofs
theorem checkR_spec (r : Rec) : PSpec Try.prog 69 [r.s] (.c (.int .i64 (checkR r))) := by
  refine CSpec.of_vc hΓ Try.func69 rfl 67 0 [.tmp 2] Try.ntmps69 rfl (by rw [Try.results69]) rfl ?_
  conv => whnf
  repeat' ((first | refine Need.auto ?_ | refine Have.mk (fun _h => ?_)); conv => whnf)
  (first | refine Br.lt (fun h1 => ?_) (fun h1 => ?_) | refine Br.le (fun h1 => ?_) (fun h1 => ?_) | refine Br.gt (fun h1 => ?_) (fun h1 => ?_) | refine Br.ge (fun h1 => ?_) (fun h1 => ?_) | refine Br.eq (fun h1 => ?_) (fun h1 => ?_) | refine Br.ne (fun h1 => ?_) (fun h1 => ?_) | refine Br.not (fun h1 => ?_) (fun h1 => ?_) | (refine Br.mk (fun h1 => ?_) (fun h1 => ?_) <;> simp [-List.length_eq_zero_iff, -List.getD_eq_getElem?_getD] at h1)) <;> (try simp only [Int.toNat_natCast] at h1) <;> (conv => whnf)
  · repeat' ((first | refine Need.auto ?_ | refine Have.mk (fun _h => ?_)); conv => whnf)
    have : decide (1 ≤ r.kind ∧ r.kind ≤ 6) = false := by simp only [decide_eq_false_iff_not]; omega
    simp only [checkR, this]; rfl
  · repeat' ((first | refine Need.auto ?_ | refine Have.mk (fun _h => ?_)); conv => whnf)
    have e1 : decide (1 ≤ r.kind ∧ r.kind ≤ 6) = true := by simp only [decide_eq_true_eq]; omega
    (first | refine Br.lt (fun h2 => ?_) (fun h2 => ?_) | refine Br.le (fun h2 => ?_) (fun h2 => ?_) | refine Br.gt (fun h2 => ?_) (fun h2 => ?_) | refine Br.ge (fun h2 => ?_) (fun h2 => ?_) | refine Br.eq (fun h2 => ?_) (fun h2 => ?_) | refine Br.ne (fun h2 => ?_) (fun h2 => ?_) | refine Br.not (fun h2 => ?_) (fun h2 => ?_) | (refine Br.mk (fun h2 => ?_) (fun h2 => ?_) <;> simp [-List.length_eq_zero_iff, -List.getD_eq_getElem?_getD] at h2)) <;> (try simp only [Int.toNat_natCast] at h2) <;> (conv => whnf)
    · repeat' ((first | refine Need.auto ?_ | refine Have.mk (fun _h => ?_)); conv => whnf)
      have : decide (0 ≤ r.block ∧ r.block ≤ 4294967295 ∧ 0 ≤ r.version ∧ r.version ≤ 1099511627776 ∧ 0 ≤ r.move ∧ r.move ≤ 255) = false := by simp only [decide_eq_false_iff_not]; omega
      simp only [checkR, e1, this]; rfl
    · repeat' ((first | refine Need.auto ?_ | refine Have.mk (fun _h => ?_)); conv => whnf)
      have e2 : decide (0 ≤ r.block ∧ r.block ≤ 4294967295 ∧ 0 ≤ r.version ∧ r.version ≤ 1099511627776 ∧ 0 ≤ r.move ∧ r.move ≤ 255) = true := by simp only [decide_eq_true_eq]; omega
      have hz : r.payload = ⟨#[]⟩ ↔ r.payload.size = 0 := ⟨fun h => by rw [h]; rfl, size0⟩
      (first | refine Br.lt (fun h3 => ?_) (fun h3 => ?_) | refine Br.le (fun h3 => ?_) (fun h3 => ?_) | refine Br.gt (fun h3 => ?_) (fun h3 => ?_) | refine Br.ge (fun h3 => ?_) (fun h3 => ?_) | refine Br.eq (fun h3 => ?_) (fun h3 => ?_) | refine Br.ne (fun h3 => ?_) (fun h3 => ?_) | refine Br.not (fun h3 => ?_) (fun h3 => ?_) | refine Br.mk (fun h3 => ?_) (fun h3 => ?_)) <;> (try simp only [Int.toNat_natCast] at h3) <;> (conv => whnf)
      · repeat' ((first | refine Need.auto ?_ | refine Have.mk (fun _h => ?_)); conv => whnf)
        have : decide (r.payload.size ≤ 20 ∧ (r.kind = 1 → r.payload.size = 16) ∧ (r.kind = 2 → r.payload.size = 0)) = false := by
          simp [Bool.cond_eq_ite] at h3
          simp only [decide_eq_false_iff_not]
          rw [hz] at h3
          omega
        simp only [checkR, e1, e2, this]; rfl
      · repeat' ((first | refine Need.auto ?_ | refine Have.mk (fun _h => ?_)); conv => whnf)
        have : decide (r.payload.size ≤ 20 ∧ (r.kind = 1 → r.payload.size = 16) ∧ (r.kind = 2 → r.payload.size = 0)) = true := by
          simp [Bool.cond_eq_ite] at h3
          simp only [decide_eq_true_eq]
          rw [hz] at h3
          omega
        simp only [checkR, e1, e2, this]; rfl
theorem checkR_body : HasBody Try.prog 69 := ⟨⟨Try.f69, Try.func69, rfl, by kernel_rfl⟩⟩

theorem encode_spec (r : Rec) : PSpec Try.prog 53 [r.s] (.t [.inl (.str (encR r)), .inl (.int .i64 (checkR r))]) := by
  refine PSpec.rm ?_
  refine CSpec.of_vc hΓ Try.func53 rfl 39 0 [.tmp 2, .tmp 3] Try.ntmps53 rfl (by rw [Try.results53]) rfl ?_
  conv => whnf
  refine CallN.pure checkR_body (checkR_spec r ) (leA.refl rfl) rfl ?_
  conv => whnf
  repeat' ((first | refine Need.auto ?_ | refine Have.mk (fun _h => ?_)); conv => whnf)
  (first | refine Br.lt (fun h1 => ?_) (fun h1 => ?_) | refine Br.le (fun h1 => ?_) (fun h1 => ?_) | refine Br.gt (fun h1 => ?_) (fun h1 => ?_) | refine Br.ge (fun h1 => ?_) (fun h1 => ?_) | refine Br.eq (fun h1 => ?_) (fun h1 => ?_) | refine Br.ne (fun h1 => ?_) (fun h1 => ?_) | refine Br.not (fun h1 => ?_) (fun h1 => ?_) | refine Br.mk (fun h1 => ?_) (fun h1 => ?_)) <;> (try simp only [Int.toNat_natCast] at h1) <;> (conv => whnf)
  · repeat' ((first | refine Need.auto ?_ | refine Have.mk (fun _h => ?_)); conv => whnf)
    exact RM.imm rfl (wkS.t ⟨wkC.str (by rw [encR, if_neg h1]; rfl), wkC.imm rfl, trivial⟩)
  · repeat' ((first | refine Need.auto ?_ | refine Have.mk (fun _h => ?_)); conv => whnf)
    obtain ⟨hk, hr, hp⟩ := checkR_ok h1
    refine Dr.mk hΓ hMix (by kernel_rfl) ?_; conv => whnf
    repeat' ((first | refine Need.auto ?_ | refine Have.mk (fun _h => ?_)); conv => whnf)
    have lit2 : ({ data := #[90, 65] } : ByteArray).size = 2 := rfl
    have lit1 : ({ data := #[0] } : ByteArray).size = 1 := rfl
    refine CallP.mk number1_body (number1_spec r.kind (by omega) ) (leA.refl rfl) rfl ?_
    conv => whnf
    refine Need.mk (by simp only [ByteArray.size_append, putS_size, padS_size _ hp, lit2, lit1]; omega) ?_
    conv => whnf
    repeat' ((first | refine Need.auto ?_ | refine Have.mk (fun _h => ?_)); conv => whnf)
    refine CallP.mk number1_body (number1_spec r.payload.size (by omega) ) (leA.refl rfl) rfl ?_
    conv => whnf
    refine Need.mk (by simp only [ByteArray.size_append, putS_size, padS_size _ hp, lit2, lit1]; omega) ?_
    conv => whnf
    repeat' ((first | refine Need.auto ?_ | refine Have.mk (fun _h => ?_)); conv => whnf)
    refine CallP.mk number4_body (number4_spec r.block (by omega) ) (leA.refl rfl) rfl ?_
    conv => whnf
    refine Need.mk (by simp only [ByteArray.size_append, putS_size, padS_size _ hp, lit2, lit1]; omega) ?_
    conv => whnf
    repeat' ((first | refine Need.auto ?_ | refine Have.mk (fun _h => ?_)); conv => whnf)
    refine CallP.mk number6_body (number6_spec r.version (by omega) ) (leA.refl rfl) rfl ?_
    conv => whnf
    refine Need.mk (by simp only [ByteArray.size_append, putS_size, padS_size _ hp, lit2, lit1]; omega) ?_
    conv => whnf
    repeat' ((first | refine Need.auto ?_ | refine Have.mk (fun _h => ?_)); conv => whnf)
    refine CallP.mk number1_body (number1_spec r.move (by omega) ) (leA.refl rfl) rfl ?_
    conv => whnf
    refine Need.mk (by simp only [ByteArray.size_append, putS_size, padS_size _ hp, lit2, lit1]; omega) ?_
    conv => whnf
    repeat' ((first | refine Need.auto ?_ | refine Have.mk (fun _h => ?_)); conv => whnf)
    refine Need.mk (by simp only [ByteArray.size_append, putS_size, padS_size _ hp, lit2, lit1]; omega) ?_
    conv => whnf
    repeat' ((first | refine Need.auto ?_ | refine Have.mk (fun _h => ?_)); conv => whnf)
    refine CallP.mk pad_body (pad_spec r.payload hp ) (leA.refl rfl) rfl ?_
    conv => whnf
    refine Need.mk (by simp only [ByteArray.size_append, putS_size, padS_size _ hp, lit2, lit1]; omega) ?_
    conv => whnf
    repeat' ((first | refine Need.auto ?_ | refine Have.mk (fun _h => ?_)); conv => whnf)
    have hb := bodyR_size hp
    refine CallN.pure seal_body (seal_spec (bodyR r) (by omega) ) (leA.refl rfl) rfl ?_
    conv => whnf
    repeat' ((first | refine Need.auto ?_ | refine Have.mk (fun _h => ?_)); conv => whnf)
    exact RM.imm rfl (wkS.t ⟨wkC.str (by rw [encR, if_pos h1]), wkC.int h1.symm, trivial⟩)
theorem encode_body : HasBody Try.prog 53 := ⟨⟨Try.f53, Try.func53, rfl, by kernel_rfl⟩⟩

theorem sector_spec (r : Rec) : PSpec Try.prog 27 [r.s] (.c (.str (encR r))) := by
  refine CSpec.of_vc hΓ Try.func27 rfl 11 0 [.tmp 2] Try.ntmps27 rfl (by rw [Try.results27]) rfl ?_
  conv => whnf
  refine CallN.pure encode_body (encode_spec r ) (leA.refl rfl) rfl ?_
  conv => whnf
  repeat' ((first | refine Need.auto ?_ | refine Have.mk (fun _h => ?_)); conv => whnf)
theorem sector_body : HasBody Try.prog 27 := ⟨⟨Try.f27, Try.func27, rfl, by kernel_rfl⟩⟩
end Go.Proofs
end
