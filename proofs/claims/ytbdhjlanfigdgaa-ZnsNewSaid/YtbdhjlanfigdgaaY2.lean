import Derived.Test.YtbdhjlanfigdgaaY1
open Go Go.Am
namespace Go.Proofs
theorem add_spec (sum : Int) (b : ByteArray) (hb : b.size ≤ 1000000) : PSpec Try.prog 80 [.c (.int .u32 sum), .c (.str b)] (.c (.int .u32 (addU sum b))) := by
  refine CSpec.of_vc hΓ Try.func80 rfl 37 0 [.tmp 4] Try.ntmps80 rfl (by rw [Try.results80]) rfl ?_
  conv => whnf
  repeat' ((first | refine Need.mk (by first | (simp; done) | omega | decide | (intro _h; decide) | (simp_all; done) | (intro _h; simp_all; done) | (simp_all; omega)) ?_ | refine Have.mk (fun _h => ?_)); conv => whnf)
  refine Lp.mk hΓ (ι := Nat) (fun k => [(6, .c (.int .i64 k)), (5, .c (.int .u32 (crcTo sum b k))), (1, .c (.str b))]) (fun _ => []) (fun k => k ≤ b.size) (fun k => b.size - k) 0 (Nat.zero_le _) ?_ ?_
  · exact Mv.mk' 0 rfl trivial ⟨wkS.imm rfl, wkS.imm rfl, wkS.imm rfl, trivial⟩ (Nat.zero_le _)
  · intro k hk
    conv => whnf
    repeat' ((first | refine Need.mk (by first | (simp; done) | omega | decide | (intro _h; decide) | (simp_all; done) | (intro _h; simp_all; done) | (simp_all; omega)) ?_ | refine Have.mk (fun _h => ?_)); conv => whnf)
    (first | refine Br.lt (fun h => ?_) (fun h => ?_) | refine Br.le (fun h => ?_) (fun h => ?_) | refine Br.gt (fun h => ?_) (fun h => ?_) | refine Br.ge (fun h => ?_) (fun h => ?_) | refine Br.eq (fun h => ?_) (fun h => ?_) | refine Br.ne (fun h => ?_) (fun h => ?_) | refine Br.not (fun h => ?_) (fun h => ?_) | refine Br.mk (fun h => ?_) (fun h => ?_)) <;> (conv => whnf)
    · repeat' ((first | refine Need.mk (by first | (simp; done) | omega | decide | (intro _h; decide) | (simp_all; done) | (intro _h; simp_all; done) | (simp_all; omega)) ?_ | refine Have.mk (fun _h => ?_)); conv => whnf)
      refine Lp.mk hΓ (ι := Nat) (fun j => [(7, .c (.int .i64 j)), (5, .c (.int .u32 (iterI crcBit j (xorU (crcTo sum b k) (byteAt b k))))), (6, .c (.int .i64 k)), (1, .c (.str b))]) (fun _ => []) (fun j => j ≤ 8) (fun j => 8 - j) 0 (Nat.zero_le _) ?_ ?_
      · exact Mv.mk' 0 rfl trivial ⟨wkS.imm rfl, wkS.imm rfl, wkS.imm rfl, wkS.imm rfl, trivial⟩ (Nat.zero_le _)
      · intro j hj
        conv => whnf
        repeat' ((first | refine Need.mk (by first | (simp; done) | omega | decide | (intro _h; decide) | (simp_all; done) | (intro _h; simp_all; done) | (simp_all; omega)) ?_ | refine Have.mk (fun _h => ?_)); conv => whnf)
        have w1 := wrap_id (↑j + 1) (by omega) (by omega)
        (first | refine Br.lt (fun h2 => ?_) (fun h2 => ?_) | refine Br.le (fun h2 => ?_) (fun h2 => ?_) | refine Br.gt (fun h2 => ?_) (fun h2 => ?_) | refine Br.ge (fun h2 => ?_) (fun h2 => ?_) | refine Br.eq (fun h2 => ?_) (fun h2 => ?_) | refine Br.ne (fun h2 => ?_) (fun h2 => ?_) | refine Br.not (fun h2 => ?_) (fun h2 => ?_) | refine Br.mk (fun h2 => ?_) (fun h2 => ?_)) <;> (conv => whnf)
        · repeat' ((first | refine Need.mk (by first | (simp; done) | omega | decide | (intro _h; decide) | (simp_all; done) | (intro _h; simp_all; done) | (simp_all; omega)) ?_ | refine Have.mk (fun _h => ?_)); conv => whnf)
          (first | refine Br.lt (fun h3 => ?_) (fun h3 => ?_) | refine Br.le (fun h3 => ?_) (fun h3 => ?_) | refine Br.gt (fun h3 => ?_) (fun h3 => ?_) | refine Br.ge (fun h3 => ?_) (fun h3 => ?_) | refine Br.eq (fun h3 => ?_) (fun h3 => ?_) | refine Br.ne (fun h3 => ?_) (fun h3 => ?_) | refine Br.not (fun h3 => ?_) (fun h3 => ?_) | refine Br.mk (fun h3 => ?_) (fun h3 => ?_)) <;> (conv => whnf)
          · repeat' ((first | refine Need.mk (by first | (simp; done) | omega | decide | (intro _h; decide) | (simp_all; done) | (intro _h; simp_all; done) | (simp_all; omega)) ?_ | refine Have.mk (fun _h => ?_)); conv => whnf)
            exact ⟨j + 1, by omega, by omega, Mv.mk' 0 rfl trivial ⟨wkS.c (wkC.int (by rw [w1]; rfl)), wkS.c (wkC.int (by simp only [iterI]; exact (if_pos h3).symm)), wkS.imm rfl, wkS.imm rfl, trivial⟩ (Nat.zero_le _)⟩
          · repeat' ((first | refine Need.mk (by first | (simp; done) | omega | decide | (intro _h; decide) | (simp_all; done) | (intro _h; simp_all; done) | (simp_all; omega)) ?_ | refine Have.mk (fun _h => ?_)); conv => whnf)
            exact ⟨j + 1, by omega, by omega, Mv.mk' 0 rfl trivial ⟨wkS.c (wkC.int (by rw [w1]; rfl)), wkS.c (wkC.int (by simp only [iterI]; exact (if_neg h3).symm)), wkS.imm rfl, wkS.imm rfl, trivial⟩ (Nat.zero_le _)⟩
        · repeat' ((first | refine Need.mk (by first | (simp; done) | omega | decide | (intro _h; decide) | (simp_all; done) | (intro _h; simp_all; done) | (simp_all; omega)) ?_ | refine Have.mk (fun _h => ?_)); conv => whnf)
          have : j = 8 := by omega
          subst this
          have w0 := wrap_id (↑k + 1) (by omega) (by omega)
          exact ⟨k + 1, by omega, by omega, Mv.mk' 0 rfl trivial ⟨wkS.c (wkC.int (by rw [w0]; rfl)), wkS.imm rfl, wkS.imm rfl, trivial⟩ (Nat.zero_le _)⟩
    · repeat' ((first | refine Need.mk (by first | (simp; done) | omega | decide | (intro _h; decide) | (simp_all; done) | (intro _h; simp_all; done) | (simp_all; omega)) ?_ | refine Have.mk (fun _h => ?_)); conv => whnf)
      have : k = b.size := by omega
      subst this
      rfl
theorem add_body : HasBody Try.prog 80 := ⟨⟨Try.f80, Try.func80, rfl, by kernel_rfl⟩⟩

theorem sum_spec (b : ByteArray) (hb : b.size ≤ 1000000) : PSpec Try.prog 79 [.c (.str b)] (.c (.int .u32 (addU 0 b))) := by
  refine CSpec.of_vc hΓ Try.func79 rfl 5 0 [.tmp 2] Try.ntmps79 rfl (by rw [Try.results79]) rfl ?_
  conv => whnf
  refine CallN.pure add_body (add_spec 0 b hb ) (leA.refl rfl) rfl ?_
  conv => whnf
  repeat' ((first | refine Need.mk (by first | (simp; done) | omega | decide | (intro _h; decide) | (simp_all; done) | (intro _h; simp_all; done) | (simp_all; omega)) ?_ | refine Have.mk (fun _h => ?_)); conv => whnf)
theorem sum_body : HasBody Try.prog 79 := ⟨⟨Try.f79, Try.func79, rfl, by kernel_rfl⟩⟩

theorem seal_spec (b : ByteArray) (hb : b.size ≤ 1000000) : PSpec Try.prog 72 [.c (.str b)] (.c (.str (b ++ putS (IntKind.i64.wrap (addU 0 b)) 4))) := by
  refine CSpec.of_vc hΓ Try.func72 rfl 9 0 [.tmp 2] Try.ntmps72 rfl (by rw [Try.results72]) rfl ?_
  conv => whnf
  refine CallN.pure sum_body (sum_spec b hb ) (leA.refl rfl) rfl ?_
  conv => whnf
  have hl := addU_lt 0 b
  refine CallN.pure number4_body (number4_spec _ (by rw [wrap_id _ (by omega) (by omega)]; exact hl) ) (leA.refl rfl) rfl ?_
  conv => whnf
  refine Need.mk (by rw [putS_size]; omega) ?_
  conv => whnf
  repeat' ((first | refine Need.mk (by first | (simp; done) | omega | decide | (intro _h; decide) | (simp_all; done) | (intro _h; simp_all; done) | (simp_all; omega)) ?_ | refine Have.mk (fun _h => ?_)); conv => whnf)
theorem seal_body : HasBody Try.prog 72 := ⟨⟨Try.f72, Try.func72, rfl, by kernel_rfl⟩⟩

theorem pad_spec (b : ByteArray) (hb : b.size ≤ 20) : PSpec Try.prog 71 [.c (.str b), .c (.int .i64 20)] (.c (.str (padS b))) := by
  refine PSpec.rm ?_
  refine CSpec.of_vc hΓ Try.func71 rfl 18 0 [.tmp 4] Try.ntmps71 rfl (by rw [Try.results71]) rfl ?_
  conv => whnf
  repeat' ((first | refine Need.mk (by first | (simp; done) | omega | decide | (intro _h; decide) | (simp_all; done) | (intro _h; simp_all; done) | (simp_all; omega)) ?_ | refine Have.mk (fun _h => ?_)); conv => whnf)
  (first | refine Br.lt (fun h => ?_) (fun h => ?_) | refine Br.le (fun h => ?_) (fun h => ?_) | refine Br.gt (fun h => ?_) (fun h => ?_) | refine Br.ge (fun h => ?_) (fun h => ?_) | refine Br.eq (fun h => ?_) (fun h => ?_) | refine Br.ne (fun h => ?_) (fun h => ?_) | refine Br.not (fun h => ?_) (fun h => ?_) | refine Br.mk (fun h => ?_) (fun h => ?_)) <;> (conv => whnf)
  · repeat' ((first | refine Need.mk (by first | (simp; done) | omega | decide | (intro _h; decide) | (simp_all; done) | (intro _h; simp_all; done) | (simp_all; omega)) ?_ | refine Have.mk (fun _h => ?_)); conv => whnf)
    have : b.size = 20 := by omega
    exact RM.imm rfl (wkS.c (wkC.str (by simp [padS, this])))
  · repeat' ((first | refine Need.mk (by first | (simp; done) | omega | decide | (intro _h; decide) | (simp_all; done) | (intro _h; simp_all; done) | (simp_all; omega)) ?_ | refine Have.mk (fun _h => ?_)); conv => whnf)
    have w0 := wrap_id (20 - (b.size : Int)) (by omega) (by omega)
    have n0 : ((20 : Int) - (b.size : Int)).toNat = 20 - b.size := by omega
    rw [w0]
    repeat' ((first | refine Need.mk (by first | (simp; done) | omega | decide | (intro _h; decide) | (simp_all; done) | (intro _h; simp_all; done) | (simp_all; omega)) ?_ | refine Have.mk (fun _h => ?_)); conv => whnf)
    rw [n0]
    refine Need.mk (fun i hi => ⟨0, rfl⟩) ?_
    conv => whnf
    refine Need.mk (by rw [bytesOf_size]; omega) ?_
    conv => whnf
    repeat' ((first | refine Need.mk (by first | (simp; done) | omega | decide | (intro _h; decide) | (simp_all; done) | (intro _h; simp_all; done) | (simp_all; omega)) ?_ | refine Have.mk (fun _h => ?_)); conv => whnf)
    refine RM.imm rfl (wkS.c (wkC.str ?_))
    simp only [padS]
    rw [if_pos (by omega)]
    rfl
theorem pad_body : HasBody Try.prog 71 := ⟨⟨Try.f71, Try.func71, rfl, by kernel_rfl⟩⟩
end Go.Proofs
