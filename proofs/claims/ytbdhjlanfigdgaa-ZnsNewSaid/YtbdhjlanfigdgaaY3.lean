import Derived.Test.YtbdhjlanfigdgaaY2
open Go Go.Am
namespace Go.Proofs
theorem checkR_spec (r : Rec) : PSpec Try.prog 69 [r.s] (.c (.int .i64 (checkR r))) := by
  refine CSpec.of_vc hΓ Try.func69 rfl 67 0 [.tmp 2] Try.ntmps69 rfl (by rw [Try.results69]) rfl ?_
  conv => whnf
  repeat' ((first | refine Need.mk (by first | (simp; done) | omega | decide | (intro _h; decide) | (simp_all; done) | (intro _h; simp_all; done) | (simp_all; omega)) ?_ | refine Have.mk (fun _h => ?_)); conv => whnf)
  (first | refine Br.lt (fun h1 => ?_) (fun h1 => ?_) | refine Br.le (fun h1 => ?_) (fun h1 => ?_) | refine Br.gt (fun h1 => ?_) (fun h1 => ?_) | refine Br.ge (fun h1 => ?_) (fun h1 => ?_) | refine Br.eq (fun h1 => ?_) (fun h1 => ?_) | refine Br.ne (fun h1 => ?_) (fun h1 => ?_) | refine Br.not (fun h1 => ?_) (fun h1 => ?_) | (refine Br.mk (fun h1 => ?_) (fun h1 => ?_) <;> simp [-List.length_eq_zero_iff, -List.getD_eq_getElem?_getD] at h1)) <;> (conv => whnf)
  · repeat' ((first | refine Need.mk (by first | (simp; done) | omega | decide | (intro _h; decide) | (simp_all; done) | (intro _h; simp_all; done) | (simp_all; omega)) ?_ | refine Have.mk (fun _h => ?_)); conv => whnf)
    have : decide (1 ≤ r.kind ∧ r.kind ≤ 6) = false := by simp only [decide_eq_false_iff_not]; omega
    simp only [checkR, this]; rfl
  · repeat' ((first | refine Need.mk (by first | (simp; done) | omega | decide | (intro _h; decide) | (simp_all; done) | (intro _h; simp_all; done) | (simp_all; omega)) ?_ | refine Have.mk (fun _h => ?_)); conv => whnf)
    have e1 : decide (1 ≤ r.kind ∧ r.kind ≤ 6) = true := by simp only [decide_eq_true_eq]; omega
    (first | refine Br.lt (fun h2 => ?_) (fun h2 => ?_) | refine Br.le (fun h2 => ?_) (fun h2 => ?_) | refine Br.gt (fun h2 => ?_) (fun h2 => ?_) | refine Br.ge (fun h2 => ?_) (fun h2 => ?_) | refine Br.eq (fun h2 => ?_) (fun h2 => ?_) | refine Br.ne (fun h2 => ?_) (fun h2 => ?_) | refine Br.not (fun h2 => ?_) (fun h2 => ?_) | (refine Br.mk (fun h2 => ?_) (fun h2 => ?_) <;> simp [-List.length_eq_zero_iff, -List.getD_eq_getElem?_getD] at h2)) <;> (conv => whnf)
    · repeat' ((first | refine Need.mk (by first | (simp; done) | omega | decide | (intro _h; decide) | (simp_all; done) | (intro _h; simp_all; done) | (simp_all; omega)) ?_ | refine Have.mk (fun _h => ?_)); conv => whnf)
      have : decide (0 ≤ r.block ∧ r.block ≤ 4294967295 ∧ 0 ≤ r.version ∧ r.version ≤ 1099511627776 ∧ 0 ≤ r.move ∧ r.move ≤ 255) = false := by simp only [decide_eq_false_iff_not]; omega
      simp only [checkR, e1, this]; rfl
    · repeat' ((first | refine Need.mk (by first | (simp; done) | omega | decide | (intro _h; decide) | (simp_all; done) | (intro _h; simp_all; done) | (simp_all; omega)) ?_ | refine Have.mk (fun _h => ?_)); conv => whnf)
      have e2 : decide (0 ≤ r.block ∧ r.block ≤ 4294967295 ∧ 0 ≤ r.version ∧ r.version ≤ 1099511627776 ∧ 0 ≤ r.move ∧ r.move ≤ 255) = true := by simp only [decide_eq_true_eq]; omega
      have hz : r.payload = ⟨#[]⟩ ↔ r.payload.size = 0 := ⟨fun h => by rw [h]; rfl, size0⟩
      (first | refine Br.lt (fun h3 => ?_) (fun h3 => ?_) | refine Br.le (fun h3 => ?_) (fun h3 => ?_) | refine Br.gt (fun h3 => ?_) (fun h3 => ?_) | refine Br.ge (fun h3 => ?_) (fun h3 => ?_) | refine Br.eq (fun h3 => ?_) (fun h3 => ?_) | refine Br.ne (fun h3 => ?_) (fun h3 => ?_) | refine Br.not (fun h3 => ?_) (fun h3 => ?_) | refine Br.mk (fun h3 => ?_) (fun h3 => ?_)) <;> (conv => whnf)
      · repeat' ((first | refine Need.mk (by first | (simp; done) | omega | decide | (intro _h; decide) | (simp_all; done) | (intro _h; simp_all; done) | (simp_all; omega)) ?_ | refine Have.mk (fun _h => ?_)); conv => whnf)
        have : decide (r.payload.size ≤ 20 ∧ (r.kind = 1 → r.payload.size = 16) ∧ (r.kind = 2 → r.payload.size = 0)) = false := by
          simp [Bool.cond_eq_ite] at h3
          simp only [decide_eq_false_iff_not]
          rw [hz] at h3
          omega
        simp only [checkR, e1, e2, this]; rfl
      · repeat' ((first | refine Need.mk (by first | (simp; done) | omega | decide | (intro _h; decide) | (simp_all; done) | (intro _h; simp_all; done) | (simp_all; omega)) ?_ | refine Have.mk (fun _h => ?_)); conv => whnf)
        have : decide (r.payload.size ≤ 20 ∧ (r.kind = 1 → r.payload.size = 16) ∧ (r.kind = 2 → r.payload.size = 0)) = true := by
          simp [Bool.cond_eq_ite] at h3
          simp only [decide_eq_true_eq]
          rw [hz] at h3
          omega
        simp only [checkR, e1, e2, this]; rfl
theorem checkR_body : HasBody Try.prog 69 := ⟨⟨Try.f69, Try.func69, rfl, by kernel_rfl⟩⟩

theorem encode_spec (r : Rec) : PSpec Try.prog 53 [r.s] (.t [.inl (.str (encR r)), .inl (.int .i64 (checkR r))]) := by
  refine PSpec.rm ?_
  refine CSpec.of_vc hΓ Try.func53 rfl 39 0 [.tmp 2, .tmp 3] Try.ntmps53 rfl (by rw [Try.results53]) rfl ?_
  conv => whnf
  refine CallN.pure checkR_body (checkR_spec r ) (leA.refl rfl) rfl ?_
  conv => whnf
  repeat' ((first | refine Need.mk (by first | (simp; done) | omega | decide | (intro _h; decide) | (simp_all; done) | (intro _h; simp_all; done) | (simp_all; omega)) ?_ | refine Have.mk (fun _h => ?_)); conv => whnf)
  (first | refine Br.lt (fun h1 => ?_) (fun h1 => ?_) | refine Br.le (fun h1 => ?_) (fun h1 => ?_) | refine Br.gt (fun h1 => ?_) (fun h1 => ?_) | refine Br.ge (fun h1 => ?_) (fun h1 => ?_) | refine Br.eq (fun h1 => ?_) (fun h1 => ?_) | refine Br.ne (fun h1 => ?_) (fun h1 => ?_) | refine Br.not (fun h1 => ?_) (fun h1 => ?_) | refine Br.mk (fun h1 => ?_) (fun h1 => ?_)) <;> (conv => whnf)
  · repeat' ((first | refine Need.mk (by first | (simp; done) | omega | decide | (intro _h; decide) | (simp_all; done) | (intro _h; simp_all; done) | (simp_all; omega)) ?_ | refine Have.mk (fun _h => ?_)); conv => whnf)
    exact RM.imm rfl (wkS.t ⟨wkC.str (by rw [encR, if_neg h1]; rfl), wkC.imm rfl, trivial⟩)
  · repeat' ((first | refine Need.mk (by first | (simp; done) | omega | decide | (intro _h; decide) | (simp_all; done) | (intro _h; simp_all; done) | (simp_all; omega)) ?_ | refine Have.mk (fun _h => ?_)); conv => whnf)
    obtain ⟨hk, hr, hp⟩ := checkR_ok h1
    refine Dr.mk hΓ hMix (by kernel_rfl) ?_; conv => whnf
    repeat' ((first | refine Need.mk (by first | (simp; done) | omega | decide | (intro _h; decide) | (simp_all; done) | (intro _h; simp_all; done) | (simp_all; omega)) ?_ | refine Have.mk (fun _h => ?_)); conv => whnf)
    have lit2 : ({ data := #[90, 65] } : ByteArray).size = 2 := rfl
    have lit1 : ({ data := #[0] } : ByteArray).size = 1 := rfl
    refine CallP.mk number1_body (number1_spec r.kind (by omega) ) (leA.refl rfl) rfl ?_
    conv => whnf
    refine Need.mk (by simp only [ByteArray.size_append, putS_size, padS_size _ hp, lit2, lit1]; omega) ?_
    conv => whnf
    repeat' ((first | refine Need.mk (by first | (simp; done) | omega | decide | (intro _h; decide) | (simp_all; done) | (intro _h; simp_all; done) | (simp_all; omega)) ?_ | refine Have.mk (fun _h => ?_)); conv => whnf)
    refine CallP.mk number1_body (number1_spec r.payload.size (by omega) ) (leA.refl rfl) rfl ?_
    conv => whnf
    refine Need.mk (by simp only [ByteArray.size_append, putS_size, padS_size _ hp, lit2, lit1]; omega) ?_
    conv => whnf
    repeat' ((first | refine Need.mk (by first | (simp; done) | omega | decide | (intro _h; decide) | (simp_all; done) | (intro _h; simp_all; done) | (simp_all; omega)) ?_ | refine Have.mk (fun _h => ?_)); conv => whnf)
    refine CallP.mk number4_body (number4_spec r.block (by omega) ) (leA.refl rfl) rfl ?_
    conv => whnf
    refine Need.mk (by simp only [ByteArray.size_append, putS_size, padS_size _ hp, lit2, lit1]; omega) ?_
    conv => whnf
    repeat' ((first | refine Need.mk (by first | (simp; done) | omega | decide | (intro _h; decide) | (simp_all; done) | (intro _h; simp_all; done) | (simp_all; omega)) ?_ | refine Have.mk (fun _h => ?_)); conv => whnf)
    refine CallP.mk number6_body (number6_spec r.version (by omega) ) (leA.refl rfl) rfl ?_
    conv => whnf
    refine Need.mk (by simp only [ByteArray.size_append, putS_size, padS_size _ hp, lit2, lit1]; omega) ?_
    conv => whnf
    repeat' ((first | refine Need.mk (by first | (simp; done) | omega | decide | (intro _h; decide) | (simp_all; done) | (intro _h; simp_all; done) | (simp_all; omega)) ?_ | refine Have.mk (fun _h => ?_)); conv => whnf)
    refine CallP.mk number1_body (number1_spec r.move (by omega) ) (leA.refl rfl) rfl ?_
    conv => whnf
    refine Need.mk (by simp only [ByteArray.size_append, putS_size, padS_size _ hp, lit2, lit1]; omega) ?_
    conv => whnf
    repeat' ((first | refine Need.mk (by first | (simp; done) | omega | decide | (intro _h; decide) | (simp_all; done) | (intro _h; simp_all; done) | (simp_all; omega)) ?_ | refine Have.mk (fun _h => ?_)); conv => whnf)
    refine Need.mk (by simp only [ByteArray.size_append, putS_size, padS_size _ hp, lit2, lit1]; omega) ?_
    conv => whnf
    repeat' ((first | refine Need.mk (by first | (simp; done) | omega | decide | (intro _h; decide) | (simp_all; done) | (intro _h; simp_all; done) | (simp_all; omega)) ?_ | refine Have.mk (fun _h => ?_)); conv => whnf)
    refine CallP.mk pad_body (pad_spec r.payload hp ) (leA.refl rfl) rfl ?_
    conv => whnf
    refine Need.mk (by simp only [ByteArray.size_append, putS_size, padS_size _ hp, lit2, lit1]; omega) ?_
    conv => whnf
    repeat' ((first | refine Need.mk (by first | (simp; done) | omega | decide | (intro _h; decide) | (simp_all; done) | (intro _h; simp_all; done) | (simp_all; omega)) ?_ | refine Have.mk (fun _h => ?_)); conv => whnf)
    have hb := bodyR_size hp
    refine CallN.pure seal_body (seal_spec (bodyR r) (by omega) ) (leA.refl rfl) rfl ?_
    conv => whnf
    repeat' ((first | refine Need.mk (by first | (simp; done) | omega | decide | (intro _h; decide) | (simp_all; done) | (intro _h; simp_all; done) | (simp_all; omega)) ?_ | refine Have.mk (fun _h => ?_)); conv => whnf)
    exact RM.imm rfl (wkS.t ⟨wkC.str (by rw [encR, if_pos h1]), wkC.int h1.symm, trivial⟩)
theorem encode_body : HasBody Try.prog 53 := ⟨⟨Try.f53, Try.func53, rfl, by kernel_rfl⟩⟩

theorem sector_spec (r : Rec) : PSpec Try.prog 27 [r.s] (.c (.str (encR r))) := by
  refine CSpec.of_vc hΓ Try.func27 rfl 11 0 [.tmp 2] Try.ntmps27 rfl (by rw [Try.results27]) rfl ?_
  conv => whnf
  refine CallN.pure encode_body (encode_spec r ) (leA.refl rfl) rfl ?_
  conv => whnf
  repeat' ((first | refine Need.mk (by first | (simp; done) | omega | decide | (intro _h; decide) | (simp_all; done) | (intro _h; simp_all; done) | (simp_all; omega)) ?_ | refine Have.mk (fun _h => ?_)); conv => whnf)
theorem sector_body : HasBody Try.prog 27 := ⟨⟨Try.f27, Try.func27, rfl, by kernel_rfl⟩⟩
end Go.Proofs
