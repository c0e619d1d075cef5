/- Part of the proofs of laws of this seat: contracts and plain lemmas; no condition is added to a statement. -/
import Derived.Test.YtbdhjlanfigdgaaEnvV
import Derived.Test.YtbdhjlanfigdgaaModsV
import Derived.Test.YtbdhjlanfigdgaaAmCV
set_option linter.unusedSimpArgs false
set_option linter.unusedVariables false
section
open Go Go.Am
namespace Go.Proofs

theorem opened_ref_spec (n : Int) : PSpec Try.prog 66 [.c (.int .i64 n)] (.c (.bool (isOpen n))) := by
  refine CSpec.of_vc hΓ Try.func66 rfl 9 0 [.tmp 2] Try.ntmps66 rfl (by rw [Try.results66]) rfl ?_
  conv => whnf
  repeat' ((first | refine Need.auto ?_ | refine Have.mk (fun _h => ?_)); conv => whnf)
  simp only [S.c.injEq, C.bool.injEq, isOpen]
  rw [Bool.eq_iff_iff]
  simp
theorem opened_ref_body : HasBody Try.prog 66 := ⟨⟨Try.f66, Try.func66, rfl, by kernel_rfl⟩⟩

theorem active_ref_spec (n : Int) : PSpec Try.prog 67 [.c (.int .i64 n)] (.c (.bool (isActive n))) := by
  refine CSpec.of_vc hΓ Try.func67 rfl 9 0 [.tmp 2] Try.ntmps67 rfl (by rw [Try.results67]) rfl ?_
  conv => whnf
  refine CallN.pure opened_ref_body (opened_ref_spec _ ) (leA.refl rfl) rfl ?_
  conv => whnf
  repeat' ((first | refine Need.auto ?_ | refine Have.mk (fun _h => ?_)); conv => whnf)
  simp only [S.c.injEq, C.bool.injEq, isOpen, isActive]
  rw [Bool.eq_iff_iff]
  simp [or_assoc]
theorem active_ref_body : HasBody Try.prog 67 := ⟨⟨Try.f67, Try.func67, rfl, by kernel_rfl⟩⟩

theorem counts_ref_spec (d : Dev) : PSpec Try.prog 47 [d.s] (.t [.inl (.int .i64 (cntOpen d.zones)), .inl (.int .i64 (cntActive d.zones))]) := by
  refine CSpec.of_vc hΓ Try.func47 rfl 34 0 [.tmp 2, .tmp 3] Try.ntmps47 rfl (by rw [Try.results47]) rfl ?_
  conv => whnf
  repeat' ((first | refine Need.auto ?_ | refine Have.mk (fun _h => ?_)); conv => whnf)
  refine Lp.mk hΓ (ι := Nat) (fun k => [(6, .c (.int .i64 k)), (4, .c (.int .i64 (cntOpen (d.zones.take k)))), (5, .c (.int .i64 (cntActive (d.zones.take k)))), (1, .c (.ptr 0 0))])
    (fun _ => [.vr [.int .i64 d.size, .int .i64 d.maxOpen, .int .i64 d.maxActive, zonesC d.zones]]) (fun k => k ≤ d.zones.length) (fun k => d.zones.length - k) 0 (Nat.zero_le _) ?_ ?_
  · exact Mv.mk' 1 rfl ⟨O.wk.vr (immL_wk rfl), trivial⟩ ⟨wkS.imm rfl, wkS.imm rfl, wkS.imm rfl, wkS.c (wkC.ptr (by decide)), trivial⟩ (Nat.zero_le _)
  · intro k hk
    conv => whnf
    repeat' ((first | refine Need.auto ?_ | refine Have.mk (fun _h => ?_)); conv => whnf)
    (first | refine Br.lt (fun h => ?_) (fun h => ?_) | refine Br.le (fun h => ?_) (fun h => ?_) | refine Br.gt (fun h => ?_) (fun h => ?_) | refine Br.ge (fun h => ?_) (fun h => ?_) | refine Br.eq (fun h => ?_) (fun h => ?_) | refine Br.ne (fun h => ?_) (fun h => ?_) | refine Br.not (fun h => ?_) (fun h => ?_) | refine Br.mk (fun h => ?_) (fun h => ?_)) <;> (try simp only [Int.toNat_natCast] at h) <;> (conv => whnf)
    · repeat' ((first | refine Need.auto ?_ | refine Have.mk (fun _h => ?_)); conv => whnf)
      refine CallN.pure opened_ref_body (opened_ref_spec _ ) (leA.refl rfl) rfl ?_
      conv => whnf
      repeat' ((first | refine Need.auto ?_ | refine Have.mk (fun _h => ?_)); conv => whnf)
      have hlt : k < d.zones.length := by omega
      have e1 := cntOpen_snoc d.zones k hlt
      have e2 := cntActive_snoc d.zones k hlt
      have l1 := cntOpen_le (d.zones.take (k + 1))
      have l2 := cntActive_le (d.zones.take (k + 1))
      have l3 : (d.zones.take (k + 1)).length ≤ d.zones.length := by simp; omega
      have w0 := wrap_id (↑k + 1) (by omega) (by omega)
      (first | refine Br.lt (fun ho => ?_) (fun ho => ?_) | refine Br.le (fun ho => ?_) (fun ho => ?_) | refine Br.gt (fun ho => ?_) (fun ho => ?_) | refine Br.ge (fun ho => ?_) (fun ho => ?_) | refine Br.eq (fun ho => ?_) (fun ho => ?_) | refine Br.ne (fun ho => ?_) (fun ho => ?_) | refine Br.not (fun ho => ?_) (fun ho => ?_) | refine Br.mk (fun ho => ?_) (fun ho => ?_)) <;> (try simp only [Int.toNat_natCast] at ho) <;> (conv => whnf)
      · repeat' ((first | refine Need.auto ?_ | refine Have.mk (fun _h => ?_)); conv => whnf)
        refine CallN.pure active_ref_body (active_ref_spec _ ) (leA.refl rfl) rfl ?_
        conv => whnf
        repeat' ((first | refine Need.auto ?_ | refine Have.mk (fun _h => ?_)); conv => whnf)
        try simp only [Int.toNat_natCast] at ho
        rw [ho] at e1
        have w1 := wrap_id (↑(cntOpen (d.zones.take k)) + 1) (by omega) (by simp at e1; omega)
        (first | refine Br.lt (fun ha => ?_) (fun ha => ?_) | refine Br.le (fun ha => ?_) (fun ha => ?_) | refine Br.gt (fun ha => ?_) (fun ha => ?_) | refine Br.ge (fun ha => ?_) (fun ha => ?_) | refine Br.eq (fun ha => ?_) (fun ha => ?_) | refine Br.ne (fun ha => ?_) (fun ha => ?_) | refine Br.not (fun ha => ?_) (fun ha => ?_) | refine Br.mk (fun ha => ?_) (fun ha => ?_)) <;> (try simp only [Int.toNat_natCast] at ha) <;> (conv => whnf)
        · repeat' ((first | refine Need.auto ?_ | refine Have.mk (fun _h => ?_)); conv => whnf)
          try simp only [Int.toNat_natCast] at ha
          rw [ha] at e2
          have w2 := wrap_id (↑(cntActive (d.zones.take k)) + 1) (by omega) (by simp at e2; omega)
          refine ⟨k + 1, by omega, by omega, Mv.mk' 1 rfl ⟨O.wk.vr (immL_wk rfl), trivial⟩ ⟨wkS.c (wkC.int (by rw [w0]; rfl)), wkS.c (wkC.int (by rw [w1, e1]; rfl)), wkS.c (wkC.int (by rw [w2, e2]; rfl)), wkS.c (wkC.ptr (by decide)), trivial⟩ (Nat.zero_le _)⟩
        · repeat' ((first | refine Need.auto ?_ | refine Have.mk (fun _h => ?_)); conv => whnf)
          try simp only [Int.toNat_natCast] at ha
          rw [ha] at e2
          refine ⟨k + 1, by omega, by omega, Mv.mk' 1 rfl ⟨O.wk.vr (immL_wk rfl), trivial⟩ ⟨wkS.c (wkC.int (by rw [w0]; rfl)), wkS.c (wkC.int (by rw [w1, e1]; rfl)), wkS.c (wkC.int (by rw [e2]; rfl)), wkS.c (wkC.ptr (by decide)), trivial⟩ (Nat.zero_le _)⟩
      · repeat' ((first | refine Need.auto ?_ | refine Have.mk (fun _h => ?_)); conv => whnf)
        refine CallN.pure active_ref_body (active_ref_spec _ ) (leA.refl rfl) rfl ?_
        conv => whnf
        repeat' ((first | refine Need.auto ?_ | refine Have.mk (fun _h => ?_)); conv => whnf)
        try simp only [Int.toNat_natCast] at ho
        rw [ho] at e1
        (first | refine Br.lt (fun ha => ?_) (fun ha => ?_) | refine Br.le (fun ha => ?_) (fun ha => ?_) | refine Br.gt (fun ha => ?_) (fun ha => ?_) | refine Br.ge (fun ha => ?_) (fun ha => ?_) | refine Br.eq (fun ha => ?_) (fun ha => ?_) | refine Br.ne (fun ha => ?_) (fun ha => ?_) | refine Br.not (fun ha => ?_) (fun ha => ?_) | refine Br.mk (fun ha => ?_) (fun ha => ?_)) <;> (try simp only [Int.toNat_natCast] at ha) <;> (conv => whnf)
        · repeat' ((first | refine Need.auto ?_ | refine Have.mk (fun _h => ?_)); conv => whnf)
          try simp only [Int.toNat_natCast] at ha
          rw [ha] at e2
          have w2 := wrap_id (↑(cntActive (d.zones.take k)) + 1) (by omega) (by simp at e2; omega)
          refine ⟨k + 1, by omega, by omega, Mv.mk' 1 rfl ⟨O.wk.vr (immL_wk rfl), trivial⟩ ⟨wkS.c (wkC.int (by rw [w0]; rfl)), wkS.c (wkC.int (by rw [e1]; rfl)), wkS.c (wkC.int (by rw [w2, e2]; rfl)), wkS.c (wkC.ptr (by decide)), trivial⟩ (Nat.zero_le _)⟩
        · repeat' ((first | refine Need.auto ?_ | refine Have.mk (fun _h => ?_)); conv => whnf)
          try simp only [Int.toNat_natCast] at ha
          rw [ha] at e2
          refine ⟨k + 1, by omega, by omega, Mv.mk' 1 rfl ⟨O.wk.vr (immL_wk rfl), trivial⟩ ⟨wkS.c (wkC.int (by rw [w0]; rfl)), wkS.c (wkC.int (by rw [e1]; rfl)), wkS.c (wkC.int (by rw [e2]; rfl)), wkS.c (wkC.ptr (by decide)), trivial⟩ (Nat.zero_le _)⟩
    · repeat' ((first | refine Need.auto ?_ | refine Have.mk (fun _h => ?_)); conv => whnf)
      have : k = d.zones.length := by omega
      subst this
      simp
theorem counts_ref_body : HasBody Try.prog 47 := ⟨⟨Try.f47, Try.func47, rfl, by kernel_rfl⟩⟩

theorem right_ref_spec (z : Zone) (size : Int) : PSpec Try.prog 46 [z.s, .c (.int .i64 size)] (.c (.bool (Am.right z size))) := by
  have F : ∀ (b : Bool), Am.right z size = b → (S.c (C.bool b) = S.c (.bool (Am.right z size))) := fun b h => by rw [h]
  refine CSpec.of_vc hΓ Try.func46 rfl 62 0 [.tmp 4] Try.ntmps46 rfl (by rw [Try.results46]) rfl ?_
  conv => whnf
  repeat' ((first | refine Need.auto ?_ | refine Have.mk (fun _h => ?_)); conv => whnf)
  (first | refine Br.lt (fun h1 => ?_) (fun h1 => ?_) | refine Br.le (fun h1 => ?_) (fun h1 => ?_) | refine Br.gt (fun h1 => ?_) (fun h1 => ?_) | refine Br.ge (fun h1 => ?_) (fun h1 => ?_) | refine Br.eq (fun h1 => ?_) (fun h1 => ?_) | refine Br.ne (fun h1 => ?_) (fun h1 => ?_) | refine Br.not (fun h1 => ?_) (fun h1 => ?_) | (refine Br.mk (fun h1 => ?_) (fun h1 => ?_) <;> simp [-List.length_eq_zero_iff, -List.getD_eq_getElem?_getD] at h1)) <;> (try simp only [Int.toNat_natCast] at h1) <;> (conv => whnf)
  · repeat' ((first | refine Need.auto ?_ | refine Have.mk (fun _h => ?_)); conv => whnf)
    refine F _ ?_
    simp only [Am.right, Bool.and_eq_false_iff, decide_eq_false_iff_not]; left; omega
  · repeat' ((first | refine Need.auto ?_ | refine Have.mk (fun _h => ?_)); conv => whnf)
    refine Lp.mk hΓ (ι := Nat) (fun k => [(6, .c (.int .i64 k)), (5, .c (.int .i64 z.sectors.length)), (2, .c (.ptr 0 0)), (1, .c (.int .i64 size))]) (fun _ => [.vr [.int .i64 z.state, .int .i64 z.durable, strsC z.sectors]]) (fun k => k ≤ z.sectors.length ∧ secsOk (z.sectors.take k) = true) (fun k => z.sectors.length - k) 0 ⟨Nat.zero_le _, rfl⟩ ?_ ?_
    · exact Mv.mk' 1 rfl ⟨O.wk.vr (immL_wk rfl), trivial⟩ ⟨wkS.imm rfl, wkS.imm rfl, wkS.c (wkC.ptr (by decide)), wkS.imm rfl, trivial⟩ (Nat.zero_le _)
    · rintro k ⟨hk, hk2⟩
      conv => whnf
      repeat' ((first | refine Need.auto ?_ | refine Have.mk (fun _h => ?_)); conv => whnf)
      (first | refine Br.lt (fun h => ?_) (fun h => ?_) | refine Br.le (fun h => ?_) (fun h => ?_) | refine Br.gt (fun h => ?_) (fun h => ?_) | refine Br.ge (fun h => ?_) (fun h => ?_) | refine Br.eq (fun h => ?_) (fun h => ?_) | refine Br.ne (fun h => ?_) (fun h => ?_) | refine Br.not (fun h => ?_) (fun h => ?_) | refine Br.mk (fun h => ?_) (fun h => ?_)) <;> (try simp only [Int.toNat_natCast] at h) <;> (conv => whnf)
      · repeat' ((first | refine Need.auto ?_ | refine Have.mk (fun _h => ?_)); conv => whnf)
        have hlt : k < z.sectors.length := by omega
        (first | refine Br.lt (fun h6 => ?_) (fun h6 => ?_) | refine Br.le (fun h6 => ?_) (fun h6 => ?_) | refine Br.gt (fun h6 => ?_) (fun h6 => ?_) | refine Br.ge (fun h6 => ?_) (fun h6 => ?_) | refine Br.eq (fun h6 => ?_) (fun h6 => ?_) | refine Br.ne (fun h6 => ?_) (fun h6 => ?_) | refine Br.not (fun h6 => ?_) (fun h6 => ?_) | refine Br.mk (fun h6 => ?_) (fun h6 => ?_)) <;> (try simp only [Int.toNat_natCast] at h6) <;> (conv => whnf)
        · repeat' ((first | refine Need.auto ?_ | refine Have.mk (fun _h => ?_)); conv => whnf)
          refine F _ ?_
          rw [Am.right, secsOk_get _ k hlt (by simp at h6 ⊢; omega), Bool.and_false]
        · repeat' ((first | refine Need.auto ?_ | refine Have.mk (fun _h => ?_)); conv => whnf)
          have w0 := wrap_id (↑k + 1) (by omega) (by omega)
          refine ⟨k + 1, ⟨by omega, ?_⟩, by omega, Mv.mk' 1 rfl ⟨O.wk.vr (immL_wk rfl), trivial⟩ ⟨wkS.c (wkC.int (by rw [w0]; rfl)), wkS.imm rfl, wkS.c (wkC.ptr (by decide)), wkS.imm rfl, trivial⟩ (Nat.zero_le _)⟩
          rw [secsOk_snoc _ _ hlt, hk2]
          simp at h6 ⊢; omega
      · repeat' ((first | refine Need.auto ?_ | refine Have.mk (fun _h => ?_)); conv => whnf)
        have : k = z.sectors.length := by omega
        subst this
        have hs : secsOk z.sectors = true := by simpa using hk2
        have G : ∀ (b : Bool) (p : Prop) [Decidable p], b = decide p → ((0 ≤ z.state ∧ z.state ≤ 5 ∧ (z.sectors.length : Int) ≤ size ∧ 0 ≤ z.durable ∧ z.durable ≤ z.sectors.length ∧ (z.state = 0 ∨ z.state = 5 → z.sectors.length = 0) ∧ (z.state = 4 → z.durable = z.sectors.length) ∧
    (z.state ≠ 0 → z.state ≠ 4 → z.state ≠ 5 → (z.sectors.length : Int) < size)) ↔ p) → (S.c (C.bool b) = S.c (.bool (Am.right z size))) := by
          intro b p _ hb hp
          rw [hb]
          simp only [S.c.injEq, C.bool.injEq, Am.right, hs, Bool.and_true, hp]
        (first | refine Br.lt (fun h2 => ?_) (fun h2 => ?_) | refine Br.le (fun h2 => ?_) (fun h2 => ?_) | refine Br.gt (fun h2 => ?_) (fun h2 => ?_) | refine Br.ge (fun h2 => ?_) (fun h2 => ?_) | refine Br.eq (fun h2 => ?_) (fun h2 => ?_) | refine Br.ne (fun h2 => ?_) (fun h2 => ?_) | refine Br.not (fun h2 => ?_) (fun h2 => ?_) | refine Br.mk (fun h2 => ?_) (fun h2 => ?_)) <;> (try simp only [Int.toNat_natCast] at h2) <;> (conv => whnf)
        · repeat' ((first | refine Need.auto ?_ | refine Have.mk (fun _h => ?_)); conv => whnf)
          (first | refine Br.lt (fun h3 => ?_) (fun h3 => ?_) | refine Br.le (fun h3 => ?_) (fun h3 => ?_) | refine Br.gt (fun h3 => ?_) (fun h3 => ?_) | refine Br.ge (fun h3 => ?_) (fun h3 => ?_) | refine Br.eq (fun h3 => ?_) (fun h3 => ?_) | refine Br.ne (fun h3 => ?_) (fun h3 => ?_) | refine Br.not (fun h3 => ?_) (fun h3 => ?_) | refine Br.mk (fun h3 => ?_) (fun h3 => ?_)) <;> (try simp only [Int.toNat_natCast] at h3) <;> (conv => whnf)
          · repeat' ((first | refine Need.auto ?_ | refine Have.mk (fun _h => ?_)); conv => whnf)
            refine G _ ((z.sectors.length : Int) = 0) (by rw [Bool.eq_iff_iff]; simp) (by omega)
          · repeat' ((first | refine Need.auto ?_ | refine Have.mk (fun _h => ?_)); conv => whnf)
            exact absurd h2 h3
        · repeat' ((first | refine Need.auto ?_ | refine Have.mk (fun _h => ?_)); conv => whnf)
          (first | refine Br.lt (fun h3 => ?_) (fun h3 => ?_) | refine Br.le (fun h3 => ?_) (fun h3 => ?_) | refine Br.gt (fun h3 => ?_) (fun h3 => ?_) | refine Br.ge (fun h3 => ?_) (fun h3 => ?_) | refine Br.eq (fun h3 => ?_) (fun h3 => ?_) | refine Br.ne (fun h3 => ?_) (fun h3 => ?_) | refine Br.not (fun h3 => ?_) (fun h3 => ?_) | refine Br.mk (fun h3 => ?_) (fun h3 => ?_)) <;> (try simp only [Int.toNat_natCast] at h3) <;> (conv => whnf)
          · repeat' ((first | refine Need.auto ?_ | refine Have.mk (fun _h => ?_)); conv => whnf)
            refine G _ ((z.sectors.length : Int) = 0) (by rw [Bool.eq_iff_iff]; simp) (by omega)
          · repeat' ((first | refine Need.auto ?_ | refine Have.mk (fun _h => ?_)); conv => whnf)
            (first | refine Br.lt (fun h4 => ?_) (fun h4 => ?_) | refine Br.le (fun h4 => ?_) (fun h4 => ?_) | refine Br.gt (fun h4 => ?_) (fun h4 => ?_) | refine Br.ge (fun h4 => ?_) (fun h4 => ?_) | refine Br.eq (fun h4 => ?_) (fun h4 => ?_) | refine Br.ne (fun h4 => ?_) (fun h4 => ?_) | refine Br.not (fun h4 => ?_) (fun h4 => ?_) | refine Br.mk (fun h4 => ?_) (fun h4 => ?_)) <;> (try simp only [Int.toNat_natCast] at h4) <;> (conv => whnf)
            · repeat' ((first | refine Need.auto ?_ | refine Have.mk (fun _h => ?_)); conv => whnf)
              refine G _ (z.durable = (z.sectors.length : Int)) (by rw [Bool.eq_iff_iff]; simp) (by omega)
            · repeat' ((first | refine Need.auto ?_ | refine Have.mk (fun _h => ?_)); conv => whnf)
              refine G _ ((z.sectors.length : Int) < size) rfl (by omega)
theorem right_ref_body : HasBody Try.prog 46 := ⟨⟨Try.f46, Try.func46, rfl, by kernel_rfl⟩⟩

theorem check_ref_spec (d : Dev) : PSpec Try.prog 20 [d.s] (.c (.int .i64 (check d))) := by
  refine CSpec.of_vc hΓ Try.func20 rfl 82 0 [.tmp 2] Try.ntmps20 rfl (by rw [Try.results20]) rfl ?_
  conv => whnf
  repeat' ((first | refine Need.auto ?_ | refine Have.mk (fun _h => ?_)); conv => whnf)
  (first | refine Br.lt (fun h1 => ?_) (fun h1 => ?_) | refine Br.le (fun h1 => ?_) (fun h1 => ?_) | refine Br.gt (fun h1 => ?_) (fun h1 => ?_) | refine Br.ge (fun h1 => ?_) (fun h1 => ?_) | refine Br.eq (fun h1 => ?_) (fun h1 => ?_) | refine Br.ne (fun h1 => ?_) (fun h1 => ?_) | refine Br.not (fun h1 => ?_) (fun h1 => ?_) | (refine Br.mk (fun h1 => ?_) (fun h1 => ?_) <;> simp [-List.length_eq_zero_iff, -List.getD_eq_getElem?_getD] at h1)) <;> (try simp only [Int.toNat_natCast] at h1) <;> (conv => whnf)
  · repeat' ((first | refine Need.auto ?_ | refine Have.mk (fun _h => ?_)); conv => whnf)
    have : confOk d = false := by simp only [confOk, decide_eq_false_iff_not]; omega
    simp only [check, this]; rfl
  · repeat' ((first | refine Need.auto ?_ | refine Have.mk (fun _h => ?_)); conv => whnf)
    have hc : confOk d = true := by simp only [confOk, decide_eq_true_eq]; omega
    refine Lp.mk hΓ (ι := Nat) (fun k => [(3, .c (.int .i64 k)), (1, .c (.ptr 0 0))])
      (fun _ => [.vr [.int .i64 d.size, .int .i64 d.maxOpen, .int .i64 d.maxActive, zonesC d.zones]]) (fun k => k ≤ d.zones.length ∧ (d.zones.take k).all (fun z => Am.right z d.size) = true) (fun k => d.zones.length - k) 0 ⟨Nat.zero_le _, rfl⟩ ?_ ?_
    · exact Mv.mk' 1 rfl ⟨O.wk.vr (immL_wk rfl), trivial⟩ ⟨wkS.imm rfl, wkS.c (wkC.ptr (by decide)), trivial⟩ (Nat.zero_le _)
    · rintro k ⟨hk, hk2⟩
      conv => whnf
      repeat' ((first | refine Need.auto ?_ | refine Have.mk (fun _h => ?_)); conv => whnf)
      (first | refine Br.lt (fun h => ?_) (fun h => ?_) | refine Br.le (fun h => ?_) (fun h => ?_) | refine Br.gt (fun h => ?_) (fun h => ?_) | refine Br.ge (fun h => ?_) (fun h => ?_) | refine Br.eq (fun h => ?_) (fun h => ?_) | refine Br.ne (fun h => ?_) (fun h => ?_) | refine Br.not (fun h => ?_) (fun h => ?_) | refine Br.mk (fun h => ?_) (fun h => ?_)) <;> (try simp only [Int.toNat_natCast] at h) <;> (conv => whnf)
      · repeat' ((first | refine Need.auto ?_ | refine Have.mk (fun _h => ?_)); conv => whnf)
        have hlt : k < d.zones.length := by omega
        refine Dr.mk hΓ hMix (by kernel_rfl) ?_; conv => whnf
        repeat' ((first | refine Need.auto ?_ | refine Have.mk (fun _h => ?_)); conv => whnf)
        refine CallP.mk right_ref_body (right_ref_spec (d.zones.getD k default) d.size ) (leA.refl rfl) rfl ?_
        conv => whnf
        repeat' ((first | refine Need.auto ?_ | refine Have.mk (fun _h => ?_)); conv => whnf)
        (first | refine Br.lt (fun h2 => ?_) (fun h2 => ?_) | refine Br.le (fun h2 => ?_) (fun h2 => ?_) | refine Br.gt (fun h2 => ?_) (fun h2 => ?_) | refine Br.ge (fun h2 => ?_) (fun h2 => ?_) | refine Br.eq (fun h2 => ?_) (fun h2 => ?_) | refine Br.ne (fun h2 => ?_) (fun h2 => ?_) | refine Br.not (fun h2 => ?_) (fun h2 => ?_) | refine Br.mk (fun h2 => ?_) (fun h2 => ?_)) <;> (try simp only [Int.toNat_natCast] at h2) <;> (conv => whnf)
        · repeat' ((first | refine Need.auto ?_ | refine Have.mk (fun _h => ?_)); conv => whnf)
          have : d.zones.all (fun z => Am.right z d.size) = false := all_get_false _ _ k hlt h2
          simp only [check, hc, this]; rfl
        · repeat' ((first | refine Need.auto ?_ | refine Have.mk (fun _h => ?_)); conv => whnf)
          have w0 := wrap_id (↑k + 1) (by omega) (by omega)
          refine ⟨k + 1, ⟨by omega, ?_⟩, by omega, Mv.mk' 1 rfl ⟨O.wk.vr (immL_wk rfl), trivial⟩ ⟨wkS.c (wkC.int (by rw [w0]; rfl)), wkS.c (wkC.ptr (by decide)), trivial⟩ (Nat.zero_le _)⟩
          rw [all_snoc _ _ k hlt, hk2, h2]; rfl
      · repeat' ((first | refine Need.auto ?_ | refine Have.mk (fun _h => ?_)); conv => whnf)
        have : k = d.zones.length := by omega
        subst this
        have hall : d.zones.all (fun z => Am.right z d.size) = true := by simpa using hk2
        refine CallN.pure counts_ref_body (counts_ref_spec d ) (leA.refl rfl) rfl ?_
        conv => whnf
        repeat' ((first | refine Need.auto ?_ | refine Have.mk (fun _h => ?_)); conv => whnf)
        (first | refine Br.lt (fun h3 => ?_) (fun h3 => ?_) | refine Br.le (fun h3 => ?_) (fun h3 => ?_) | refine Br.gt (fun h3 => ?_) (fun h3 => ?_) | refine Br.ge (fun h3 => ?_) (fun h3 => ?_) | refine Br.eq (fun h3 => ?_) (fun h3 => ?_) | refine Br.ne (fun h3 => ?_) (fun h3 => ?_) | refine Br.not (fun h3 => ?_) (fun h3 => ?_) | (refine Br.mk (fun h3 => ?_) (fun h3 => ?_) <;> simp [-List.length_eq_zero_iff, -List.getD_eq_getElem?_getD] at h3)) <;> (try simp only [Int.toNat_natCast] at h3) <;> (conv => whnf)
        · repeat' ((first | refine Need.auto ?_ | refine Have.mk (fun _h => ?_)); conv => whnf)
          have : decide ((cntOpen d.zones : Int) ≤ d.maxOpen ∧ (cntActive d.zones : Int) ≤ d.maxActive) = false := by simp only [decide_eq_false_iff_not]; omega
          simp only [check, hc, hall, this]; rfl
        · repeat' ((first | refine Need.auto ?_ | refine Have.mk (fun _h => ?_)); conv => whnf)
          have : decide ((cntOpen d.zones : Int) ≤ d.maxOpen ∧ (cntActive d.zones : Int) ≤ d.maxActive) = true := by simp only [decide_eq_true_eq]; omega
          simp only [check, hc, hall, this]; rfl
theorem check_ref_body : HasBody Try.prog 20 := ⟨⟨Try.f20, Try.func20, rfl, by kernel_rfl⟩⟩

theorem sameZone_spec (a b : Zone) : PSpec Try.prog 48 [a.s, b.s] (.c (.bool (sameZone a b))) := by
  refine CSpec.of_vc hΓ Try.func48 rfl 45 0 [.tmp 4] Try.ntmps48 rfl (by rw [Try.results48]) rfl ?_
  conv => whnf
  repeat' ((first | refine Need.auto ?_ | refine Have.mk (fun _h => ?_)); conv => whnf)
  (first | refine Br.lt (fun h1 => ?_) (fun h1 => ?_) | refine Br.le (fun h1 => ?_) (fun h1 => ?_) | refine Br.gt (fun h1 => ?_) (fun h1 => ?_) | refine Br.ge (fun h1 => ?_) (fun h1 => ?_) | refine Br.eq (fun h1 => ?_) (fun h1 => ?_) | refine Br.ne (fun h1 => ?_) (fun h1 => ?_) | refine Br.not (fun h1 => ?_) (fun h1 => ?_) | (refine Br.mk (fun h1 => ?_) (fun h1 => ?_) <;> simp [-List.length_eq_zero_iff, -List.getD_eq_getElem?_getD] at h1)) <;> (try simp only [Int.toNat_natCast] at h1) <;> (conv => whnf)
  · repeat' ((first | refine Need.auto ?_ | refine Have.mk (fun _h => ?_)); conv => whnf)
    have : sameZone a b = false := by simp only [sameZone, Bool.and_eq_false_iff, decide_eq_false_iff_not]; left; omega
    rw [this]
  · repeat' ((first | refine Need.auto ?_ | refine Have.mk (fun _h => ?_)); conv => whnf)
    have hp : sameZone a b = decide (a.sectors = b.sectors) := by
      have : decide (a.state = b.state ∧ a.durable = b.durable ∧ a.sectors.length = b.sectors.length) = true := by simp only [decide_eq_true_eq]; omega
      rw [sameZone, this, Bool.true_and]
    refine Lp.mk hΓ (ι := Nat) (fun k => [(5, .c (.int .i64 k)), (2, .c (.ptr 0 0)), (3, .c (.ptr 1 0))]) (fun _ => [.vr [.int .i64 a.state, .int .i64 a.durable, strsC a.sectors], .vr [.int .i64 b.state, .int .i64 b.durable, strsC b.sectors]])
      (fun k => k ≤ a.sectors.length ∧ a.sectors.take k = b.sectors.take k) (fun k => a.sectors.length - k) 0 ⟨Nat.zero_le _, rfl⟩ ?_ ?_
    · exact Mv.mk' 2 rfl ⟨O.wk.vr (immL_wk rfl), O.wk.vr (immL_wk rfl), trivial⟩ ⟨wkS.imm rfl, wkS.c (wkC.ptr (by decide)), wkS.c (wkC.ptr (by decide)), trivial⟩ (Nat.zero_le _)
    · rintro k ⟨hk, hk2⟩
      conv => whnf
      repeat' ((first | refine Need.auto ?_ | refine Have.mk (fun _h => ?_)); conv => whnf)
      (first | refine Br.lt (fun h => ?_) (fun h => ?_) | refine Br.le (fun h => ?_) (fun h => ?_) | refine Br.gt (fun h => ?_) (fun h => ?_) | refine Br.ge (fun h => ?_) (fun h => ?_) | refine Br.eq (fun h => ?_) (fun h => ?_) | refine Br.ne (fun h => ?_) (fun h => ?_) | refine Br.not (fun h => ?_) (fun h => ?_) | refine Br.mk (fun h => ?_) (fun h => ?_)) <;> (try simp only [Int.toNat_natCast] at h) <;> (conv => whnf)
      · repeat' ((first | refine Need.auto ?_ | refine Have.mk (fun _h => ?_)); conv => whnf)
        have hlt : k < a.sectors.length := by omega
        refine Dr.mk hΓ hMix (by kernel_rfl) ?_; conv => whnf
        repeat' ((first | refine Need.auto ?_ | refine Have.mk (fun _h => ?_)); conv => whnf)
        (first | refine Br.lt (fun h2 => ?_) (fun h2 => ?_) | refine Br.le (fun h2 => ?_) (fun h2 => ?_) | refine Br.gt (fun h2 => ?_) (fun h2 => ?_) | refine Br.ge (fun h2 => ?_) (fun h2 => ?_) | refine Br.eq (fun h2 => ?_) (fun h2 => ?_) | refine Br.ne (fun h2 => ?_) (fun h2 => ?_) | refine Br.not (fun h2 => ?_) (fun h2 => ?_) | refine Br.mk (fun h2 => ?_) (fun h2 => ?_)) <;> (try simp only [Int.toNat_natCast] at h2) <;> (conv => whnf)
        · repeat' ((first | refine Need.auto ?_ | refine Have.mk (fun _h => ?_)); conv => whnf)
          have hne : a.sectors.getD k ByteArray.empty ≠ b.sectors.getD k ByteArray.empty := by simpa using h2
          have : decide (a.sectors = b.sectors) = false := by
            rw [decide_eq_false_iff_not]; intro e; exact hne (by rw [e])
          rw [hp, this]
        · repeat' ((first | refine Need.auto ?_ | refine Have.mk (fun _h => ?_)); conv => whnf)
          have heq : a.sectors.getD k ByteArray.empty = b.sectors.getD k ByteArray.empty := by simpa using h2
          have w0 := wrap_id (↑k + 1) (by omega) (by omega)
          refine ⟨k + 1, ⟨by omega, ?_⟩, by omega, Mv.mk' 2 rfl ⟨O.wk.vr (immL_wk rfl), O.wk.vr (immL_wk rfl), trivial⟩ ⟨wkS.c (wkC.int (by rw [w0]; rfl)), wkS.c (wkC.ptr (by decide)), wkS.c (wkC.ptr (by decide)), trivial⟩ (Nat.zero_le _)⟩
          exact take_snoc_eq hk2 hlt (by omega) heq
      · repeat' ((first | refine Need.auto ?_ | refine Have.mk (fun _h => ?_)); conv => whnf)
        have : k = a.sectors.length := by omega
        subst this
        have : decide (a.sectors = b.sectors) = true := by
          rw [decide_eq_true_eq]
          rw [List.take_length, List.take_of_length_le (by omega)] at hk2
          exact hk2
        rw [hp, this]
theorem sameZone_body : HasBody Try.prog 48 := ⟨⟨Try.f48, Try.func48, rfl, by kernel_rfl⟩⟩

theorem same_spec (a b : Dev) : PSpec Try.prog 21 [a.s, b.s] (.c (.bool (same a b))) := by
  refine CSpec.of_vc hΓ Try.func21 rfl 53 0 [.tmp 4] Try.ntmps21 rfl (by rw [Try.results21]) rfl ?_
  conv => whnf
  repeat' ((first | refine Need.auto ?_ | refine Have.mk (fun _h => ?_)); conv => whnf)
  (first | refine Br.lt (fun h1 => ?_) (fun h1 => ?_) | refine Br.le (fun h1 => ?_) (fun h1 => ?_) | refine Br.gt (fun h1 => ?_) (fun h1 => ?_) | refine Br.ge (fun h1 => ?_) (fun h1 => ?_) | refine Br.eq (fun h1 => ?_) (fun h1 => ?_) | refine Br.ne (fun h1 => ?_) (fun h1 => ?_) | refine Br.not (fun h1 => ?_) (fun h1 => ?_) | (refine Br.mk (fun h1 => ?_) (fun h1 => ?_) <;> simp [-List.length_eq_zero_iff, -List.getD_eq_getElem?_getD] at h1)) <;> (try simp only [Int.toNat_natCast] at h1) <;> (conv => whnf)
  · repeat' ((first | refine Need.auto ?_ | refine Have.mk (fun _h => ?_)); conv => whnf)
    have : same a b = false := by simp only [same, Bool.and_eq_false_iff, decide_eq_false_iff_not]; left; omega
    rw [this]
  · repeat' ((first | refine Need.auto ?_ | refine Have.mk (fun _h => ?_)); conv => whnf)
    have hp : same a b = allSame a.zones b.zones := by
      have : decide (a.size = b.size ∧ a.maxOpen = b.maxOpen ∧ a.maxActive = b.maxActive ∧ a.zones.length = b.zones.length) = true := by simp only [decide_eq_true_eq]; omega
      rw [same, this, Bool.true_and]
    refine Lp.mk hΓ (ι := Nat) (fun k => [(5, .c (.int .i64 k)), (2, .c (.ptr 0 0)), (3, .c (.ptr 1 0))]) (fun _ => [.vr [.int .i64 a.size, .int .i64 a.maxOpen, .int .i64 a.maxActive, zonesC a.zones], .vr [.int .i64 b.size, .int .i64 b.maxOpen, .int .i64 b.maxActive, zonesC b.zones]])
      (fun k => k ≤ a.zones.length ∧ allSame (a.zones.take k) (b.zones.take k) = true) (fun k => a.zones.length - k) 0 ⟨Nat.zero_le _, rfl⟩ ?_ ?_
    · exact Mv.mk' 2 rfl ⟨O.wk.vr (immL_wk rfl), O.wk.vr (immL_wk rfl), trivial⟩ ⟨wkS.imm rfl, wkS.c (wkC.ptr (by decide)), wkS.c (wkC.ptr (by decide)), trivial⟩ (Nat.zero_le _)
    · rintro k ⟨hk, hk2⟩
      conv => whnf
      repeat' ((first | refine Need.auto ?_ | refine Have.mk (fun _h => ?_)); conv => whnf)
      (first | refine Br.lt (fun h => ?_) (fun h => ?_) | refine Br.le (fun h => ?_) (fun h => ?_) | refine Br.gt (fun h => ?_) (fun h => ?_) | refine Br.ge (fun h => ?_) (fun h => ?_) | refine Br.eq (fun h => ?_) (fun h => ?_) | refine Br.ne (fun h => ?_) (fun h => ?_) | refine Br.not (fun h => ?_) (fun h => ?_) | refine Br.mk (fun h => ?_) (fun h => ?_)) <;> (try simp only [Int.toNat_natCast] at h) <;> (conv => whnf)
      · repeat' ((first | refine Need.auto ?_ | refine Have.mk (fun _h => ?_)); conv => whnf)
        have hlt : k < a.zones.length := by omega
        have hlt' : k < b.zones.length := by omega
        refine Dr.mk hΓ hMix (by kernel_rfl) ?_; conv => whnf
        repeat' ((first | refine Need.auto ?_ | refine Have.mk (fun _h => ?_)); conv => whnf)
        refine CallP.mk sameZone_body (sameZone_spec (a.zones.getD k default) (b.zones.getD k default) ) (leA.refl rfl) rfl ?_
        conv => whnf
        repeat' ((first | refine Need.auto ?_ | refine Have.mk (fun _h => ?_)); conv => whnf)
        have hsn := allSame_snoc a.zones b.zones k hlt hlt'
        (first | refine Br.lt (fun h2 => ?_) (fun h2 => ?_) | refine Br.le (fun h2 => ?_) (fun h2 => ?_) | refine Br.gt (fun h2 => ?_) (fun h2 => ?_) | refine Br.ge (fun h2 => ?_) (fun h2 => ?_) | refine Br.eq (fun h2 => ?_) (fun h2 => ?_) | refine Br.ne (fun h2 => ?_) (fun h2 => ?_) | refine Br.not (fun h2 => ?_) (fun h2 => ?_) | refine Br.mk (fun h2 => ?_) (fun h2 => ?_)) <;> (try simp only [Int.toNat_natCast] at h2) <;> (conv => whnf)
        · repeat' ((first | refine Need.auto ?_ | refine Have.mk (fun _h => ?_)); conv => whnf)
          have : allSame a.zones b.zones = false := allSame_false a.zones b.zones k hlt hlt' h2
          rw [hp, this]
        · repeat' ((first | refine Need.auto ?_ | refine Have.mk (fun _h => ?_)); conv => whnf)
          have w0 := wrap_id (↑k + 1) (by omega) (by omega)
          refine ⟨k + 1, ⟨by omega, ?_⟩, by omega, Mv.mk' 2 rfl ⟨O.wk.vr (immL_wk rfl), O.wk.vr (immL_wk rfl), trivial⟩ ⟨wkS.c (wkC.int (by rw [w0]; rfl)), wkS.c (wkC.ptr (by decide)), wkS.c (wkC.ptr (by decide)), trivial⟩ (Nat.zero_le _)⟩
          rw [hsn, hk2, h2]; rfl
      · repeat' ((first | refine Need.auto ?_ | refine Have.mk (fun _h => ?_)); conv => whnf)
        have : k = a.zones.length := by omega
        subst this
        rw [List.take_length, List.take_of_length_le (by omega)] at hk2
        rw [hp, hk2]
theorem same_body : HasBody Try.prog 21 := ⟨⟨Try.f21, Try.func21, rfl, by kernel_rfl⟩⟩

theorem new_ref_spec (zones size open_ act : Int) (hz : -9223372036854775808 ≤ zones ∧ zones ≤ 9223372036854775807) : PSpec Try.prog 24 [.c (.int .i64 zones), .c (.int .i64 size), .c (.int .i64 open_), .c (.int .i64 act)] (.t [.inr (newD zones size open_ act).cells, .inl (.int .i64 (newE zones size open_ act))]) := by
  refine PSpec.rm ?_
  refine CSpec.of_vc hΓ Try.func24 rfl 32 0 [.cell 8 24, .tmp 9] Try.ntmps24 rfl (by rw [Try.results24]) rfl ?_
  conv => whnf
  repeat' ((first | refine Need.auto ?_ | refine Have.mk (fun _h => ?_)); conv => whnf)
  (first | refine Br.lt (fun h1 => ?_) (fun h1 => ?_) | refine Br.le (fun h1 => ?_) (fun h1 => ?_) | refine Br.gt (fun h1 => ?_) (fun h1 => ?_) | refine Br.ge (fun h1 => ?_) (fun h1 => ?_) | refine Br.eq (fun h1 => ?_) (fun h1 => ?_) | refine Br.ne (fun h1 => ?_) (fun h1 => ?_) | refine Br.not (fun h1 => ?_) (fun h1 => ?_) | (refine Br.mk (fun h1 => ?_) (fun h1 => ?_) <;> simp [-List.length_eq_zero_iff, -List.getD_eq_getElem?_getD] at h1)) <;> (try simp only [Int.toNat_natCast] at h1) <;> (conv => whnf)
  · repeat' ((first | refine Need.auto ?_ | refine Have.mk (fun _h => ?_)); conv => whnf)
    have he : newE zones size open_ act = 11 := by
      have : decide (1 ≤ zones ∧ zones ≤ 32) = false := by simp only [decide_eq_false_iff_not]; omega
      simp only [newE, this]; rfl
    have hd : newD zones size open_ act = dev0 := by simp only [newD, he]; rfl
    rw [he, hd]
    exact RM.imm rfl (wkS.t ⟨⟨wkC.imm rfl, wkC.imm rfl, wkC.imm rfl, wkC.nil rfl, trivial⟩, wkC.imm rfl, trivial⟩)
  · repeat' ((first | refine Need.auto ?_ | refine Have.mk (fun _h => ?_)); conv => whnf)
    have hh : decide (1 ≤ zones ∧ zones ≤ 32) = true := by simp only [decide_eq_true_eq]; omega
    have hlen : zones.toNat = (List.replicate zones.toNat zone0).length := by simp
    have hfz : ∀ (x : Bool), leF (.isl 3 zones.toNat (zeroG [.int .i64 0, .int .i64 0, .nils]) x) (zonesC (List.replicate zones.toNat zone0)) := fun x => leF.isl hlen (fun i hi j hj => zone0_cells _ rfl _ i j hi hj) (fun e => by cases e)
    have hcells := fun i hi j hj => zone0_cells _ rfl zones.toNat i j hi hj
    refine CallN.fzTo 1 rfl (Nat.zero_le _) (zone0_imm _ rfl _) (ts' := [(8, .c (.ptr 0 0)), (10, .c (.ptr 2 0))]) (args' := [(newX zones size open_ act).s]) (H' := [.vr [.int .i64 0, .int .i64 0, .int .i64 0, .nils], .dead, .vr (newX zones size open_ act).cells]) 3 rfl
      ⟨O.wk.vr (immL_wk rfl), trivial, O.wk.vr ⟨wkC.imm rfl, wkC.imm rfl, wkC.imm rfl, wkC.fz rfl hlen hcells (fun e => by cases e), trivial⟩, trivial⟩
      ⟨wkS.c (wkC.ptr (by decide)), wkS.c (wkC.ptr (by decide)), trivial⟩
      ⟨wkS.a ⟨wkC.imm rfl, wkC.imm rfl, wkC.imm rfl, wkC.fz rfl hlen hcells (fun e => by cases e), trivial⟩, trivial⟩ (Nat.zero_le _) ?_
    refine CallN.pure check_ref_body (check_ref_spec (newX zones size open_ act) ) (leA.refl rfl) rfl ?_
    conv => whnf
    repeat' ((first | refine Need.auto ?_ | refine Have.mk (fun _h => ?_)); conv => whnf)
    (first | refine Br.lt (fun h2 => ?_) (fun h2 => ?_) | refine Br.le (fun h2 => ?_) (fun h2 => ?_) | refine Br.gt (fun h2 => ?_) (fun h2 => ?_) | refine Br.ge (fun h2 => ?_) (fun h2 => ?_) | refine Br.eq (fun h2 => ?_) (fun h2 => ?_) | refine Br.ne (fun h2 => ?_) (fun h2 => ?_) | refine Br.not (fun h2 => ?_) (fun h2 => ?_) | refine Br.mk (fun h2 => ?_) (fun h2 => ?_)) <;> (try simp only [Int.toNat_natCast] at h2) <;> (conv => whnf)
    · repeat' ((first | refine Need.auto ?_ | refine Have.mk (fun _h => ?_)); conv => whnf)
      have he : newE zones size open_ act = check (newX zones size open_ act) := by simp only [newE, hh]; rfl
      have hd : newD zones size open_ act = dev0 := by simp only [newD, he]; rw [if_neg h2]
      rw [he, hd]
      exact RM.imm rfl (wkS.t ⟨⟨wkC.imm rfl, wkC.imm rfl, wkC.imm rfl, wkC.nil rfl, trivial⟩, wkC.imm rfl, trivial⟩)
    · repeat' ((first | refine Need.auto ?_ | refine Have.mk (fun _h => ?_)); conv => whnf)
      have he : newE zones size open_ act = 0 := by simp only [newE, hh]; exact h2
      have hd : newD zones size open_ act = newX zones size open_ act := by simp only [newD, he]; rfl
      rw [he, hd]
      exact RM.imm rfl (wkS.imm rfl)
theorem new_ref_body : HasBody Try.prog 24 := ⟨⟨Try.f24, Try.func24, rfl, by kernel_rfl⟩⟩
end Go.Proofs
end

section
open Go Go.Am
namespace Go.Proofs
theorem begin_ref_spec (d : Dev) (zone : Int) : PSpec Try.prog 75 [d.s, .c (.int .i64 zone)] (.c (.int .i64 (beginE d zone))) := by
  refine PSpec.rm ?_
  refine CSpec.of_vc hΓ Try.func75 rfl 27 0 [.tmp 4] Try.ntmps75 rfl (by rw [Try.results75]) rfl ?_
  conv => whnf
  refine CallN.pure check_ref_body (check_ref_spec d ) (leA.refl rfl) rfl ?_
  conv => whnf
  repeat' ((first | refine Need.auto ?_ | refine Have.mk (fun _h => ?_)); conv => whnf)
  (first | refine Br.lt (fun h1 => ?_) (fun h1 => ?_) | refine Br.le (fun h1 => ?_) (fun h1 => ?_) | refine Br.gt (fun h1 => ?_) (fun h1 => ?_) | refine Br.ge (fun h1 => ?_) (fun h1 => ?_) | refine Br.eq (fun h1 => ?_) (fun h1 => ?_) | refine Br.ne (fun h1 => ?_) (fun h1 => ?_) | refine Br.not (fun h1 => ?_) (fun h1 => ?_) | refine Br.mk (fun h1 => ?_) (fun h1 => ?_)) <;> (try simp only [Int.toNat_natCast] at h1) <;> (conv => whnf)
  · repeat' ((first | refine Need.auto ?_ | refine Have.mk (fun _h => ?_)); conv => whnf)
    exact RM.imm rfl (wkS.c (wkC.int (by simp only [beginE, if_neg h1])))
  · repeat' ((first | refine Need.auto ?_ | refine Have.mk (fun _h => ?_)); conv => whnf)
    (first | refine Br.lt (fun h2 => ?_) (fun h2 => ?_) | refine Br.le (fun h2 => ?_) (fun h2 => ?_) | refine Br.gt (fun h2 => ?_) (fun h2 => ?_) | refine Br.ge (fun h2 => ?_) (fun h2 => ?_) | refine Br.eq (fun h2 => ?_) (fun h2 => ?_) | refine Br.ne (fun h2 => ?_) (fun h2 => ?_) | refine Br.not (fun h2 => ?_) (fun h2 => ?_) | (refine Br.mk (fun h2 => ?_) (fun h2 => ?_) <;> simp [-List.length_eq_zero_iff, -List.getD_eq_getElem?_getD] at h2)) <;> (try simp only [Int.toNat_natCast] at h2) <;> (conv => whnf)
    · repeat' ((first | refine Need.auto ?_ | refine Have.mk (fun _h => ?_)); conv => whnf)
      have : decide (0 ≤ zone ∧ zone < d.zones.length) = false := by simp only [decide_eq_false_iff_not]; omega
      exact RM.imm rfl (wkS.c (wkC.int (by simp only [beginE, if_pos h1, this]; rfl)))
    · repeat' ((first | refine Need.auto ?_ | refine Have.mk (fun _h => ?_)); conv => whnf)
      have hr : decide (0 ≤ zone ∧ zone < d.zones.length) = true := by simp only [decide_eq_true_eq]; omega
      (first | refine Br.lt (fun h3 => ?_) (fun h3 => ?_) | refine Br.le (fun h3 => ?_) (fun h3 => ?_) | refine Br.gt (fun h3 => ?_) (fun h3 => ?_) | refine Br.ge (fun h3 => ?_) (fun h3 => ?_) | refine Br.eq (fun h3 => ?_) (fun h3 => ?_) | refine Br.ne (fun h3 => ?_) (fun h3 => ?_) | refine Br.not (fun h3 => ?_) (fun h3 => ?_) | refine Br.mk (fun h3 => ?_) (fun h3 => ?_)) <;> (try simp only [Int.toNat_natCast] at h3) <;> (conv => whnf)
      · repeat' ((first | refine Need.auto ?_ | refine Have.mk (fun _h => ?_)); conv => whnf)
        exact RM.imm rfl (wkS.c (wkC.int (by simp only [beginE, if_pos h1, hr, if_pos, if_pos h3])))
      · repeat' ((first | refine Need.auto ?_ | refine Have.mk (fun _h => ?_)); conv => whnf)
        exact RM.imm rfl (wkS.c (wkC.int (by simp only [beginE, if_pos h1, hr, if_pos, if_neg h3])))
theorem begin_ref_body : HasBody Try.prog 75 := ⟨⟨Try.f75, Try.func75, rfl, by kernel_rfl⟩⟩

theorem shut_ref_spec (z : Zone) : PSpec Try.prog 76 [z.s] ((shutZ z).s) := by
  refine PSpec.rm ?_
  refine CSpec.of_vc hΓ Try.func76 rfl 10 0 [.cell 2 28] Try.ntmps76 rfl (by rw [Try.results76]) rfl ?_
  conv => whnf
  repeat' ((first | refine Need.auto ?_ | refine Have.mk (fun _h => ?_)); conv => whnf)
  (first | refine Br.lt (fun h => ?_) (fun h => ?_) | refine Br.le (fun h => ?_) (fun h => ?_) | refine Br.gt (fun h => ?_) (fun h => ?_) | refine Br.ge (fun h => ?_) (fun h => ?_) | refine Br.eq (fun h => ?_) (fun h => ?_) | refine Br.ne (fun h => ?_) (fun h => ?_) | refine Br.not (fun h => ?_) (fun h => ?_) | refine Br.mk (fun h => ?_) (fun h => ?_)) <;> (try simp only [Int.toNat_natCast] at h) <;> (conv => whnf)
  · repeat' ((first | refine Need.auto ?_ | refine Have.mk (fun _h => ?_)); conv => whnf)
    have : shutZ z = ⟨0, z.durable, z.sectors⟩ := by simp only [shutZ]; rw [if_pos (by omega)]
    rw [this]
    exact RM.imm rfl (wkS.imm rfl)
  · repeat' ((first | refine Need.auto ?_ | refine Have.mk (fun _h => ?_)); conv => whnf)
    have : shutZ z = ⟨3, z.durable, z.sectors⟩ := by simp only [shutZ]; rw [if_neg (by omega)]
    rw [this]
    exact RM.imm rfl (wkS.imm rfl)
theorem shut_ref_body : HasBody Try.prog 76 := ⟨⟨Try.f76, Try.func76, rfl, by kernel_rfl⟩⟩

theorem with_spec (d : Dev) (hd : d.zones.length ≤ 10000000) (zone : Int) (hz : 0 ≤ zone ∧ zone < d.zones.length) (z : Zone) : PSpec Try.prog 74 [d.s, .c (.int .i64 zone), z.s] (({ d with zones := d.zones.set zone.toNat z } : Dev).s) := by
  refine PSpec.rm ?_
  refine CSpec.of_vc hΓ Try.func74 rfl 18 0 [.cell 6 24] Try.ntmps74 rfl (by rw [Try.results74]) rfl ?_
  conv => whnf
  repeat' ((first | refine Need.auto ?_ | refine Have.mk (fun _h => ?_)); conv => whnf)
  have hk : zone.toNat < d.zones.length := by omega
  refine RM.devS 3 rfl (fun i hi j hj => ?_) rfl (by simp) (fun i hi j hj => ?_)
  · exact (congrArg C.imm (row_cells hk rfl i j hj)).trans (zoneAt_imm _ _ _)
  · exact leF.of_eq (row_cells hk rfl i j hj)
theorem with_body : HasBody Try.prog 74 := ⟨⟨Try.f74, Try.func74, rfl, by kernel_rfl⟩⟩
end Go.Proofs
end

section
open Go Go.Am
namespace Go.Proofs
theorem room_ref_spec (d : Dev) (hd : d.zones.length ≤ 10000000) (zone : Nat) (hz : zone < d.zones.length) (hno : isOpen (d.zones.getD zone default).state = false) : PSpec Try.prog 73 [d.s, .c (.int .i64 zone)] (Dev.out (roomD d zone) (roomX d zone).1) := by
  refine PSpec.rm ?_
  refine CSpec.of_vc hΓ Try.func73 rfl 74 0 [.cell 4 24, .tmp 5] Try.ntmps73 rfl (by rw [Try.results73]) rfl ?_
  have hst : (d.zones.getD zone default).state ≠ 1 ∧ (d.zones.getD zone default).state ≠ 2 := by
    simp only [isOpen, decide_eq_false_iff_not] at hno
    omega
  conv => whnf
  refine CallN.pure counts_ref_body (counts_ref_spec d ) (leA.refl rfl) rfl ?_
  conv => whnf
  repeat' ((first | refine Need.auto ?_ | refine Have.mk (fun _h => ?_)); conv => whnf)
  (first | refine Br.lt (fun h1 => ?_) (fun h1 => ?_) | refine Br.le (fun h1 => ?_) (fun h1 => ?_) | refine Br.gt (fun h1 => ?_) (fun h1 => ?_) | refine Br.ge (fun h1 => ?_) (fun h1 => ?_) | refine Br.eq (fun h1 => ?_) (fun h1 => ?_) | refine Br.ne (fun h1 => ?_) (fun h1 => ?_) | refine Br.not (fun h1 => ?_) (fun h1 => ?_) | refine Br.mk (fun h1 => ?_) (fun h1 => ?_)) <;> (try simp only [Int.toNat_natCast] at h1) <;> (conv => whnf)
  · repeat' ((first | refine Need.auto ?_ | refine Have.mk (fun _h => ?_)); conv => whnf)
    refine Lp.mk hΓ (ι := Nat) (fun k => [(9, .c (.int .i64 k)), (2, .c (.ptr 0 0)), (4, .c (.ptr 1 0)), (6, .c (.ptr 2 0)), (1, .c (.int .i64 zone))])
      (fun _ => [.vr d.cells, .vr [.int .i64 0, .int .i64 0, .int .i64 0, .nils], .vr d.cells]) (fun k => k ≤ d.zones.length ∧ ∀ i, i < k → (d.zones.getD i default).state ≠ 1) (fun k => d.zones.length - k) 0 ⟨Nat.zero_le _, fun i hi => by omega⟩ ?_ ?_
    · exact Mv.mk' 3 rfl ⟨O.wk.vr (immL_wk rfl), O.wk.vr (immL_wk rfl), O.wk.vr (immL_wk rfl), trivial⟩ ⟨wkS.imm rfl, wkS.c (wkC.ptr (by decide)), wkS.c (wkC.ptr (by decide)), wkS.c (wkC.ptr (by decide)), wkS.imm rfl, trivial⟩ (Nat.zero_le _)
    · rintro k ⟨hk, hka⟩
      conv => whnf
      repeat' ((first | refine Need.auto ?_ | refine Have.mk (fun _h => ?_)); conv => whnf)
      (first | refine Br.lt (fun h => ?_) (fun h => ?_) | refine Br.le (fun h => ?_) (fun h => ?_) | refine Br.gt (fun h => ?_) (fun h => ?_) | refine Br.ge (fun h => ?_) (fun h => ?_) | refine Br.eq (fun h => ?_) (fun h => ?_) | refine Br.ne (fun h => ?_) (fun h => ?_) | refine Br.not (fun h => ?_) (fun h => ?_) | (refine Br.mk (fun h => ?_) (fun h => ?_) <;> simp [-List.length_eq_zero_iff, -List.getD_eq_getElem?_getD] at h)) <;> (try simp only [Int.toNat_natCast] at h) <;> (conv => whnf)
      · repeat' ((first | refine Need.auto ?_ | refine Have.mk (fun _h => ?_)); conv => whnf)
        have w0 := wrap_id (↑k + 1) (by omega) (by omega)
        refine ⟨k + 1, ⟨by omega, fun i hi => ?_⟩, by omega, Mv.mk' 3 rfl ⟨O.wk.vr (immL_wk rfl), O.wk.vr (immL_wk rfl), O.wk.vr (immL_wk rfl), trivial⟩ ⟨wkS.c (wkC.int (by rw [w0]; rfl)), wkS.c (wkC.ptr (by decide)), wkS.c (wkC.ptr (by decide)), wkS.c (wkC.ptr (by decide)), wkS.imm rfl, trivial⟩ (Nat.zero_le _)⟩
        by_cases c : i = k
        · subst c; simpa using h.2
        · exact hka i (by omega)
      · repeat' ((first | refine Need.auto ?_ | refine Have.mk (fun _h => ?_)); conv => whnf)
        (first | refine Br.lt (fun h3 => ?_) (fun h3 => ?_) | refine Br.le (fun h3 => ?_) (fun h3 => ?_) | refine Br.gt (fun h3 => ?_) (fun h3 => ?_) | refine Br.ge (fun h3 => ?_) (fun h3 => ?_) | refine Br.eq (fun h3 => ?_) (fun h3 => ?_) | refine Br.ne (fun h3 => ?_) (fun h3 => ?_) | refine Br.not (fun h3 => ?_) (fun h3 => ?_) | refine Br.mk (fun h3 => ?_) (fun h3 => ?_)) <;> (try simp only [Int.toNat_natCast] at h3) <;> (conv => whnf)
        · repeat' ((first | refine Need.auto ?_ | refine Have.mk (fun _h => ?_)); conv => whnf)
          have : k = d.zones.length := by omega
          subst this
          have hr : roomX d zone = (8, d.zones) := by
            simp only [roomX]
            rw [if_pos (by omega), if_neg (by rw [firstOpen_none _ hka]; omega)]
          rw [show roomD d zone = d by simp only [roomD, hr]; rfl, hr]
          exact RM.imm rfl (wkS.imm rfl)
        · repeat' ((first | refine Need.auto ?_ | refine Have.mk (fun _h => ?_)); conv => whnf)
          have hlt : k < d.zones.length := by omega
          have hk1 : (d.zones.getD k default).state = 1 := by simpa using h (by omega)
          have hfo : firstOpen d.zones = k := firstOpen_spec _ _ hlt hka hk1
          have hr0 : roomX d zone = if ((shutAt d.zones k).getD zone default).state ≠ 3 ∧ d.maxActive ≤ cntActive (shutAt d.zones k) then (9, shutAt d.zones k) else (0, shutAt d.zones k) := by
            simp only [roomX]
            rw [if_pos (by omega), if_pos (by omega), hfo]
          rw [shutAt_state _ _ _ hz hk1 hno] at hr0
          refine Dr.mk hΓ hMix (by kernel_rfl) ?_; conv => whnf
          repeat' ((first | refine Need.auto ?_ | refine Have.mk (fun _h => ?_)); conv => whnf)
          refine CallP.mk shut_ref_body (shut_ref_spec (d.zones.getD k default) ) (leA.refl rfl) rfl ?_
          conv => whnf
          repeat' ((first | refine Need.auto ?_ | refine Have.mk (fun _h => ?_)); conv => whnf)
          refine CallP.mk with_body (with_spec d hd k (by omega) (shutZ (d.zones.getD k default)) ) (leA.refl rfl) rfl ?_
          conv => whnf
          repeat' ((first | refine Need.auto ?_ | refine Have.mk (fun _h => ?_)); conv => whnf)
          refine CallN.pure counts_ref_body (counts_ref_spec ({ d with zones := (shutAt d.zones k) } : Dev) ) (leA.refl rfl) rfl ?_
          conv => whnf
          repeat' ((first | refine Need.auto ?_ | refine Have.mk (fun _h => ?_)); conv => whnf)
          refine CallN.pure active_ref_body (active_ref_spec _ ) (leA.refl rfl) rfl ?_
          conv => whnf
          repeat' ((first | refine Need.auto ?_ | refine Have.mk (fun _h => ?_)); conv => whnf)
          (first | refine Br.lt (fun h5 => ?_) (fun h5 => ?_) | refine Br.le (fun h5 => ?_) (fun h5 => ?_) | refine Br.gt (fun h5 => ?_) (fun h5 => ?_) | refine Br.ge (fun h5 => ?_) (fun h5 => ?_) | refine Br.eq (fun h5 => ?_) (fun h5 => ?_) | refine Br.ne (fun h5 => ?_) (fun h5 => ?_) | refine Br.not (fun h5 => ?_) (fun h5 => ?_) | (refine Br.mk (fun h5 => ?_) (fun h5 => ?_) <;> simp [-List.length_eq_zero_iff, -List.getD_eq_getElem?_getD] at h5)) <;> (try simp only [Int.toNat_natCast] at h5) <;> (conv => whnf)
          · repeat' ((first | refine Need.auto ?_ | refine Have.mk (fun _h => ?_)); conv => whnf)
            have hr : roomX d zone = (9, (shutAt d.zones k)) := by
              rw [hr0]
              refine if_pos ?_
              have := hst
              simp only [isActive, decide_eq_false_iff_not] at h5
              omega
            rw [show roomD d zone = d by simp only [roomD, hr]; rfl, hr]
            exact RM.imm rfl (wkS.imm rfl)
          · repeat' ((first | refine Need.auto ?_ | refine Have.mk (fun _h => ?_)); conv => whnf)
            have hr : roomX d zone = (0, (shutAt d.zones k)) := by
              rw [hr0]
              refine if_neg ?_
              simp only [isActive, decide_eq_false_iff_not] at h5
              have := hst
              omega
            rw [show roomD d zone = { d with zones := (shutAt d.zones k) } by simp only [roomD, hr]; rfl, hr]
            exact RM.imm rfl (wkS.imm rfl)
  · repeat' ((first | refine Need.auto ?_ | refine Have.mk (fun _h => ?_)); conv => whnf)
    have hr0 : roomX d zone = if (d.zones.getD zone default).state ≠ 3 ∧ d.maxActive ≤ cntActive d.zones then (9, d.zones) else (0, d.zones) := by
      simp only [roomX]
      rw [if_neg (by omega)]
    refine CallN.pure counts_ref_body (counts_ref_spec ({ d with zones := d.zones } : Dev) ) (leA.refl rfl) rfl ?_
    conv => whnf
    repeat' ((first | refine Need.auto ?_ | refine Have.mk (fun _h => ?_)); conv => whnf)
    refine CallN.pure active_ref_body (active_ref_spec _ ) (leA.refl rfl) rfl ?_
    conv => whnf
    repeat' ((first | refine Need.auto ?_ | refine Have.mk (fun _h => ?_)); conv => whnf)
    (first | refine Br.lt (fun h5 => ?_) (fun h5 => ?_) | refine Br.le (fun h5 => ?_) (fun h5 => ?_) | refine Br.gt (fun h5 => ?_) (fun h5 => ?_) | refine Br.ge (fun h5 => ?_) (fun h5 => ?_) | refine Br.eq (fun h5 => ?_) (fun h5 => ?_) | refine Br.ne (fun h5 => ?_) (fun h5 => ?_) | refine Br.not (fun h5 => ?_) (fun h5 => ?_) | (refine Br.mk (fun h5 => ?_) (fun h5 => ?_) <;> simp [-List.length_eq_zero_iff, -List.getD_eq_getElem?_getD] at h5)) <;> (try simp only [Int.toNat_natCast] at h5) <;> (conv => whnf)
    · repeat' ((first | refine Need.auto ?_ | refine Have.mk (fun _h => ?_)); conv => whnf)
      have hr : roomX d zone = (9, d.zones) := by
        rw [hr0]
        refine if_pos ?_
        have := hst
        simp only [isActive, decide_eq_false_iff_not] at h5
        omega
      rw [show roomD d zone = d by simp only [roomD, hr]; rfl, hr]
      exact RM.imm rfl (wkS.imm rfl)
    · repeat' ((first | refine Need.auto ?_ | refine Have.mk (fun _h => ?_)); conv => whnf)
      have hr : roomX d zone = (0, d.zones) := by
        rw [hr0]
        refine if_neg ?_
        simp only [isActive, decide_eq_false_iff_not] at h5
        have := hst
        omega
      rw [show roomD d zone = { d with zones := d.zones } by simp only [roomD, hr]; rfl, hr]
      exact RM.imm rfl (wkS.imm rfl)
theorem room_ref_body : HasBody Try.prog 73 := ⟨⟨Try.f73, Try.func73, rfl, by kernel_rfl⟩⟩
end Go.Proofs
end

section
open Go Go.Am
namespace Go.Proofs
set_option maxRecDepth 100000 in
theorem append_ref_spec (d : Dev) (hd : d.small) (zone : Int) (s : ByteArray) : PSpec Try.prog 54 [d.s, .c (.int .i64 zone), .c (.str s)] (Dev.out3 (appendD d zone s) (appendI d zone s) (appendE d zone s)) := by
  refine PSpec.rm ?_
  refine CSpec.of_vc hΓ Try.func54 rfl 111 0 [.cell 6 24, .tmp 7, .tmp 8] Try.ntmps54 rfl (by rw [Try.results54]) rfl ?_
  have bad : ∀ e ts, appendE d zone s = e → e ≠ 0 → RM 0 (.t [.inr d.cells, .inl (.int .i64 0), .inl (.int .i64 e)]) ts (Dev.out3 (appendD d zone s) (appendI d zone s) (appendE d zone s)) [] := by
    intro e ts h1 h2
    have h3 : ¬ appendE d zone s = 0 := by rw [h1]; exact h2
    rw [show appendD d zone s = d by simp only [appendD, if_neg h3], show appendI d zone s = 0 by simp only [appendI, if_neg h3], h1]
    exact RM.imm rfl (wkS.imm rfl)
  conv => whnf
  refine CallN.pure check_ref_body (check_ref_spec d ) (leA.refl rfl) rfl ?_
  conv => whnf
  repeat' ((first | refine Need.auto ?_ | refine Have.mk (fun _h => ?_)); conv => whnf)
  (first | refine Br.lt (fun h1 => ?_) (fun h1 => ?_) | refine Br.le (fun h1 => ?_) (fun h1 => ?_) | refine Br.gt (fun h1 => ?_) (fun h1 => ?_) | refine Br.ge (fun h1 => ?_) (fun h1 => ?_) | refine Br.eq (fun h1 => ?_) (fun h1 => ?_) | refine Br.ne (fun h1 => ?_) (fun h1 => ?_) | refine Br.not (fun h1 => ?_) (fun h1 => ?_) | refine Br.mk (fun h1 => ?_) (fun h1 => ?_)) <;> (try simp only [Int.toNat_natCast] at h1) <;> (conv => whnf)
  · repeat' ((first | refine Need.auto ?_ | refine Have.mk (fun _h => ?_)); conv => whnf)
    exact bad _ _ (by simp only [appendE, if_neg h1]) h1
  · repeat' ((first | refine Need.auto ?_ | refine Have.mk (fun _h => ?_)); conv => whnf)
    (first | refine Br.lt (fun h2 => ?_) (fun h2 => ?_) | refine Br.le (fun h2 => ?_) (fun h2 => ?_) | refine Br.gt (fun h2 => ?_) (fun h2 => ?_) | refine Br.ge (fun h2 => ?_) (fun h2 => ?_) | refine Br.eq (fun h2 => ?_) (fun h2 => ?_) | refine Br.ne (fun h2 => ?_) (fun h2 => ?_) | refine Br.not (fun h2 => ?_) (fun h2 => ?_) | (refine Br.mk (fun h2 => ?_) (fun h2 => ?_) <;> simp [-List.length_eq_zero_iff, -List.getD_eq_getElem?_getD] at h2)) <;> (try simp only [Int.toNat_natCast] at h2) <;> (conv => whnf)
    · repeat' ((first | refine Need.auto ?_ | refine Have.mk (fun _h => ?_)); conv => whnf)
      have : decide (0 ≤ zone ∧ zone < d.zones.length) = false := by simp only [decide_eq_false_iff_not]; omega
      exact bad _ _ (by simp only [appendE, if_pos h1, this]; rfl) (by decide)
    · repeat' ((first | refine Need.auto ?_ | refine Have.mk (fun _h => ?_)); conv => whnf)
      have hrange : decide (0 ≤ zone ∧ zone < d.zones.length) = true := by simp only [decide_eq_true_eq]; omega
      have hk : zone.toNat < d.zones.length := by omega
      (first | refine Br.lt (fun h3 => ?_) (fun h3 => ?_) | refine Br.le (fun h3 => ?_) (fun h3 => ?_) | refine Br.gt (fun h3 => ?_) (fun h3 => ?_) | refine Br.ge (fun h3 => ?_) (fun h3 => ?_) | refine Br.eq (fun h3 => ?_) (fun h3 => ?_) | refine Br.ne (fun h3 => ?_) (fun h3 => ?_) | refine Br.not (fun h3 => ?_) (fun h3 => ?_) | refine Br.mk (fun h3 => ?_) (fun h3 => ?_)) <;> (try simp only [Int.toNat_natCast] at h3) <;> (conv => whnf)
      · repeat' ((first | refine Need.auto ?_ | refine Have.mk (fun _h => ?_)); conv => whnf)
        exact bad _ _ (by simp only [appendE, if_pos h1, hrange, if_pos]; rw [if_neg (by omega)]) (by decide)
      · repeat' ((first | refine Need.auto ?_ | refine Have.mk (fun _h => ?_)); conv => whnf)
        have h40 : s.size = 40 := by omega
        (first | refine Br.lt (fun h5 => ?_) (fun h5 => ?_) | refine Br.le (fun h5 => ?_) (fun h5 => ?_) | refine Br.gt (fun h5 => ?_) (fun h5 => ?_) | refine Br.ge (fun h5 => ?_) (fun h5 => ?_) | refine Br.eq (fun h5 => ?_) (fun h5 => ?_) | refine Br.ne (fun h5 => ?_) (fun h5 => ?_) | refine Br.not (fun h5 => ?_) (fun h5 => ?_) | refine Br.mk (fun h5 => ?_) (fun h5 => ?_)) <;> (try simp only [Int.toNat_natCast] at h5) <;> (conv => whnf)
        · repeat' ((first | refine Need.auto ?_ | refine Have.mk (fun _h => ?_)); conv => whnf)
          exact bad _ _ (by simp only [appendE, if_pos h1, hrange, if_pos, if_pos h40, if_pos h5]) (by decide)
        · repeat' ((first | refine Need.auto ?_ | refine Have.mk (fun _h => ?_)); conv => whnf)
          (first | refine Br.lt (fun h4 => ?_) (fun h4 => ?_) | refine Br.le (fun h4 => ?_) (fun h4 => ?_) | refine Br.gt (fun h4 => ?_) (fun h4 => ?_) | refine Br.ge (fun h4 => ?_) (fun h4 => ?_) | refine Br.eq (fun h4 => ?_) (fun h4 => ?_) | refine Br.ne (fun h4 => ?_) (fun h4 => ?_) | refine Br.not (fun h4 => ?_) (fun h4 => ?_) | refine Br.mk (fun h4 => ?_) (fun h4 => ?_)) <;> (try simp only [Int.toNat_natCast] at h4) <;> (conv => whnf)
          · repeat' ((first | refine Need.auto ?_ | refine Have.mk (fun _h => ?_)); conv => whnf)
            exact bad _ _ (by simp only [appendE, if_pos h1, hrange, if_pos, if_pos h40, if_neg h5, if_pos h4]) (by decide)
          · repeat' ((first | refine Need.auto ?_ | refine Have.mk (fun _h => ?_)); conv => whnf)
            refine CallN.pure opened_ref_body (opened_ref_spec _ ) (leA.refl rfl) rfl ?_
            conv => whnf
            repeat' ((first | refine Need.auto ?_ | refine Have.mk (fun _h => ?_)); conv => whnf)
            have hm : (d.zones.getD zone.toNat default).sectors.length ≤ 10000000 := hd.s _
            have hz := hd.z
            (first | refine Br.lt (fun ho => ?_) (fun ho => ?_) | refine Br.le (fun ho => ?_) (fun ho => ?_) | refine Br.gt (fun ho => ?_) (fun ho => ?_) | refine Br.ge (fun ho => ?_) (fun ho => ?_) | refine Br.eq (fun ho => ?_) (fun ho => ?_) | refine Br.ne (fun ho => ?_) (fun ho => ?_) | refine Br.not (fun ho => ?_) (fun ho => ?_) | refine Br.mk (fun ho => ?_) (fun ho => ?_)) <;> (try simp only [Int.toNat_natCast] at ho) <;> (conv => whnf)
            · repeat' ((first | refine Need.auto ?_ | refine Have.mk (fun _h => ?_)); conv => whnf)
              have hE : appendE d zone s = (roomX d zone.toNat).1 := by
                simp only [appendE, if_pos h1, hrange, if_pos, if_pos h40, if_neg h5, if_neg h4]; rw [ho]; rfl
              have hL : openL d zone.toNat = (roomX d zone.toNat).2 := by simp only [openL]; rw [ho]; rfl
              have hlen := roomX_len d zone.toNat
              have hsec := roomX_sectors d zone.toNat zone.toNat
              have hm' : ((roomX d zone.toNat).2.getD zone.toNat default).sectors.length ≤ 10000000 := by rw [hsec]; exact hm
              have hcl := roomX_closed d zone.toNat zone.toNat ho
              have hzz : zone = (zone.toNat : Int) := by omega
              refine CallN.pure room_ref_body (room_ref_spec d hd.z zone.toNat hk ho) (leA.cons rfl (wkS.imm rfl) (leA.cons rfl (wkS.c (wkC.int hzz)) leA.nil)) rfl ?_
              by_cases hr0 : (roomX d zone.toNat).1 = 0
              · have hE0 : appendE d zone s = 0 := by rw [hE, hr0]
                have hI : appendI d zone s = ((roomX d zone.toNat).2.getD zone.toNat default).sectors.length := by simp only [appendI, if_pos hE0, hsec]
                rw [hr0, show roomD d zone.toNat = { d with zones := (roomX d zone.toNat).2 } by simp only [roomD, if_pos hr0]]
                conv => whnf
                repeat' ((first | refine Need.auto ?_ | refine Have.mk (fun _h => ?_)); conv => whnf)
                refine Br.no rfl ?_; conv => whnf
                repeat' ((first | refine Need.auto ?_ | refine Have.mk (fun _h => ?_)); conv => whnf)
                have hk' : zone.toNat < (roomX d zone.toNat).2.length := by omega
                have himm : ∀ i, i < 0 + ((roomX d zone.toNat).2.getD zone.toNat default).sectors.length + 1 → ∀ j, j < 1 → (appG (appG (flatG 1 []) 0 (fun i _ => .str (((roomX d zone.toNat).2.getD zone.toNat default).sectors.getD i ByteArray.empty))) (0 + ((roomX d zone.toNat).2.getD zone.toNat default).sectors.length) (flatG 1 [.str s]) i j).imm = true := by
                  intro i hi j hj
                  have : j = 0 := by omega
                  subst this
                  rw [Nat.zero_add] at hi ⊢
                  rw [app_cells2 _ _ _ _ _ hi]
                  rfl
                have hcel : ∀ i, i < 0 + ((roomX d zone.toNat).2.getD zone.toNat default).sectors.length + 1 → ∀ j, j < 1 → leF (appG (appG (flatG 1 []) 0 (fun i _ => .str (((roomX d zone.toNat).2.getD zone.toNat default).sectors.getD i ByteArray.empty))) (0 + ((roomX d zone.toNat).2.getD zone.toNat default).sectors.length) (flatG 1 [.str s]) i j) (.str ((((roomX d zone.toNat).2.getD zone.toNat default).sectors ++ [s]).getD i ByteArray.empty)) := by
                  intro i hi j hj
                  have : j = 0 := by omega
                  subst this
                  rw [Nat.zero_add] at hi ⊢
                  exact leF.of_eq (app_cells2 _ _ _ _ _ hi)
                refine CallN.pure opened_ref_body (opened_ref_spec _ ) (leA.refl rfl) rfl ?_
                conv => whnf
                repeat' ((first | refine Need.auto ?_ | refine Have.mk (fun _h => ?_)); conv => whnf)
                refine Br.yes (by rw [hcl]; rfl) ?_
                conv => whnf
                repeat' ((first | refine Need.auto ?_ | refine Have.mk (fun _h => ?_)); conv => whnf)
                (first | refine Br.lt (fun hs => ?_) (fun hs => ?_) | refine Br.le (fun hs => ?_) (fun hs => ?_) | refine Br.gt (fun hs => ?_) (fun hs => ?_) | refine Br.ge (fun hs => ?_) (fun hs => ?_) | refine Br.eq (fun hs => ?_) (fun hs => ?_) | refine Br.ne (fun hs => ?_) (fun hs => ?_) | refine Br.not (fun hs => ?_) (fun hs => ?_) | refine Br.mk (fun hs => ?_) (fun hs => ?_)) <;> (try simp only [Int.toNat_natCast] at hs) <;> (conv => whnf)
                · repeat' ((first | refine Need.auto ?_ | refine Have.mk (fun _h => ?_)); conv => whnf)
                  try dsimp only at hs
                  refine Dr.mkS hΓ hMix [(0,3),(1,3)] (by kernel_rfl) ?_; conv => whnf
                  repeat' ((first | refine Need.auto ?_ | refine Have.mk (fun _h => ?_)); conv => whnf)
                  refine Dr.mv [(10, .c (.ptr 2 0)), (1, .c (.int .i64 zone)), (13, .c (.ptr 4 0)), (6, .c (.ptr 1 0))] [.vr d.cells, .vr [.int .i64 0, .int .i64 0, .int .i64 0, .nils], .vr ({ d with zones := (roomX d zone.toNat).2 } : Dev).cells, .vr ({ d with zones := (roomX d zone.toNat).2 } : Dev).cells, .vr [.int .i64 4, .int .i64 d.size, strsC (((roomX d zone.toNat).2.getD zone.toNat default).sectors ++ [s])]] ((Mv.fz 5 rfl (Nat.zero_le _) himm).trans (Mv.mk' 5 rfl ⟨O.wk.vr (immL_wk rfl), O.wk.vr (immL_wk rfl), O.wk.vr (immL_wk rfl), O.wk.vr (immL_wk rfl), O.wk.vr ⟨wkC.imm rfl, wkC.imm rfl, wkC.fz (by simp) (by simp) hcel (fun e => by cases e), trivial⟩, trivial⟩
                    ⟨wkS.c (wkC.ptr (by decide)), wkS.imm rfl, wkS.c (wkC.ptr (by decide)), wkS.c (wkC.ptr (by decide)), trivial⟩ (Nat.zero_le _))) ?_
                  refine Dr.mkS hΓ hMix [(4,8),(5,8),(6,8),(7,8)] (by kernel_rfl) ?_; conv => whnf
                  repeat' ((first | refine Need.auto ?_ | refine Have.mk (fun _h => ?_)); conv => whnf)
                  refine CallP.mk with_body (with_spec ({ d with zones := (roomX d zone.toNat).2 } : Dev) (show (roomX d zone.toNat).2.length ≤ 10000000 by omega) zone (show 0 ≤ zone ∧ zone < ((roomX d zone.toNat).2.length : Int) by omega) ⟨4, d.size, ((roomX d zone.toNat).2.getD zone.toNat default).sectors ++ [s]⟩ ) (leA.refl rfl) rfl ?_
                  conv => whnf
                  repeat' ((first | refine Need.auto ?_ | refine Have.mk (fun _h => ?_)); conv => whnf)
                  have hD : appendD d zone s = { d with zones := (roomX d zone.toNat).2.set zone.toNat ⟨4, d.size, ((roomX d zone.toNat).2.getD zone.toNat default).sectors ++ [s]⟩ } := by
                    simp only [appendD, if_pos hE0, hL, grow]
                    rw [if_pos (by omega)]
                  rw [hD, hI, hE0]
                  refine RM.imm rfl (wkS.t ⟨immL_wk rfl, wkC.int ?_, wkC.imm rfl, trivial⟩)
                  simp only [List.length_append, List.length_cons, List.length_nil]
                  rw [wrap_id _ (by omega) (by omega)]; omega
                · repeat' ((first | refine Need.auto ?_ | refine Have.mk (fun _h => ?_)); conv => whnf)
                  try dsimp only at hs
                  refine Dr.mv [(10, .c (.ptr 2 0)), (1, .c (.int .i64 zone)), (13, .c (.ptr 4 0)), (6, .c (.ptr 1 0))] [.vr d.cells, .vr [.int .i64 0, .int .i64 0, .int .i64 0, .nils], .vr ({ d with zones := (roomX d zone.toNat).2 } : Dev).cells, .vr ({ d with zones := (roomX d zone.toNat).2 } : Dev).cells, .vr [.int .i64 1, .int .i64 ((roomX d zone.toNat).2.getD zone.toNat default).durable, strsC (((roomX d zone.toNat).2.getD zone.toNat default).sectors ++ [s])]] ((Mv.fz 5 rfl (Nat.zero_le _) himm).trans (Mv.mk' 5 rfl ⟨O.wk.vr (immL_wk rfl), O.wk.vr (immL_wk rfl), O.wk.vr (immL_wk rfl), O.wk.vr (immL_wk rfl), O.wk.vr ⟨wkC.imm rfl, wkC.imm rfl, wkC.fz (by simp) (by simp) hcel (fun e => by cases e), trivial⟩, trivial⟩
                    ⟨wkS.c (wkC.ptr (by decide)), wkS.imm rfl, wkS.c (wkC.ptr (by decide)), wkS.c (wkC.ptr (by decide)), trivial⟩ (Nat.zero_le _))) ?_
                  refine Dr.mkS hΓ hMix [(4,8),(5,8),(6,8),(7,8)] (by kernel_rfl) ?_; conv => whnf
                  repeat' ((first | refine Need.auto ?_ | refine Have.mk (fun _h => ?_)); conv => whnf)
                  refine CallP.mk with_body (with_spec ({ d with zones := (roomX d zone.toNat).2 } : Dev) (show (roomX d zone.toNat).2.length ≤ 10000000 by omega) zone (show 0 ≤ zone ∧ zone < ((roomX d zone.toNat).2.length : Int) by omega) ⟨1, ((roomX d zone.toNat).2.getD zone.toNat default).durable, ((roomX d zone.toNat).2.getD zone.toNat default).sectors ++ [s]⟩ ) (leA.refl rfl) rfl ?_
                  conv => whnf
                  repeat' ((first | refine Need.auto ?_ | refine Have.mk (fun _h => ?_)); conv => whnf)
                  have hD : appendD d zone s = { d with zones := (roomX d zone.toNat).2.set zone.toNat ⟨1, ((roomX d zone.toNat).2.getD zone.toNat default).durable, ((roomX d zone.toNat).2.getD zone.toNat default).sectors ++ [s]⟩ } := by
                    simp only [appendD, if_pos hE0, hL, grow]
                    rw [if_neg (by omega), hcl]; rfl
                  rw [hD, hI, hE0]
                  refine RM.imm rfl (wkS.t ⟨immL_wk rfl, wkC.int ?_, wkC.imm rfl, trivial⟩)
                  simp only [List.length_append, List.length_cons, List.length_nil]
                  rw [wrap_id _ (by omega) (by omega)]; omega
              · rw [show roomD d zone.toNat = d by simp only [roomD, if_neg hr0]]
                conv => whnf
                repeat' ((first | refine Need.auto ?_ | refine Have.mk (fun _h => ?_)); conv => whnf)
                (first | refine Br.lt (fun h6 => ?_) (fun h6 => ?_) | refine Br.le (fun h6 => ?_) (fun h6 => ?_) | refine Br.gt (fun h6 => ?_) (fun h6 => ?_) | refine Br.ge (fun h6 => ?_) (fun h6 => ?_) | refine Br.eq (fun h6 => ?_) (fun h6 => ?_) | refine Br.ne (fun h6 => ?_) (fun h6 => ?_) | refine Br.not (fun h6 => ?_) (fun h6 => ?_) | refine Br.mk (fun h6 => ?_) (fun h6 => ?_)) <;> (try simp only [Int.toNat_natCast] at h6) <;> (conv => whnf)
                · repeat' ((first | refine Need.auto ?_ | refine Have.mk (fun _h => ?_)); conv => whnf)
                  try dsimp only at hs
                  exact bad _ _ hE hr0
                · exact absurd h6 hr0
            · repeat' ((first | refine Need.auto ?_ | refine Have.mk (fun _h => ?_)); conv => whnf)
              have hE0 : appendE d zone s = 0 := by
                simp only [appendE, if_pos h1, hrange, if_pos, if_pos h40, if_neg h5, if_neg h4]; rw [ho]; rfl
              have hL : openL d zone.toNat = d.zones := by simp only [openL]; rw [ho]; rfl
              have hI : appendI d zone s = (d.zones.getD zone.toNat default).sectors.length := by simp only [appendI, if_pos hE0]
              have hk' : zone.toNat < d.zones.length := by omega
              have himm : ∀ i, i < 0 + (d.zones.getD zone.toNat default).sectors.length + 1 → ∀ j, j < 1 → (appG (appG (flatG 1 []) 0 (fun i _ => .str ((d.zones.getD zone.toNat default).sectors.getD i ByteArray.empty))) (0 + (d.zones.getD zone.toNat default).sectors.length) (flatG 1 [.str s]) i j).imm = true := by
                intro i hi j hj
                have : j = 0 := by omega
                subst this
                rw [Nat.zero_add] at hi ⊢
                rw [app_cells2 _ _ _ _ _ hi]
                rfl
              have hcel : ∀ i, i < 0 + (d.zones.getD zone.toNat default).sectors.length + 1 → ∀ j, j < 1 → leF (appG (appG (flatG 1 []) 0 (fun i _ => .str ((d.zones.getD zone.toNat default).sectors.getD i ByteArray.empty))) (0 + (d.zones.getD zone.toNat default).sectors.length) (flatG 1 [.str s]) i j) (.str (((d.zones.getD zone.toNat default).sectors ++ [s]).getD i ByteArray.empty)) := by
                intro i hi j hj
                have : j = 0 := by omega
                subst this
                rw [Nat.zero_add] at hi ⊢
                exact leF.of_eq (app_cells2 _ _ _ _ _ hi)
              refine CallN.pure opened_ref_body (opened_ref_spec _ ) (leA.refl rfl) rfl ?_
              conv => whnf
              repeat' ((first | refine Need.auto ?_ | refine Have.mk (fun _h => ?_)); conv => whnf)
              refine Br.no (by rw [ho]; rfl) ?_
              conv => whnf
              repeat' ((first | refine Need.auto ?_ | refine Have.mk (fun _h => ?_)); conv => whnf)
              (first | refine Br.lt (fun hs => ?_) (fun hs => ?_) | refine Br.le (fun hs => ?_) (fun hs => ?_) | refine Br.gt (fun hs => ?_) (fun hs => ?_) | refine Br.ge (fun hs => ?_) (fun hs => ?_) | refine Br.eq (fun hs => ?_) (fun hs => ?_) | refine Br.ne (fun hs => ?_) (fun hs => ?_) | refine Br.not (fun hs => ?_) (fun hs => ?_) | refine Br.mk (fun hs => ?_) (fun hs => ?_)) <;> (try simp only [Int.toNat_natCast] at hs) <;> (conv => whnf)
              · repeat' ((first | refine Need.auto ?_ | refine Have.mk (fun _h => ?_)); conv => whnf)
                try dsimp only at hs
                refine Dr.mkS hΓ hMix [(0,3),(1,3)] (by kernel_rfl) ?_; conv => whnf
                repeat' ((first | refine Need.auto ?_ | refine Have.mk (fun _h => ?_)); conv => whnf)
                refine Dr.mv [(10, .c (.ptr 2 0)), (1, .c (.int .i64 zone)), (13, .c (.ptr 3 0)), (6, .c (.ptr 1 0))] [.vr d.cells, .vr [.int .i64 0, .int .i64 0, .int .i64 0, .nils], .vr ({ d with zones := d.zones } : Dev).cells, .vr [.int .i64 4, .int .i64 d.size, strsC ((d.zones.getD zone.toNat default).sectors ++ [s])]] ((Mv.fz 4 rfl (Nat.zero_le _) himm).trans (Mv.mk' 4 rfl ⟨O.wk.vr (immL_wk rfl), O.wk.vr (immL_wk rfl), O.wk.vr (immL_wk rfl), O.wk.vr ⟨wkC.imm rfl, wkC.imm rfl, wkC.fz (by simp) (by simp) hcel (fun e => by cases e), trivial⟩, trivial⟩
                  ⟨wkS.c (wkC.ptr (by decide)), wkS.imm rfl, wkS.c (wkC.ptr (by decide)), wkS.c (wkC.ptr (by decide)), trivial⟩ (Nat.zero_le _))) ?_
                refine Dr.mkS hΓ hMix [(4,8),(5,8),(6,8),(7,8)] (by kernel_rfl) ?_; conv => whnf
                repeat' ((first | refine Need.auto ?_ | refine Have.mk (fun _h => ?_)); conv => whnf)
                refine CallP.mk with_body (with_spec ({ d with zones := d.zones } : Dev) (show d.zones.length ≤ 10000000 by omega) zone (show 0 ≤ zone ∧ zone < (d.zones.length : Int) by omega) ⟨4, d.size, (d.zones.getD zone.toNat default).sectors ++ [s]⟩ ) (leA.refl rfl) rfl ?_
                conv => whnf
                repeat' ((first | refine Need.auto ?_ | refine Have.mk (fun _h => ?_)); conv => whnf)
                have hD : appendD d zone s = { d with zones := d.zones.set zone.toNat ⟨4, d.size, (d.zones.getD zone.toNat default).sectors ++ [s]⟩ } := by
                  simp only [appendD, if_pos hE0, hL, grow]
                  rw [if_pos (by omega)]
                rw [hD, hI, hE0]
                refine RM.imm rfl (wkS.t ⟨immL_wk rfl, wkC.int ?_, wkC.imm rfl, trivial⟩)
                simp only [List.length_append, List.length_cons, List.length_nil]
                rw [wrap_id _ (by omega) (by omega)]; omega
              · repeat' ((first | refine Need.auto ?_ | refine Have.mk (fun _h => ?_)); conv => whnf)
                try dsimp only at hs
                refine Dr.mv [(10, .c (.ptr 2 0)), (1, .c (.int .i64 zone)), (13, .c (.ptr 3 0)), (6, .c (.ptr 1 0))] [.vr d.cells, .vr [.int .i64 0, .int .i64 0, .int .i64 0, .nils], .vr ({ d with zones := d.zones } : Dev).cells, .vr [.int .i64 (d.zones.getD zone.toNat default).state, .int .i64 (d.zones.getD zone.toNat default).durable, strsC ((d.zones.getD zone.toNat default).sectors ++ [s])]] ((Mv.fz 4 rfl (Nat.zero_le _) himm).trans (Mv.mk' 4 rfl ⟨O.wk.vr (immL_wk rfl), O.wk.vr (immL_wk rfl), O.wk.vr (immL_wk rfl), O.wk.vr ⟨wkC.imm rfl, wkC.imm rfl, wkC.fz (by simp) (by simp) hcel (fun e => by cases e), trivial⟩, trivial⟩
                  ⟨wkS.c (wkC.ptr (by decide)), wkS.imm rfl, wkS.c (wkC.ptr (by decide)), wkS.c (wkC.ptr (by decide)), trivial⟩ (Nat.zero_le _))) ?_
                refine Dr.mkS hΓ hMix [(4,8),(5,8),(6,8),(7,8)] (by kernel_rfl) ?_; conv => whnf
                repeat' ((first | refine Need.auto ?_ | refine Have.mk (fun _h => ?_)); conv => whnf)
                refine CallP.mk with_body (with_spec ({ d with zones := d.zones } : Dev) (show d.zones.length ≤ 10000000 by omega) zone (show 0 ≤ zone ∧ zone < (d.zones.length : Int) by omega) ⟨(d.zones.getD zone.toNat default).state, (d.zones.getD zone.toNat default).durable, (d.zones.getD zone.toNat default).sectors ++ [s]⟩ ) (leA.refl rfl) rfl ?_
                conv => whnf
                repeat' ((first | refine Need.auto ?_ | refine Have.mk (fun _h => ?_)); conv => whnf)
                have hD : appendD d zone s = { d with zones := d.zones.set zone.toNat ⟨(d.zones.getD zone.toNat default).state, (d.zones.getD zone.toNat default).durable, (d.zones.getD zone.toNat default).sectors ++ [s]⟩ } := by
                  simp only [appendD, if_pos hE0, hL, grow]
                  rw [if_neg (by omega), ho]; rfl
                rw [hD, hI, hE0]
                refine RM.imm rfl (wkS.t ⟨immL_wk rfl, wkC.int ?_, wkC.imm rfl, trivial⟩)
                simp only [List.length_append, List.length_cons, List.length_nil]
                rw [wrap_id _ (by omega) (by omega)]; omega
theorem append_ref_body : HasBody Try.prog 54 := ⟨⟨Try.f54, Try.func54, rfl, by kernel_rfl⟩⟩
end Go.Proofs
end

section
open Go Go.Am
namespace Go.Proofs
theorem read_ref_spec (d : Dev) (zone off : Int) : PSpec Try.prog 55 [d.s, .c (.int .i64 zone), .c (.int .i64 off)] (.t [.inl (.str (readS d zone off)), .inl (.int .i64 (readE d zone off))]) := by
  refine PSpec.rm ?_
  refine CSpec.of_vc hΓ Try.func55 rfl 37 0 [.tmp 6, .tmp 7] Try.ntmps55 rfl (by rw [Try.results55]) rfl ?_
  conv => whnf
  refine CallN.pure begin_ref_body (begin_ref_spec d zone ) (leA.refl rfl) rfl ?_
  conv => whnf
  repeat' ((first | refine Need.auto ?_ | refine Have.mk (fun _h => ?_)); conv => whnf)
  (first | refine Br.lt (fun h1 => ?_) (fun h1 => ?_) | refine Br.le (fun h1 => ?_) (fun h1 => ?_) | refine Br.gt (fun h1 => ?_) (fun h1 => ?_) | refine Br.ge (fun h1 => ?_) (fun h1 => ?_) | refine Br.eq (fun h1 => ?_) (fun h1 => ?_) | refine Br.ne (fun h1 => ?_) (fun h1 => ?_) | refine Br.not (fun h1 => ?_) (fun h1 => ?_) | refine Br.mk (fun h1 => ?_) (fun h1 => ?_)) <;> (try simp only [Int.toNat_natCast] at h1) <;> (conv => whnf)
  · repeat' ((first | refine Need.auto ?_ | refine Have.mk (fun _h => ?_)); conv => whnf)
    have h2 : readE d zone off = beginE d zone := by simp only [readE, if_neg h1]
    have : readS d zone off = ByteArray.empty := by simp only [readS, h2, if_neg h1]
    exact RM.imm rfl (wkS.t ⟨wkC.str (by rw [this]; rfl), wkC.int h2.symm, trivial⟩)
  · obtain ⟨hok, hz0, hz1⟩ := beginE_zone h1
    have hk : zone.toNat < d.zones.length := by omega
    have hrE : ∀ e : Int, (if decide (0 ≤ off ∧ off < (d.zones.getD zone.toNat default).sectors.length) then 0 else 10) = e → readE d zone off = e := by
      intro e h; simp only [readE, if_pos h1]; exact h
    repeat' ((first | refine Need.auto ?_ | refine Have.mk (fun _h => ?_)); conv => whnf)
    (first | refine Br.lt (fun h2 => ?_) (fun h2 => ?_) | refine Br.le (fun h2 => ?_) (fun h2 => ?_) | refine Br.gt (fun h2 => ?_) (fun h2 => ?_) | refine Br.ge (fun h2 => ?_) (fun h2 => ?_) | refine Br.eq (fun h2 => ?_) (fun h2 => ?_) | refine Br.ne (fun h2 => ?_) (fun h2 => ?_) | refine Br.not (fun h2 => ?_) (fun h2 => ?_) | (refine Br.mk (fun h2 => ?_) (fun h2 => ?_) <;> simp [-List.length_eq_zero_iff, -List.getD_eq_getElem?_getD] at h2)) <;> (try simp only [Int.toNat_natCast] at h2) <;> (conv => whnf)
    · repeat' ((first | refine Need.auto ?_ | refine Have.mk (fun _h => ?_)); conv => whnf)
      have : decide (0 ≤ off ∧ off < (d.zones.getD zone.toNat default).sectors.length) = false := by simp only [decide_eq_false_iff_not]; omega
      have h10 := hrE 10 (by rw [this]; rfl)
      exact RM.imm rfl (wkS.t ⟨wkC.str (by simp only [readS, h10]; rfl), wkC.int h10.symm, trivial⟩)
    · repeat' ((first | refine Need.auto ?_ | refine Have.mk (fun _h => ?_)); conv => whnf)
      have : decide (0 ≤ off ∧ off < (d.zones.getD zone.toNat default).sectors.length) = true := by simp only [decide_eq_true_eq]; omega
      have h0 := hrE 0 (by rw [this]; rfl)
      exact RM.imm rfl (wkS.t ⟨wkC.str (by simp only [readS, h0]; rfl), wkC.int h0.symm, trivial⟩)
theorem read_ref_body : HasBody Try.prog 55 := ⟨⟨Try.f55, Try.func55, rfl, by kernel_rfl⟩⟩

theorem reset_ref_spec (d : Dev) (hd : d.small) (zone : Int) : PSpec Try.prog 57 [d.s, .c (.int .i64 zone)] (Dev.out (resetD d zone) (beginE d zone)) := by
  refine PSpec.rm ?_
  refine CSpec.of_vc hΓ Try.func57 rfl 18 0 [.cell 4 24, .tmp 5] Try.ntmps57 rfl (by rw [Try.results57]) rfl ?_
  conv => whnf
  refine CallN.pure begin_ref_body (begin_ref_spec d zone ) (leA.refl rfl) rfl ?_
  conv => whnf
  repeat' ((first | refine Need.auto ?_ | refine Have.mk (fun _h => ?_)); conv => whnf)
  (first | refine Br.lt (fun h1 => ?_) (fun h1 => ?_) | refine Br.le (fun h1 => ?_) (fun h1 => ?_) | refine Br.gt (fun h1 => ?_) (fun h1 => ?_) | refine Br.ge (fun h1 => ?_) (fun h1 => ?_) | refine Br.eq (fun h1 => ?_) (fun h1 => ?_) | refine Br.ne (fun h1 => ?_) (fun h1 => ?_) | refine Br.not (fun h1 => ?_) (fun h1 => ?_) | refine Br.mk (fun h1 => ?_) (fun h1 => ?_)) <;> (try simp only [Int.toNat_natCast] at h1) <;> (conv => whnf)
  · repeat' ((first | refine Need.auto ?_ | refine Have.mk (fun _h => ?_)); conv => whnf)
    rw [show resetD d zone = d by simp only [resetD, if_neg h1]]
    exact RM.imm rfl (wkS.imm rfl)
  · obtain ⟨hok, hz0, hz1⟩ := beginE_zone h1
    have hz := hd.z
    repeat' ((first | refine Need.auto ?_ | refine Have.mk (fun _h => ?_)); conv => whnf)
    refine CallN.pureA with_body (with_spec d hz zone ⟨hz0, hz1⟩ zone0 ) ?_
    conv => whnf
    repeat' ((first | refine Need.auto ?_ | refine Have.mk (fun _h => ?_)); conv => whnf)
    rw [show resetD d zone = { d with zones := d.zones.set zone.toNat zone0 } by simp only [resetD, if_pos h1], h1]
    exact RM.imm rfl (wkS.imm rfl)
theorem reset_ref_body : HasBody Try.prog 57 := ⟨⟨Try.f57, Try.func57, rfl, by kernel_rfl⟩⟩

theorem right_full {z : Zone} {size : Int} (h : right z size = true) (h4 : z.state = 4) : z.durable = z.sectors.length := by
  simp only [right, Bool.and_eq_true, decide_eq_true_eq] at h
  exact h.1.2.2.2.2.2.2.1 h4
theorem finish_ref_spec (d : Dev) (hd : d.small) (zone : Int) : PSpec Try.prog 59 [d.s, .c (.int .i64 zone)] (Dev.out (finishD d zone) (beginE d zone)) := by
  refine PSpec.rm ?_
  refine CSpec.of_vc hΓ Try.func59 rfl 29 0 [.cell 4 24, .tmp 5] Try.ntmps59 rfl (by rw [Try.results59]) rfl ?_
  conv => whnf
  refine CallN.pure begin_ref_body (begin_ref_spec d zone ) (leA.refl rfl) rfl ?_
  conv => whnf
  repeat' ((first | refine Need.auto ?_ | refine Have.mk (fun _h => ?_)); conv => whnf)
  (first | refine Br.lt (fun h1 => ?_) (fun h1 => ?_) | refine Br.le (fun h1 => ?_) (fun h1 => ?_) | refine Br.gt (fun h1 => ?_) (fun h1 => ?_) | refine Br.ge (fun h1 => ?_) (fun h1 => ?_) | refine Br.eq (fun h1 => ?_) (fun h1 => ?_) | refine Br.ne (fun h1 => ?_) (fun h1 => ?_) | refine Br.not (fun h1 => ?_) (fun h1 => ?_) | refine Br.mk (fun h1 => ?_) (fun h1 => ?_)) <;> (try simp only [Int.toNat_natCast] at h1) <;> (conv => whnf)
  · repeat' ((first | refine Need.auto ?_ | refine Have.mk (fun _h => ?_)); conv => whnf)
    rw [show finishD d zone = d by simp only [finishD, if_neg h1]]
    exact RM.imm rfl (wkS.imm rfl)
  · obtain ⟨hok, hz0, hz1⟩ := beginE_zone h1
    have hz := hd.z
    have hk : zone.toNat < d.zones.length := by omega
    repeat' ((first | refine Need.auto ?_ | refine Have.mk (fun _h => ?_)); conv => whnf)
    have e : finishZ (d.zones.getD zone.toNat default) = ⟨4, (d.zones.getD zone.toNat default).sectors.length, (d.zones.getD zone.toNat default).sectors⟩ := by
      simp only [finishZ]
      split
      · rename_i h4
        have hm : d.zones.getD zone.toNat default ∈ d.zones := by
          rw [getD_eq _ _ hk]; exact List.getElem_mem hk
        have := right_full (hok.zones _ hm) h4
        generalize d.zones.getD zone.toNat default = z at *
        cases z
        simp_all
      · rfl
    refine CallN.pure with_body (with_spec d hz zone ⟨hz0, hz1⟩ ⟨4, (d.zones.getD zone.toNat default).sectors.length, (d.zones.getD zone.toNat default).sectors⟩ ) (leA.refl rfl) rfl ?_
    conv => whnf
    repeat' ((first | refine Need.auto ?_ | refine Have.mk (fun _h => ?_)); conv => whnf)
    rw [show finishD d zone = { d with zones := d.zones.set zone.toNat (finishZ (d.zones.getD zone.toNat default)) } by simp only [finishD, if_pos h1], h1, e]
    exact RM.imm rfl (wkS.imm rfl)
theorem finish_ref_body : HasBody Try.prog 59 := ⟨⟨Try.f59, Try.func59, rfl, by kernel_rfl⟩⟩
theorem open_ref_spec (d : Dev) (hd : d.small) (zone : Int) : PSpec Try.prog 61 [d.s, .c (.int .i64 zone)] (Dev.out (openD d zone) (openE d zone)) := by
  refine PSpec.rm ?_
  refine CSpec.of_vc hΓ Try.func61 rfl 52 0 [.cell 4 24, .tmp 5] Try.ntmps61 rfl (by rw [Try.results61]) rfl ?_
  conv => whnf
  refine CallN.pure begin_ref_body (begin_ref_spec d zone ) (leA.refl rfl) rfl ?_
  conv => whnf
  repeat' ((first | refine Need.auto ?_ | refine Have.mk (fun _h => ?_)); conv => whnf)
  (first | refine Br.lt (fun h1 => ?_) (fun h1 => ?_) | refine Br.le (fun h1 => ?_) (fun h1 => ?_) | refine Br.gt (fun h1 => ?_) (fun h1 => ?_) | refine Br.ge (fun h1 => ?_) (fun h1 => ?_) | refine Br.eq (fun h1 => ?_) (fun h1 => ?_) | refine Br.ne (fun h1 => ?_) (fun h1 => ?_) | refine Br.not (fun h1 => ?_) (fun h1 => ?_) | refine Br.mk (fun h1 => ?_) (fun h1 => ?_)) <;> (try simp only [Int.toNat_natCast] at h1) <;> (conv => whnf)
  · repeat' ((first | refine Need.auto ?_ | refine Have.mk (fun _h => ?_)); conv => whnf)
    rw [show openE d zone = beginE d zone by simp only [openE, if_neg h1], show openD d zone = d by simp only [openD, openE, if_neg h1]]
    exact RM.imm rfl (wkS.imm rfl)
  · obtain ⟨hok, hz0, hz1⟩ := beginE_zone h1
    have hz := hd.z
    have hk : zone.toNat < d.zones.length := by omega
    repeat' ((first | refine Need.auto ?_ | refine Have.mk (fun _h => ?_)); conv => whnf)
    (first | refine Br.lt (fun h2 => ?_) (fun h2 => ?_) | refine Br.le (fun h2 => ?_) (fun h2 => ?_) | refine Br.gt (fun h2 => ?_) (fun h2 => ?_) | refine Br.ge (fun h2 => ?_) (fun h2 => ?_) | refine Br.eq (fun h2 => ?_) (fun h2 => ?_) | refine Br.ne (fun h2 => ?_) (fun h2 => ?_) | refine Br.not (fun h2 => ?_) (fun h2 => ?_) | refine Br.mk (fun h2 => ?_) (fun h2 => ?_)) <;> (try simp only [Int.toNat_natCast] at h2) <;> (conv => whnf)
    · repeat' ((first | refine Need.auto ?_ | refine Have.mk (fun _h => ?_)); conv => whnf)
      have e : openE d zone = 7 := by simp only [openE, if_pos h1, if_pos h2]
      rw [e, show openD d zone = d by simp only [openD, e]; rfl]
      exact RM.imm rfl (wkS.imm rfl)
    · repeat' ((first | refine Need.auto ?_ | refine Have.mk (fun _h => ?_)); conv => whnf)
      have hst : ∀ (L : List Zone), zone.toNat < L.length → ({ L.getD zone.toNat default with state := 2 } : Zone).s = .a [.int .i64 2, .int .i64 (L.getD zone.toNat default).durable, strsC (L.getD zone.toNat default).sectors] := fun _ _ => rfl
      have fin : ∀ (s : S) (H : List O), isOpen (d.zones.getD zone.toNat default).state = true → s = Dev.out { d with zones := d.zones.set zone.toNat { d.zones.getD zone.toNat default with state := 2 } } 0 → RM 0 s H (Dev.out (openD d zone) (openE d zone)) [] := by
        intro s H h3 hs
        have e : openE d zone = 0 := by simp only [openE, if_pos h1, if_neg h2]; rw [h3]; rfl
        have hL : openL d zone.toNat = d.zones := by simp only [openL]; rw [h3]; rfl
        rw [e, show openD d zone = { d with zones := d.zones.set zone.toNat { d.zones.getD zone.toNat default with state := 2 } } by simp only [openD, e, if_pos, hL], hs]
        exact RM.imm rfl (wkS.imm rfl)
      (first | refine Br.lt (fun h3 => ?_) (fun h3 => ?_) | refine Br.le (fun h3 => ?_) (fun h3 => ?_) | refine Br.gt (fun h3 => ?_) (fun h3 => ?_) | refine Br.ge (fun h3 => ?_) (fun h3 => ?_) | refine Br.eq (fun h3 => ?_) (fun h3 => ?_) | refine Br.ne (fun h3 => ?_) (fun h3 => ?_) | refine Br.not (fun h3 => ?_) (fun h3 => ?_) | refine Br.mk (fun h3 => ?_) (fun h3 => ?_)) <;> (try simp only [Int.toNat_natCast] at h3) <;> (conv => whnf)
      · repeat' ((first | refine Need.auto ?_ | refine Have.mk (fun _h => ?_)); conv => whnf)
        refine Br.yes (by simpa using h3) ?_
        conv => whnf
        repeat' ((first | refine Need.auto ?_ | refine Have.mk (fun _h => ?_)); conv => whnf)
        refine CallN.pure with_body (with_spec d hz zone ⟨hz0, hz1⟩ { d.zones.getD zone.toNat default with state := 2 } ) (leA.refl rfl) rfl ?_
        conv => whnf
        repeat' ((first | refine Need.auto ?_ | refine Have.mk (fun _h => ?_)); conv => whnf)
        exact fin _ _ (by simp only [isOpen, decide_eq_true_eq]; omega) rfl
      · repeat' ((first | refine Need.auto ?_ | refine Have.mk (fun _h => ?_)); conv => whnf)
        (first | refine Br.lt (fun h4 => ?_) (fun h4 => ?_) | refine Br.le (fun h4 => ?_) (fun h4 => ?_) | refine Br.gt (fun h4 => ?_) (fun h4 => ?_) | refine Br.ge (fun h4 => ?_) (fun h4 => ?_) | refine Br.eq (fun h4 => ?_) (fun h4 => ?_) | refine Br.ne (fun h4 => ?_) (fun h4 => ?_) | refine Br.not (fun h4 => ?_) (fun h4 => ?_) | refine Br.mk (fun h4 => ?_) (fun h4 => ?_)) <;> (try simp only [Int.toNat_natCast] at h4) <;> (conv => whnf)
        · repeat' ((first | refine Need.auto ?_ | refine Have.mk (fun _h => ?_)); conv => whnf)
          refine CallN.pure with_body (with_spec d hz zone ⟨hz0, hz1⟩ { d.zones.getD zone.toNat default with state := 2 } ) (leA.refl rfl) rfl ?_
          conv => whnf
          repeat' ((first | refine Need.auto ?_ | refine Have.mk (fun _h => ?_)); conv => whnf)
          exact fin _ _ (by simp only [isOpen, decide_eq_true_eq]; omega) rfl
        · repeat' ((first | refine Need.auto ?_ | refine Have.mk (fun _h => ?_)); conv => whnf)
          have ho : isOpen (d.zones.getD zone.toNat default).state = false := by simp only [isOpen, decide_eq_false_iff_not]; omega
          have hlen := roomX_len d zone.toNat
          have hE : openE d zone = (roomX d zone.toNat).1 := by simp only [openE, if_pos h1, if_neg h2]; rw [ho]; rfl
          have hL : openL d zone.toNat = (roomX d zone.toNat).2 := by simp only [openL]; rw [ho]; rfl
          refine CallN.pureA room_ref_body (room_ref_spec d hz zone.toNat hk ho ) ?_
          by_cases hr0 : (roomX d zone.toNat).1 = 0
          · rw [hr0, show roomD d zone.toNat = { d with zones := (roomX d zone.toNat).2 } by simp only [roomD, if_pos hr0]]
            conv => whnf
            repeat' ((first | refine Need.auto ?_ | refine Have.mk (fun _h => ?_)); conv => whnf)
            refine Br.no rfl ?_; conv => whnf
            repeat' ((first | refine Need.auto ?_ | refine Have.mk (fun _h => ?_)); conv => whnf)
            refine CallN.pure with_body (with_spec ({ d with zones := (roomX d zone.toNat).2 } : Dev) (show (roomX d zone.toNat).2.length ≤ 10000000 by omega) zone ⟨hz0, show zone < ((roomX d zone.toNat).2.length : Int) by omega⟩ { (roomX d zone.toNat).2.getD zone.toNat default with state := 2 } ) (leA.refl rfl) rfl ?_
            conv => whnf
            repeat' ((first | refine Need.auto ?_ | refine Have.mk (fun _h => ?_)); conv => whnf)
            rw [hE, hr0, show openD d zone = { d with zones := (roomX d zone.toNat).2.set zone.toNat { (roomX d zone.toNat).2.getD zone.toNat default with state := 2 } } by simp only [openD, hE, hr0, if_pos, hL]]
            exact RM.imm rfl (wkS.imm rfl)
          · rw [show roomD d zone.toNat = d by simp only [roomD, if_neg hr0]]
            conv => whnf
            repeat' ((first | refine Need.auto ?_ | refine Have.mk (fun _h => ?_)); conv => whnf)
            (first | refine Br.lt (fun h6 => ?_) (fun h6 => ?_) | refine Br.le (fun h6 => ?_) (fun h6 => ?_) | refine Br.gt (fun h6 => ?_) (fun h6 => ?_) | refine Br.ge (fun h6 => ?_) (fun h6 => ?_) | refine Br.eq (fun h6 => ?_) (fun h6 => ?_) | refine Br.ne (fun h6 => ?_) (fun h6 => ?_) | refine Br.not (fun h6 => ?_) (fun h6 => ?_) | refine Br.mk (fun h6 => ?_) (fun h6 => ?_)) <;> (try simp only [Int.toNat_natCast] at h6) <;> (conv => whnf)
            · repeat' ((first | refine Need.auto ?_ | refine Have.mk (fun _h => ?_)); conv => whnf)
              rw [hE, show openD d zone = d by simp only [openD, hE, if_neg hr0]]
              exact RM.imm rfl (wkS.imm rfl)
            · exact absurd h6 hr0
theorem open_ref_body : HasBody Try.prog 61 := ⟨⟨Try.f61, Try.func61, rfl, by kernel_rfl⟩⟩

theorem close_ref_spec (d : Dev) (hd : d.small) (zone : Int) : PSpec Try.prog 63 [d.s, .c (.int .i64 zone)] (Dev.out (closeD d zone) (closeE d zone)) := by
  refine PSpec.rm ?_
  refine CSpec.of_vc hΓ Try.func63 rfl 36 0 [.cell 4 24, .tmp 5] Try.ntmps63 rfl (by rw [Try.results63]) rfl ?_
  conv => whnf
  refine CallN.pure begin_ref_body (begin_ref_spec d zone ) (leA.refl rfl) rfl ?_
  conv => whnf
  repeat' ((first | refine Need.auto ?_ | refine Have.mk (fun _h => ?_)); conv => whnf)
  (first | refine Br.lt (fun h1 => ?_) (fun h1 => ?_) | refine Br.le (fun h1 => ?_) (fun h1 => ?_) | refine Br.gt (fun h1 => ?_) (fun h1 => ?_) | refine Br.ge (fun h1 => ?_) (fun h1 => ?_) | refine Br.eq (fun h1 => ?_) (fun h1 => ?_) | refine Br.ne (fun h1 => ?_) (fun h1 => ?_) | refine Br.not (fun h1 => ?_) (fun h1 => ?_) | refine Br.mk (fun h1 => ?_) (fun h1 => ?_)) <;> (try simp only [Int.toNat_natCast] at h1) <;> (conv => whnf)
  · repeat' ((first | refine Need.auto ?_ | refine Have.mk (fun _h => ?_)); conv => whnf)
    rw [show closeE d zone = beginE d zone by simp only [closeE, if_neg h1], show closeD d zone = d by simp only [closeD, closeE, if_neg h1]]
    exact RM.imm rfl (wkS.imm rfl)
  · obtain ⟨hok, hz0, hz1⟩ := beginE_zone h1
    have hz := hd.z
    have hk : zone.toNat < d.zones.length := by omega
    have fin : ∀ (s : S) (H : List O), isOpen (d.zones.getD zone.toNat default).state = true → s = Dev.out { d with zones := shutAt d.zones zone.toNat } 0 → RM 0 s H (Dev.out (closeD d zone) (closeE d zone)) [] := by
      intro s H h3 hs
      have ha : isActive (d.zones.getD zone.toNat default).state = true := by
        simp only [isOpen, decide_eq_true_eq] at h3
        simp only [isActive, decide_eq_true_eq]; omega
      have e : closeE d zone = 0 := by simp only [closeE, if_pos h1]; rw [ha]; rfl
      rw [e, show closeD d zone = { d with zones := shutAt d.zones zone.toNat } by simp only [closeD, e]; rw [h3]; rfl, hs]
      exact RM.imm rfl (wkS.imm rfl)
    repeat' ((first | refine Need.auto ?_ | refine Have.mk (fun _h => ?_)); conv => whnf)
    (first | refine Br.lt (fun h2 => ?_) (fun h2 => ?_) | refine Br.le (fun h2 => ?_) (fun h2 => ?_) | refine Br.gt (fun h2 => ?_) (fun h2 => ?_) | refine Br.ge (fun h2 => ?_) (fun h2 => ?_) | refine Br.eq (fun h2 => ?_) (fun h2 => ?_) | refine Br.ne (fun h2 => ?_) (fun h2 => ?_) | refine Br.not (fun h2 => ?_) (fun h2 => ?_) | refine Br.mk (fun h2 => ?_) (fun h2 => ?_)) <;> (try simp only [Int.toNat_natCast] at h2) <;> (conv => whnf)
    · repeat' ((first | refine Need.auto ?_ | refine Have.mk (fun _h => ?_)); conv => whnf)
      have ha : isActive (d.zones.getD zone.toNat default).state = true := by simp only [isActive, decide_eq_true_eq]; omega
      have h3 : isOpen (d.zones.getD zone.toNat default).state = false := by simp only [isOpen, decide_eq_false_iff_not]; omega
      have e : closeE d zone = 0 := by simp only [closeE, if_pos h1]; rw [ha]; rfl
      rw [e, show closeD d zone = d by simp only [closeD, e]; rw [h3]; rfl]
      exact RM.imm rfl (wkS.imm rfl)
    · repeat' ((first | refine Need.auto ?_ | refine Have.mk (fun _h => ?_)); conv => whnf)
      (first | refine Br.lt (fun h3 => ?_) (fun h3 => ?_) | refine Br.le (fun h3 => ?_) (fun h3 => ?_) | refine Br.gt (fun h3 => ?_) (fun h3 => ?_) | refine Br.ge (fun h3 => ?_) (fun h3 => ?_) | refine Br.eq (fun h3 => ?_) (fun h3 => ?_) | refine Br.ne (fun h3 => ?_) (fun h3 => ?_) | refine Br.not (fun h3 => ?_) (fun h3 => ?_) | refine Br.mk (fun h3 => ?_) (fun h3 => ?_)) <;> (try simp only [Int.toNat_natCast] at h3) <;> (conv => whnf)
      · repeat' ((first | refine Need.auto ?_ | refine Have.mk (fun _h => ?_)); conv => whnf)
        refine Br.yes (by simpa using h3) ?_
        conv => whnf
        repeat' ((first | refine Need.auto ?_ | refine Have.mk (fun _h => ?_)); conv => whnf)
        refine Dr.mk hΓ hMix (by kernel_rfl) ?_; conv => whnf
        repeat' ((first | refine Need.auto ?_ | refine Have.mk (fun _h => ?_)); conv => whnf)
        refine CallP.mk shut_ref_body (shut_ref_spec (d.zones.getD zone.toNat default) ) (leA.refl rfl) rfl ?_
        conv => whnf
        repeat' ((first | refine Need.auto ?_ | refine Have.mk (fun _h => ?_)); conv => whnf)
        refine CallP.mk with_body (with_spec d hz zone ⟨hz0, hz1⟩ (shutZ (d.zones.getD zone.toNat default)) ) (leA.refl rfl) rfl ?_
        conv => whnf
        repeat' ((first | refine Need.auto ?_ | refine Have.mk (fun _h => ?_)); conv => whnf)
        exact fin _ _ (by simp only [isOpen, decide_eq_true_eq]; omega) rfl
      · repeat' ((first | refine Need.auto ?_ | refine Have.mk (fun _h => ?_)); conv => whnf)
        (first | refine Br.lt (fun h4 => ?_) (fun h4 => ?_) | refine Br.le (fun h4 => ?_) (fun h4 => ?_) | refine Br.gt (fun h4 => ?_) (fun h4 => ?_) | refine Br.ge (fun h4 => ?_) (fun h4 => ?_) | refine Br.eq (fun h4 => ?_) (fun h4 => ?_) | refine Br.ne (fun h4 => ?_) (fun h4 => ?_) | refine Br.not (fun h4 => ?_) (fun h4 => ?_) | refine Br.mk (fun h4 => ?_) (fun h4 => ?_)) <;> (try simp only [Int.toNat_natCast] at h4) <;> (conv => whnf)
        · repeat' ((first | refine Need.auto ?_ | refine Have.mk (fun _h => ?_)); conv => whnf)
          refine Dr.mk hΓ hMix (by kernel_rfl) ?_; conv => whnf
          repeat' ((first | refine Need.auto ?_ | refine Have.mk (fun _h => ?_)); conv => whnf)
          refine CallP.mk shut_ref_body (shut_ref_spec (d.zones.getD zone.toNat default) ) (leA.refl rfl) rfl ?_
          conv => whnf
          repeat' ((first | refine Need.auto ?_ | refine Have.mk (fun _h => ?_)); conv => whnf)
          refine CallP.mk with_body (with_spec d hz zone ⟨hz0, hz1⟩ (shutZ (d.zones.getD zone.toNat default)) ) (leA.refl rfl) rfl ?_
          conv => whnf
          repeat' ((first | refine Need.auto ?_ | refine Have.mk (fun _h => ?_)); conv => whnf)
          exact fin _ _ (by simp only [isOpen, decide_eq_true_eq]; omega) rfl
        · repeat' ((first | refine Need.auto ?_ | refine Have.mk (fun _h => ?_)); conv => whnf)
          have ha : isActive (d.zones.getD zone.toNat default).state = false := by simp only [isActive, decide_eq_false_iff_not]; omega
          have e : closeE d zone = 6 := by simp only [closeE, if_pos h1]; rw [ha]; rfl
          rw [e, show closeD d zone = d by simp only [closeD, e]; rfl]
          exact RM.imm rfl (wkS.imm rfl)
theorem close_ref_body : HasBody Try.prog 63 := ⟨⟨Try.f63, Try.func63, rfl, by kernel_rfl⟩⟩
end Go.Proofs
end
