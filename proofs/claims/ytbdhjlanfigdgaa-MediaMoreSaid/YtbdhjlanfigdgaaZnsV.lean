/- Part of the proofs of laws of this seat: contracts and plain lemmas; no condition is added to a statement. -/
import Derived.Test.YtbdhjlanfigdgaaEnvV
import Derived.Test.YtbdhjlanfigdgaaModsV
set_option linter.unusedSimpArgs false
set_option linter.unusedVariables false
section
open Go Go.Am
namespace Go.Proofs
theorem opened_spec (n : Int) : PSpec Try.prog 51 [.c (.int .i64 n)] (.c (.bool (isOpen n))) := by
  refine CSpec.of_vc hΓ Try.func51 rfl 9 0 [.tmp 2] Try.ntmps51 rfl (by rw [Try.results51]) rfl ?_
  conv => whnf
  repeat' ((first | refine Need.auto ?_ | refine Have.mk (fun _h => ?_)); conv => whnf)
  simp only [S.c.injEq, C.bool.injEq, isOpen]
  rw [Bool.eq_iff_iff]
  simp

theorem opened_body : HasBody Try.prog 51 := ⟨⟨Try.f51, Try.func51, rfl, by kernel_rfl⟩⟩

theorem counts_spec (d : Dev) : PSpec Try.prog 33 [d.s] (.t [.inl (.int .i64 (cntOpen d.zones)), .inl (.int .i64 (cntActive d.zones))]) := by
  refine CSpec.of_vc hΓ Try.func33 rfl 30 0 [.tmp 2, .tmp 3] Try.ntmps33 rfl (by rw [Try.results33]) rfl ?_
  conv => whnf
  repeat' ((first | refine Need.auto ?_ | refine Have.mk (fun _h => ?_)); conv => whnf)
  refine Lp.mk hΓ (ι := Nat) (fun k => [(9, .c (.int .i64 k)), (2, .c (.int .i64 (cntOpen (d.zones.take k)))), (3, .c (.int .i64 (cntActive (d.zones.take k)))), (7, .c (zonesC d.zones)), (8, .c (.int .i64 d.zones.length))])
    (fun _ => []) (fun k => k ≤ d.zones.length) (fun k => d.zones.length - k) 0 (Nat.zero_le _) ?_ ?_
  · refine Mv.mk' 0 rfl trivial ?_ (Nat.le_refl _)
    exact ⟨wkS.imm rfl, wkS.imm rfl, wkS.imm rfl, wkS.imm rfl, wkS.imm rfl, trivial⟩
  · intro k hk
    conv => whnf
    repeat' ((first | refine Need.auto ?_ | refine Have.mk (fun _h => ?_)); conv => whnf)
    (first | refine Br.lt (fun h => ?_) (fun h => ?_) | refine Br.le (fun h => ?_) (fun h => ?_) | refine Br.gt (fun h => ?_) (fun h => ?_) | refine Br.ge (fun h => ?_) (fun h => ?_) | refine Br.eq (fun h => ?_) (fun h => ?_) | refine Br.ne (fun h => ?_) (fun h => ?_) | refine Br.not (fun h => ?_) (fun h => ?_) | refine Br.mk (fun h => ?_) (fun h => ?_)) <;> (try simp only [Int.toNat_natCast] at h) <;> (conv => whnf)
    · repeat' ((first | refine Need.auto ?_ | refine Have.mk (fun _h => ?_)); conv => whnf)
      refine CallN.pure opened_body (opened_spec _ ) (leA.refl rfl) rfl ?_
      conv => whnf
      repeat' ((first | refine Need.auto ?_ | refine Have.mk (fun _h => ?_)); conv => whnf)
      have hlt : k < d.zones.length := by omega
      have e1 := cntOpen_snoc d.zones k hlt
      have e2 := cntActive_snoc d.zones k hlt
      have l1 := cntOpen_le (d.zones.take (k + 1))
      have l2 := cntActive_le (d.zones.take (k + 1))
      have l3 : (d.zones.take (k + 1)).length ≤ d.zones.length := by simp; omega
      have w0 := wrap_id (↑k + 1) (by omega) (by omega)
      (first | refine Br.lt (fun ho => ?_) (fun ho => ?_) | refine Br.le (fun ho => ?_) (fun ho => ?_) | refine Br.gt (fun ho => ?_) (fun ho => ?_) | refine Br.ge (fun ho => ?_) (fun ho => ?_) | refine Br.eq (fun ho => ?_) (fun ho => ?_) | refine Br.ne (fun ho => ?_) (fun ho => ?_) | refine Br.not (fun ho => ?_) (fun ho => ?_) | refine Br.mk (fun ho => ?_) (fun ho => ?_)) <;> (try simp only [Int.toNat_natCast] at ho) <;> (conv => whnf)
      · repeat' ((first | refine Need.auto ?_ | refine Have.mk (fun _h => ?_)); conv => whnf)
        have ha : isActive (d.zones.getD k default).state = true := by
          try simp only [Int.toNat_natCast] at ho
          simp only [isOpen, isActive, decide_eq_true_eq] at ho ⊢; omega
        try simp only [Int.toNat_natCast] at ho
        rw [ho] at e1
        rw [ha] at e2
        have w1 := wrap_id (↑(cntOpen (d.zones.take k)) + 1) (by omega) (by simp at e1; omega)
        have w2 := wrap_id (↑(cntActive (d.zones.take k)) + 1) (by omega) (by simp at e2; omega)
        refine ⟨k + 1, by omega, by omega, Mv.mk' 0 rfl trivial ⟨wkS.c (wkC.int (by rw [w0]; rfl)), wkS.c (wkC.int (by rw [w1, e1]; rfl)), wkS.c (wkC.int (by rw [w2, e2]; rfl)), wkS.imm rfl, wkS.imm rfl, trivial⟩ (Nat.le_refl _)⟩
      · repeat' ((first | refine Need.auto ?_ | refine Have.mk (fun _h => ?_)); conv => whnf)
        try simp only [Int.toNat_natCast] at ho
        rw [ho] at e1
        (first | refine Br.lt (fun hc => ?_) (fun hc => ?_) | refine Br.le (fun hc => ?_) (fun hc => ?_) | refine Br.gt (fun hc => ?_) (fun hc => ?_) | refine Br.ge (fun hc => ?_) (fun hc => ?_) | refine Br.eq (fun hc => ?_) (fun hc => ?_) | refine Br.ne (fun hc => ?_) (fun hc => ?_) | refine Br.not (fun hc => ?_) (fun hc => ?_) | refine Br.mk (fun hc => ?_) (fun hc => ?_)) <;> (try simp only [Int.toNat_natCast] at hc) <;> (conv => whnf)
        · repeat' ((first | refine Need.auto ?_ | refine Have.mk (fun _h => ?_)); conv => whnf)
          try simp only [Int.toNat_natCast] at hc
          have ha : isActive (d.zones.getD k default).state = true := by simp only [isActive, decide_eq_true_eq]; omega
          rw [ha] at e2
          have w2 := wrap_id (↑(cntActive (d.zones.take k)) + 1) (by omega) (by simp at e2; omega)
          refine ⟨k + 1, by omega, by omega, Mv.mk' 0 rfl trivial ⟨wkS.c (wkC.int (by rw [w0]; rfl)), wkS.c (wkC.int (by rw [e1]; rfl)), wkS.c (wkC.int (by rw [w2, e2]; rfl)), wkS.imm rfl, wkS.imm rfl, trivial⟩ (Nat.le_refl _)⟩
        · repeat' ((first | refine Need.auto ?_ | refine Have.mk (fun _h => ?_)); conv => whnf)
          try simp only [Int.toNat_natCast] at hc
          have ha : isActive (d.zones.getD k default).state = false := by
            simp only [isOpen, decide_eq_false_iff_not] at ho
            simp only [isActive, decide_eq_false_iff_not]; omega
          rw [ha] at e2
          refine ⟨k + 1, by omega, by omega, Mv.mk' 0 rfl trivial ⟨wkS.c (wkC.int (by rw [w0]; rfl)), wkS.c (wkC.int (by rw [e1]; rfl)), wkS.c (wkC.int (by rw [e2]; rfl)), wkS.imm rfl, wkS.imm rfl, trivial⟩ (Nat.le_refl _)⟩
    · repeat' ((first | refine Need.auto ?_ | refine Have.mk (fun _h => ?_)); conv => whnf)
      have : k = d.zones.length := by omega
      subst this
      simp
theorem counts_body : HasBody Try.prog 33 := ⟨⟨Try.f33, Try.func33, rfl, by kernel_rfl⟩⟩
theorem right_spec (z : Zone) (size : Int) (hs : 3 ≤ size) : PSpec Try.prog 64 [z.s, .c (.int .i64 size)] (.c (.bool (right z size))) := by
  have F : ∀ (b : Bool), right z size = b → (S.c (C.bool b) = S.c (.bool (right z size))) := fun b h => by rw [h]
  refine CSpec.of_vc hΓ Try.func64 rfl 78 0 [.tmp 4] Try.ntmps64 rfl (by rw [Try.results64]) rfl ?_
  conv => whnf
  repeat' ((first | refine Need.auto ?_ | refine Have.mk (fun _h => ?_)); conv => whnf)
  (first | refine Br.lt (fun h1 => ?_) (fun h1 => ?_) | refine Br.le (fun h1 => ?_) (fun h1 => ?_) | refine Br.gt (fun h1 => ?_) (fun h1 => ?_) | refine Br.ge (fun h1 => ?_) (fun h1 => ?_) | refine Br.eq (fun h1 => ?_) (fun h1 => ?_) | refine Br.ne (fun h1 => ?_) (fun h1 => ?_) | refine Br.not (fun h1 => ?_) (fun h1 => ?_) | (refine Br.mk (fun h1 => ?_) (fun h1 => ?_) <;> simp [-List.length_eq_zero_iff, -List.getD_eq_getElem?_getD] at h1)) <;> (try simp only [Int.toNat_natCast] at h1) <;> (conv => whnf)
  · conv => whnf
    repeat' ((first | refine Need.auto ?_ | refine Have.mk (fun _h => ?_)); conv => whnf)
    refine F _ ?_
    simp only [right, Bool.and_eq_false_iff, decide_eq_false_iff_not]; left; omega
  · repeat' ((first | refine Need.auto ?_ | refine Have.mk (fun _h => ?_)); conv => whnf)
    (first | refine Br.lt (fun h2 => ?_) (fun h2 => ?_) | refine Br.le (fun h2 => ?_) (fun h2 => ?_) | refine Br.gt (fun h2 => ?_) (fun h2 => ?_) | refine Br.ge (fun h2 => ?_) (fun h2 => ?_) | refine Br.eq (fun h2 => ?_) (fun h2 => ?_) | refine Br.ne (fun h2 => ?_) (fun h2 => ?_) | refine Br.not (fun h2 => ?_) (fun h2 => ?_) | (refine Br.mk (fun h2 => ?_) (fun h2 => ?_) <;> simp [-List.length_eq_zero_iff, -List.getD_eq_getElem?_getD] at h2)) <;> (try simp only [Int.toNat_natCast] at h2) <;> (conv => whnf)
    · repeat' ((first | refine Need.auto ?_ | refine Have.mk (fun _h => ?_)); conv => whnf)
      refine F _ ?_
      simp only [right, Bool.and_eq_false_iff, decide_eq_false_iff_not]; left; omega
    · repeat' ((first | refine Need.auto ?_ | refine Have.mk (fun _h => ?_)); conv => whnf)
      (first | refine Br.lt (fun h3 => ?_) (fun h3 => ?_) | refine Br.le (fun h3 => ?_) (fun h3 => ?_) | refine Br.gt (fun h3 => ?_) (fun h3 => ?_) | refine Br.ge (fun h3 => ?_) (fun h3 => ?_) | refine Br.eq (fun h3 => ?_) (fun h3 => ?_) | refine Br.ne (fun h3 => ?_) (fun h3 => ?_) | refine Br.not (fun h3 => ?_) (fun h3 => ?_) | (refine Br.mk (fun h3 => ?_) (fun h3 => ?_) <;> simp [-List.length_eq_zero_iff, -List.getD_eq_getElem?_getD] at h3)) <;> (try simp only [Int.toNat_natCast] at h3) <;> (conv => whnf)
      · repeat' ((first | refine Need.auto ?_ | refine Have.mk (fun _h => ?_)); conv => whnf)
        refine F _ ?_
        simp only [right, Bool.and_eq_false_iff, decide_eq_false_iff_not]; left; omega
      · repeat' ((first | refine Need.auto ?_ | refine Have.mk (fun _h => ?_)); conv => whnf)
        (first | refine Br.lt (fun h4 => ?_) (fun h4 => ?_) | refine Br.le (fun h4 => ?_) (fun h4 => ?_) | refine Br.gt (fun h4 => ?_) (fun h4 => ?_) | refine Br.ge (fun h4 => ?_) (fun h4 => ?_) | refine Br.eq (fun h4 => ?_) (fun h4 => ?_) | refine Br.ne (fun h4 => ?_) (fun h4 => ?_) | refine Br.not (fun h4 => ?_) (fun h4 => ?_) | (refine Br.mk (fun h4 => ?_) (fun h4 => ?_) <;> simp [-List.length_eq_zero_iff, -List.getD_eq_getElem?_getD] at h4)) <;> (try simp only [Int.toNat_natCast] at h4) <;> (conv => whnf)
        · repeat' ((first | refine Need.auto ?_ | refine Have.mk (fun _h => ?_)); conv => whnf)
          refine F _ ?_
          simp only [right, Bool.and_eq_false_iff, decide_eq_false_iff_not]; left; omega
        · repeat' ((first | refine Need.auto ?_ | refine Have.mk (fun _h => ?_)); conv => whnf)
          (first | refine Br.lt (fun h5 => ?_) (fun h5 => ?_) | refine Br.le (fun h5 => ?_) (fun h5 => ?_) | refine Br.gt (fun h5 => ?_) (fun h5 => ?_) | refine Br.ge (fun h5 => ?_) (fun h5 => ?_) | refine Br.eq (fun h5 => ?_) (fun h5 => ?_) | refine Br.ne (fun h5 => ?_) (fun h5 => ?_) | refine Br.not (fun h5 => ?_) (fun h5 => ?_) | (refine Br.mk (fun h5 => ?_) (fun h5 => ?_) <;> simp [-List.length_eq_zero_iff, -List.getD_eq_getElem?_getD] at h5)) <;> (try simp only [Int.toNat_natCast] at h5) <;> (conv => whnf)
          · repeat' ((first | refine Need.auto ?_ | refine Have.mk (fun _h => ?_)); conv => whnf)
            refine F _ ?_
            simp only [right, Bool.and_eq_false_iff, decide_eq_false_iff_not]; left; omega
          · repeat' ((first | refine Need.auto ?_ | refine Have.mk (fun _h => ?_)); conv => whnf)
            have hP : right z size = secsOk z.sectors := by
              have : decide (0 ≤ z.state ∧ z.state ≤ 5 ∧ (z.sectors.length : Int) ≤ size ∧ 0 ≤ z.durable ∧ z.durable ≤ z.sectors.length ∧ (z.state = 0 ∨ z.state = 5 → z.sectors.length = 0) ∧ (z.state = 4 → z.durable = z.sectors.length) ∧
    (z.state ≠ 0 → z.state ≠ 4 → z.state ≠ 5 → (z.sectors.length : Int) < size)) = true := by
                simp only [decide_eq_true_eq]; omega
              simp only [right, this, Bool.true_and]
            refine Lp.mk hΓ (ι := Nat) (fun k => [(70, .c (.int .i64 k)), (69, .c (.int .i64 z.sectors.length)), (68, .c (strsC z.sectors))]) (fun _ => []) (fun k => k ≤ z.sectors.length ∧ secsOk (z.sectors.take k) = true) (fun k => z.sectors.length - k) 0 ⟨Nat.zero_le _, rfl⟩ ?_ ?_
            · exact Mv.mk' 0 rfl trivial ⟨wkS.imm rfl, wkS.imm rfl, wkS.imm rfl, trivial⟩ (Nat.le_refl _)
            · rintro k ⟨hk, hk2⟩
              conv => whnf
              repeat' ((first | refine Need.auto ?_ | refine Have.mk (fun _h => ?_)); conv => whnf)
              (first | refine Br.lt (fun h => ?_) (fun h => ?_) | refine Br.le (fun h => ?_) (fun h => ?_) | refine Br.gt (fun h => ?_) (fun h => ?_) | refine Br.ge (fun h => ?_) (fun h => ?_) | refine Br.eq (fun h => ?_) (fun h => ?_) | refine Br.ne (fun h => ?_) (fun h => ?_) | refine Br.not (fun h => ?_) (fun h => ?_) | refine Br.mk (fun h => ?_) (fun h => ?_)) <;> (try simp only [Int.toNat_natCast] at h) <;> (conv => whnf)
              · repeat' ((first | refine Need.auto ?_ | refine Have.mk (fun _h => ?_)); conv => whnf)
                have hlt : k < z.sectors.length := by omega
                (first | refine Br.lt (fun h6 => ?_) (fun h6 => ?_) | refine Br.le (fun h6 => ?_) (fun h6 => ?_) | refine Br.gt (fun h6 => ?_) (fun h6 => ?_) | refine Br.ge (fun h6 => ?_) (fun h6 => ?_) | refine Br.eq (fun h6 => ?_) (fun h6 => ?_) | refine Br.ne (fun h6 => ?_) (fun h6 => ?_) | refine Br.not (fun h6 => ?_) (fun h6 => ?_) | (refine Br.mk (fun h6 => ?_) (fun h6 => ?_) <;> simp [-List.length_eq_zero_iff, -List.getD_eq_getElem?_getD] at h6)) <;> (try simp only [Int.toNat_natCast] at h6) <;> (conv => whnf)
                · repeat' ((first | refine Need.auto ?_ | refine Have.mk (fun _h => ?_)); conv => whnf)
                  refine F _ ?_
                  rw [hP]
                  exact secsOk_get _ k hlt (by simp at h6 ⊢; omega)
                · repeat' ((first | refine Need.auto ?_ | refine Have.mk (fun _h => ?_)); conv => whnf)
                  have w0 := wrap_id (↑k + 1) (by omega) (by omega)
                  refine ⟨k + 1, ⟨by omega, ?_⟩, by omega, Mv.mk' 0 rfl trivial ⟨wkS.c (wkC.int (by rw [w0]; rfl)), wkS.imm rfl, wkS.imm rfl, trivial⟩ (Nat.le_refl _)⟩
                  rw [secsOk_snoc _ _ hlt, hk2]
                  simp at h6 ⊢; omega
              · repeat' ((first | refine Need.auto ?_ | refine Have.mk (fun _h => ?_)); conv => whnf)
                have : k = z.sectors.length := by omega
                subst this
                refine F _ ?_
                rw [hP]
                simpa using hk2
theorem right_body : HasBody Try.prog 64 := ⟨⟨Try.f64, Try.func64, rfl, by kernel_rfl⟩⟩

theorem check_spec (d : Dev) : PSpec Try.prog 31 [d.s] (.c (.int .i64 (check d))) := by
  refine CSpec.of_vc hΓ Try.func31 rfl 75 0 [.tmp 2] Try.ntmps31 rfl (by rw [Try.results31]) rfl ?_
  conv => whnf
  repeat' ((first | refine Need.auto ?_ | refine Have.mk (fun _h => ?_)); conv => whnf)
  (first | refine Br.lt (fun h1 => ?_) (fun h1 => ?_) | refine Br.le (fun h1 => ?_) (fun h1 => ?_) | refine Br.gt (fun h1 => ?_) (fun h1 => ?_) | refine Br.ge (fun h1 => ?_) (fun h1 => ?_) | refine Br.eq (fun h1 => ?_) (fun h1 => ?_) | refine Br.ne (fun h1 => ?_) (fun h1 => ?_) | refine Br.not (fun h1 => ?_) (fun h1 => ?_) | (refine Br.mk (fun h1 => ?_) (fun h1 => ?_) <;> simp [-List.length_eq_zero_iff, -List.getD_eq_getElem?_getD] at h1)) <;> (try simp only [Int.toNat_natCast] at h1) <;> (conv => whnf)
  · repeat' ((first | refine Need.auto ?_ | refine Have.mk (fun _h => ?_)); conv => whnf)
    have : confOk d = false := by simp only [confOk, decide_eq_false_iff_not]; omega
    simp only [check, this]; rfl
  · repeat' ((first | refine Need.auto ?_ | refine Have.mk (fun _h => ?_)); conv => whnf)
    have hc : confOk d = true := by simp only [confOk, decide_eq_true_eq]; omega
    refine Lp.mk hΓ (ι := Nat) (fun k => [(50, .c (.int .i64 k)), (49, .c (.int .i64 d.zones.length)), (48, .c (zonesC d.zones)), (1, .c (.ptr 0 0))])
      (fun _ => [.vr [.int .i64 d.size, .int .i64 d.maxOpen, .int .i64 d.maxActive, zonesC d.zones]]) (fun k => k ≤ d.zones.length ∧ (d.zones.take k).all (fun z => Am.right z d.size) = true) (fun k => d.zones.length - k) 0 ⟨Nat.zero_le _, rfl⟩ ?_ ?_
    · exact Mv.mk' 1 rfl ⟨O.wk.vr (immL_wk rfl), trivial⟩ ⟨wkS.imm rfl, wkS.imm rfl, wkS.imm rfl, wkS.c (wkC.ptr (by decide)), trivial⟩ (Nat.zero_le _)
    · rintro k ⟨hk, hk2⟩
      conv => whnf
      repeat' ((first | refine Need.auto ?_ | refine Have.mk (fun _h => ?_)); conv => whnf)
      (first | refine Br.lt (fun h => ?_) (fun h => ?_) | refine Br.le (fun h => ?_) (fun h => ?_) | refine Br.gt (fun h => ?_) (fun h => ?_) | refine Br.ge (fun h => ?_) (fun h => ?_) | refine Br.eq (fun h => ?_) (fun h => ?_) | refine Br.ne (fun h => ?_) (fun h => ?_) | refine Br.not (fun h => ?_) (fun h => ?_) | refine Br.mk (fun h => ?_) (fun h => ?_)) <;> (try simp only [Int.toNat_natCast] at h) <;> (conv => whnf)
      · repeat' ((first | refine Need.auto ?_ | refine Have.mk (fun _h => ?_)); conv => whnf)
        have hlt : k < d.zones.length := by omega
        refine CallN.pure right_body (right_spec (d.zones.getD k default) d.size (by omega) ) (leA.refl rfl) rfl ?_
        conv => whnf
        repeat' ((first | refine Need.auto ?_ | refine Have.mk (fun _h => ?_)); conv => whnf)
        (first | refine Br.lt (fun h2 => ?_) (fun h2 => ?_) | refine Br.le (fun h2 => ?_) (fun h2 => ?_) | refine Br.gt (fun h2 => ?_) (fun h2 => ?_) | refine Br.ge (fun h2 => ?_) (fun h2 => ?_) | refine Br.eq (fun h2 => ?_) (fun h2 => ?_) | refine Br.ne (fun h2 => ?_) (fun h2 => ?_) | refine Br.not (fun h2 => ?_) (fun h2 => ?_) | refine Br.mk (fun h2 => ?_) (fun h2 => ?_)) <;> (try simp only [Int.toNat_natCast] at h2) <;> (conv => whnf)
        · repeat' ((first | refine Need.auto ?_ | refine Have.mk (fun _h => ?_)); conv => whnf)
          have : d.zones.all (fun z => Am.right z d.size) = false := all_get_false _ _ k hlt h2
          simp only [check, hc, this]; rfl
        · repeat' ((first | refine Need.auto ?_ | refine Have.mk (fun _h => ?_)); conv => whnf)
          have w0 := wrap_id (↑k + 1) (by omega) (by omega)
          refine ⟨k + 1, ⟨by omega, ?_⟩, by omega, Mv.mk' 1 rfl ⟨O.wk.vr (immL_wk rfl), trivial⟩ ⟨wkS.c (wkC.int (by rw [w0]; rfl)), wkS.imm rfl, wkS.imm rfl, wkS.c (wkC.ptr (by decide)), trivial⟩ (Nat.zero_le _)⟩
          rw [all_snoc _ _ k hlt, hk2, h2]; rfl
      · repeat' ((first | refine Need.auto ?_ | refine Have.mk (fun _h => ?_)); conv => whnf)
        have : k = d.zones.length := by omega
        subst this
        have hall : d.zones.all (fun z => Am.right z d.size) = true := by simpa using hk2
        refine CallN.pure counts_body (counts_spec d ) (leA.refl rfl) rfl ?_
        conv => whnf
        repeat' ((first | refine Need.auto ?_ | refine Have.mk (fun _h => ?_)); conv => whnf)
        (first | refine Br.lt (fun h3 => ?_) (fun h3 => ?_) | refine Br.le (fun h3 => ?_) (fun h3 => ?_) | refine Br.gt (fun h3 => ?_) (fun h3 => ?_) | refine Br.ge (fun h3 => ?_) (fun h3 => ?_) | refine Br.eq (fun h3 => ?_) (fun h3 => ?_) | refine Br.ne (fun h3 => ?_) (fun h3 => ?_) | refine Br.not (fun h3 => ?_) (fun h3 => ?_) | (refine Br.mk (fun h3 => ?_) (fun h3 => ?_) <;> simp [-List.length_eq_zero_iff, -List.getD_eq_getElem?_getD] at h3)) <;> (try simp only [Int.toNat_natCast] at h3) <;> (conv => whnf)
        · repeat' ((first | refine Need.auto ?_ | refine Have.mk (fun _h => ?_)); conv => whnf)
          have : decide ((cntOpen d.zones : Int) ≤ d.maxOpen ∧ (cntActive d.zones : Int) ≤ d.maxActive) = false := by simp only [decide_eq_false_iff_not]; omega
          simp only [check, hc, hall, this]; rfl
        · repeat' ((first | refine Need.auto ?_ | refine Have.mk (fun _h => ?_)); conv => whnf)
          have : decide ((cntOpen d.zones : Int) ≤ d.maxOpen ∧ (cntActive d.zones : Int) ≤ d.maxActive) = true := by simp only [decide_eq_true_eq]; omega
          simp only [check, hc, hall, this]; rfl
theorem check_body : HasBody Try.prog 31 := ⟨⟨Try.f31, Try.func31, rfl, by kernel_rfl⟩⟩

theorem new_spec (zones size open_ act : Int) (hz : -9223372036854775808 ≤ zones ∧ zones ≤ 9223372036854775807) : PSpec Try.prog 23 [.c (.int .i64 zones), .c (.int .i64 size), .c (.int .i64 open_), .c (.int .i64 act)] (.t [.inr (newD zones size open_ act).cells, .inl (.int .i64 (newE zones size open_ act))]) := by
  refine PSpec.rm ?_
  refine CSpec.of_vc hΓ Try.func23 rfl 32 0 [.cell 8 24, .tmp 9] Try.ntmps23 rfl (by rw [Try.results23]) rfl ?_
  conv => whnf
  repeat' ((first | refine Need.auto ?_ | refine Have.mk (fun _h => ?_)); conv => whnf)
  (first | refine Br.lt (fun h1 => ?_) (fun h1 => ?_) | refine Br.le (fun h1 => ?_) (fun h1 => ?_) | refine Br.gt (fun h1 => ?_) (fun h1 => ?_) | refine Br.ge (fun h1 => ?_) (fun h1 => ?_) | refine Br.eq (fun h1 => ?_) (fun h1 => ?_) | refine Br.ne (fun h1 => ?_) (fun h1 => ?_) | refine Br.not (fun h1 => ?_) (fun h1 => ?_) | (refine Br.mk (fun h1 => ?_) (fun h1 => ?_) <;> simp [-List.length_eq_zero_iff, -List.getD_eq_getElem?_getD] at h1)) <;> (try simp only [Int.toNat_natCast] at h1) <;> (conv => whnf)
  · repeat' ((first | refine Need.auto ?_ | refine Have.mk (fun _h => ?_)); conv => whnf)
    have he : newE zones size open_ act = 11 := by
      have : decide (1 ≤ zones ∧ zones ≤ 32) = false := by simp only [decide_eq_false_iff_not]; omega
      simp only [newE, this]; rfl
    have hd : newD zones size open_ act = dev0 := by simp only [newD, he]; rfl
    rw [he, hd]
    exact RM.imm rfl (wkS.t ⟨⟨wkC.imm rfl, wkC.imm rfl, wkC.imm rfl, wkC.nil rfl, trivial⟩, wkC.imm rfl, trivial⟩)
  · repeat' ((first | refine Need.auto ?_ | refine Have.mk (fun _h => ?_)); conv => whnf)
    have hh : decide (1 ≤ zones ∧ zones ≤ 32) = true := by simp only [decide_eq_true_eq]; omega
    have hlen : zones.toNat = (List.replicate zones.toNat zone0).length := by simp
    have hfz : ∀ (x : Bool), leF (.isl 3 zones.toNat (zeroG [.int .i64 0, .int .i64 0, .nils]) x) (zonesC (List.replicate zones.toNat zone0)) := fun x => leF.isl hlen (fun i hi j hj => zone0_cells _ rfl _ i j hi hj) (fun e => by cases e)
    have hcells := fun i hi j hj => zone0_cells _ rfl zones.toNat i j hi hj
    refine CallN.fzTo 1 rfl (Nat.zero_le _) (zone0_imm _ rfl _) (ts' := [(8, .c (.ptr 0 0)), (10, .c (.ptr 2 0))]) (args' := [(newX zones size open_ act).s]) (H' := [.vr [.int .i64 0, .int .i64 0, .int .i64 0, .nils], .dead, .vr (newX zones size open_ act).cells]) 3 rfl
      ⟨O.wk.vr (immL_wk rfl), trivial, O.wk.vr ⟨wkC.imm rfl, wkC.imm rfl, wkC.imm rfl, wkC.fz rfl hlen hcells (fun e => by cases e), trivial⟩, trivial⟩
      ⟨wkS.c (wkC.ptr (by decide)), wkS.c (wkC.ptr (by decide)), trivial⟩
      ⟨wkS.a ⟨wkC.imm rfl, wkC.imm rfl, wkC.imm rfl, wkC.fz rfl hlen hcells (fun e => by cases e), trivial⟩, trivial⟩ (Nat.zero_le _) ?_
    refine CallN.pure check_body (check_spec (newX zones size open_ act) ) (leA.refl rfl) rfl ?_
    conv => whnf
    repeat' ((first | refine Need.auto ?_ | refine Have.mk (fun _h => ?_)); conv => whnf)
    (first | refine Br.lt (fun h2 => ?_) (fun h2 => ?_) | refine Br.le (fun h2 => ?_) (fun h2 => ?_) | refine Br.gt (fun h2 => ?_) (fun h2 => ?_) | refine Br.ge (fun h2 => ?_) (fun h2 => ?_) | refine Br.eq (fun h2 => ?_) (fun h2 => ?_) | refine Br.ne (fun h2 => ?_) (fun h2 => ?_) | refine Br.not (fun h2 => ?_) (fun h2 => ?_) | refine Br.mk (fun h2 => ?_) (fun h2 => ?_)) <;> (try simp only [Int.toNat_natCast] at h2) <;> (conv => whnf)
    · repeat' ((first | refine Need.auto ?_ | refine Have.mk (fun _h => ?_)); conv => whnf)
      have he : newE zones size open_ act = check (newX zones size open_ act) := by simp only [newE, hh]; rfl
      have hd : newD zones size open_ act = dev0 := by simp only [newD, he]; rw [if_neg h2]
      rw [he, hd]
      exact RM.imm rfl (wkS.t ⟨⟨wkC.imm rfl, wkC.imm rfl, wkC.imm rfl, wkC.nil rfl, trivial⟩, wkC.imm rfl, trivial⟩)
    · repeat' ((first | refine Need.auto ?_ | refine Have.mk (fun _h => ?_)); conv => whnf)
      have he : newE zones size open_ act = 0 := by simp only [newE, hh]; exact h2
      have hd : newD zones size open_ act = newX zones size open_ act := by simp only [newD, he]; rfl
      rw [he, hd]
      exact RM.imm rfl (wkS.imm rfl)
theorem new_body : HasBody Try.prog 23 := ⟨⟨Try.f23, Try.func23, rfl, by kernel_rfl⟩⟩
end Go.Proofs
end

section
open Go Go.Am
namespace Go.Proofs

theorem clone_spec (d : Dev) (hd : d.small) : CSpec Try.prog 50 [d.s] [] fun s H => s = .a [.int .i64 d.size, .int .i64 d.maxOpen, .int .i64 d.maxActive, .sl 0 3 d.zones.length d.zones.length true] ∧ H = [.arr 28 3 d.zones.length (zoneAtT d.zones)] := by
  refine CSpec.rm ?_
  refine CSpec.of_vc hΓ Try.func50 rfl 45 0 [.cell 2 24] Try.ntmps50 rfl (by rw [Try.results50]) rfl ?_
  conv => whnf
  repeat' ((first | refine Need.auto ?_ | refine Have.mk (fun _h => ?_)); conv => whnf)
  have hz := hd.z
  refine Need.mk (by simp only []; omega) ?_
  conv => whnf
  repeat' ((first | refine Need.auto ?_ | refine Have.mk (fun _h => ?_)); conv => whnf)
  have hn : (d.zones.length : Int).toNat = d.zones.length := by simp
  refine Lp.mk hΓ (ι := Nat) (fun k => [(20, .c (.int .i64 k)), (19, .c (.int .i64 d.zones.length)), (18, .c (zonesC d.zones)), (2, .c (.ptr 1 0)), (3, .c (.ptr 2 0))])
    (fun k => [.vr d.cells, .vr dev0.cells, .vr [.int .i64 d.size, .int .i64 d.maxOpen, .int .i64 d.maxActive, .sl 3 3 d.zones.length d.zones.length true], .arr 28 3 d.zones.length (zoneAtK d.zones k)]) (fun k => k ≤ d.zones.length) (fun k => d.zones.length - k) 0 (Nat.zero_le _) ?_ ?_
  · refine Mv.mk' 4 rfl ⟨O.wk.vr (immL_wk rfl), O.wk.vr ⟨wkC.imm rfl, wkC.imm rfl, wkC.imm rfl, wkC.nil rfl, trivial⟩, O.wk.vr ⟨wkC.imm rfl, wkC.imm rfl, wkC.imm rfl, wkC.sl (by decide) hn hn (fun _ => rfl), trivial⟩, O.wk.arr hn (fun i hi j hj => wkC.of_eq (zoneAtK_imm _ _ _ _) ?_), trivial⟩
      ⟨wkS.imm rfl, wkS.imm rfl, wkS.imm rfl, wkS.c (wkC.ptr (by decide)), wkS.c (wkC.ptr (by decide)), trivial⟩ (Nat.zero_le _)
    simp only [copyG, zoneAtK]
    rw [if_pos (by omega), if_neg (by omega)]
    rfl
  · intro k hk
    conv => whnf
    repeat' ((first | refine Need.auto ?_ | refine Have.mk (fun _h => ?_)); conv => whnf)
    (first | refine Br.lt (fun h => ?_) (fun h => ?_) | refine Br.le (fun h => ?_) (fun h => ?_) | refine Br.gt (fun h => ?_) (fun h => ?_) | refine Br.ge (fun h => ?_) (fun h => ?_) | refine Br.eq (fun h => ?_) (fun h => ?_) | refine Br.ne (fun h => ?_) (fun h => ?_) | refine Br.not (fun h => ?_) (fun h => ?_) | refine Br.mk (fun h => ?_) (fun h => ?_)) <;> (try simp only [Int.toNat_natCast] at h) <;> (conv => whnf)
    · repeat' ((first | refine Need.auto ?_ | refine Have.mk (fun _h => ?_)); conv => whnf)
      have hlt : k < d.zones.length := by omega
      have hsec := hd.s k
      refine Dr.mk hΓ hMix (by kernel_rfl) ?_; conv => whnf
      repeat' ((first | refine Need.auto ?_ | refine Have.mk (fun _h => ?_)); conv => whnf)
      refine Dr.mk hΓ hMix (by kernel_rfl) ?_; conv => whnf
      repeat' ((first | refine Need.auto ?_ | refine Have.mk (fun _h => ?_)); conv => whnf)
      have hkn : (k : Int).toNat = k := by simp
      refine Frc.mk (.c (.sl 5 1 (d.zones.getD k default).sectors.length (d.zones.getD k default).sectors.length true)) ?_ ?_
      · simp [updG, lget, getL, sameOp]
      conv => whnf
      repeat' ((first | refine Need.auto ?_ | refine Have.mk (fun _h => ?_)); conv => whnf)
      have w0 := wrap_id (↑k + 1) (by omega) (by omega)
      refine ⟨k + 1, by omega, by omega, (Mv.fz 5 rfl (Nat.zero_le _) ?_).trans (Mv.mk' 4 rfl ⟨O.wk.vr (immL_wk rfl), O.wk.vr (immL_wk rfl), O.wk.vr ⟨wkC.imm rfl, wkC.imm rfl, wkC.imm rfl, wkC.sl (by decide) rfl rfl (fun e => e), trivial⟩, O.wk.arr rfl (fun i hi j hj => ?_), trivial⟩
        ⟨wkS.c (wkC.int (by rw [w0]; rfl)), wkS.imm rfl, wkS.imm rfl, wkS.c (wkC.ptr (by decide)), wkS.c (wkC.ptr (by decide)), trivial⟩ (Nat.zero_le _))⟩
      · intro i hi j hj
        simp only [Int.toNat_natCast] at hi ⊢
        simp only [copyG]
        rw [if_pos (by omega)]
        rfl
      · rw [updG_one, hkn]
        by_cases c : i = k ∧ j = 2
        · rw [if_pos (by simpa using c)]
          obtain ⟨rfl, rfl⟩ := c
          have e : zoneAtK d.zones (i + 1) i 2 = strsT (d.zones.getD i default).sectors := by
            simp only [zoneAtK]
            rw [if_pos (by omega)]
            rfl
          rw [e]
          refine wkC.fz rfl (by simp) (fun a ha b hb => leF.of_eq ?_) (fun _ => ⟨rfl, rfl⟩)
          simp only [Int.toNat_natCast] at ha ⊢
          simp only [copyG]
          rw [if_pos (by omega)]
        · rw [if_neg (by simpa using c), fzC_zoneAtK]
          refine wkC.of_eq (zoneAtK_imm _ _ _ _) ?_
          simp only [zoneAtK]
          by_cases c1 : i < k
          · rw [if_pos c1, if_pos (by omega)]
          · rw [if_neg c1]
            by_cases c2 : i = k
            · rw [if_pos (by omega), cellT_lt _ _ (by omega)]
            · rw [if_neg (by omega)]
    · repeat' ((first | refine Need.auto ?_ | refine Have.mk (fun _h => ?_)); conv => whnf)
      have : k = d.zones.length := by omega
      subst this
      refine ⟨_, _, RM.ren (fun _ => 3) 1 rfl ⟨?_, ?_⟩ ?_, rfl, rfl⟩
      · intro i o' hi
        match i with
        | 0 =>
          simp only [getL, Option.some.injEq] at hi
          subst hi
          exact ⟨_, rfl, O.wk.arr rfl fun i hi j hj => wkC.of_eq (zoneAtT_imm _ _ _) (zoneAtK_all _ _ _ hi)⟩
        | i + 1 => simp [getL] at hi
      · intro i j hi hj _
        simp only [List.length_cons, List.length_nil] at hi hj
        omega
      · exact wkS.a ⟨wkC.imm rfl, wkC.imm rfl, wkC.imm rfl, ⟨rfl, rfl, rfl, rfl, by decide, fun e => e⟩, trivial⟩
theorem clone_body : HasBody Try.prog 50 := ⟨⟨Try.f50, Try.func50, rfl, by kernel_rfl⟩⟩
end Go.Proofs
end

section
open Go Go.Am
namespace Go.Proofs

theorem begin_spec (d : Dev) (zone : Int) : CSpec Try.prog 49 [d.s, .c (.int .i64 zone)] [] (beginQ d zone) := by
  refine CSpec.rm ?_
  refine CSpec.of_vc hΓ Try.func49 rfl 33 0 [.cell 4 24, .tmp 5] Try.ntmps49 rfl (by rw [Try.results49]) rfl ?_
  conv => whnf
  refine CallN.pure check_body (check_spec d ) (leA.refl rfl) rfl ?_
  conv => whnf
  repeat' ((first | refine Need.auto ?_ | refine Have.mk (fun _h => ?_)); conv => whnf)
  have bad : ∀ (e : Int) (H : List O), beginE d zone = e → e ≠ 0 → ∃ s' H'', RM 0 (.t [.inr d.cells, .inl (.int .i64 e)]) H s' H'' ∧ beginQ d zone s' H'' := by
    intro e H he hne
    refine ⟨_, [], RM.imm rfl (wkS.imm rfl), ?_⟩
    unfold beginQ
    rw [if_neg (by rw [he]; exact hne), he]
    exact ⟨rfl, rfl⟩
  (first | refine Br.lt (fun h1 => ?_) (fun h1 => ?_) | refine Br.le (fun h1 => ?_) (fun h1 => ?_) | refine Br.gt (fun h1 => ?_) (fun h1 => ?_) | refine Br.ge (fun h1 => ?_) (fun h1 => ?_) | refine Br.eq (fun h1 => ?_) (fun h1 => ?_) | refine Br.ne (fun h1 => ?_) (fun h1 => ?_) | refine Br.not (fun h1 => ?_) (fun h1 => ?_) | refine Br.mk (fun h1 => ?_) (fun h1 => ?_)) <;> (try simp only [Int.toNat_natCast] at h1) <;> (conv => whnf)
  · repeat' ((first | refine Need.auto ?_ | refine Have.mk (fun _h => ?_)); conv => whnf)
    exact bad _ _ (by simp only [beginE]; rw [if_neg h1]) h1
  · repeat' ((first | refine Need.auto ?_ | refine Have.mk (fun _h => ?_)); conv => whnf)
    (first | refine Br.lt (fun h2 => ?_) (fun h2 => ?_) | refine Br.le (fun h2 => ?_) (fun h2 => ?_) | refine Br.gt (fun h2 => ?_) (fun h2 => ?_) | refine Br.ge (fun h2 => ?_) (fun h2 => ?_) | refine Br.eq (fun h2 => ?_) (fun h2 => ?_) | refine Br.ne (fun h2 => ?_) (fun h2 => ?_) | refine Br.not (fun h2 => ?_) (fun h2 => ?_) | (refine Br.mk (fun h2 => ?_) (fun h2 => ?_) <;> simp [-List.length_eq_zero_iff, -List.getD_eq_getElem?_getD] at h2)) <;> (try simp only [Int.toNat_natCast] at h2) <;> (conv => whnf)
    · repeat' ((first | refine Need.auto ?_ | refine Have.mk (fun _h => ?_)); conv => whnf)
      have : decide (0 ≤ zone ∧ zone < d.zones.length) = false := by simp only [decide_eq_false_iff_not]; omega
      exact bad _ _ (by simp only [beginE]; rw [if_pos h1, this]; rfl) (by decide)
    · repeat' ((first | refine Need.auto ?_ | refine Have.mk (fun _h => ?_)); conv => whnf)
      have hz : decide (0 ≤ zone ∧ zone < d.zones.length) = true := by simp only [decide_eq_true_eq]; omega
      (first | refine Br.lt (fun h3 => ?_) (fun h3 => ?_) | refine Br.le (fun h3 => ?_) (fun h3 => ?_) | refine Br.gt (fun h3 => ?_) (fun h3 => ?_) | refine Br.ge (fun h3 => ?_) (fun h3 => ?_) | refine Br.eq (fun h3 => ?_) (fun h3 => ?_) | refine Br.ne (fun h3 => ?_) (fun h3 => ?_) | refine Br.not (fun h3 => ?_) (fun h3 => ?_) | refine Br.mk (fun h3 => ?_) (fun h3 => ?_)) <;> (try simp only [Int.toNat_natCast] at h3) <;> (conv => whnf)
      · repeat' ((first | refine Need.auto ?_ | refine Have.mk (fun _h => ?_)); conv => whnf)
        exact bad _ _ (by simp only [beginE]; rw [if_pos h1, hz, if_pos rfl, if_pos h3]) (by decide)
      · repeat' ((first | refine Need.auto ?_ | refine Have.mk (fun _h => ?_)); conv => whnf)
        have he : beginE d zone = 0 := by simp only [beginE]; rw [if_pos h1, hz, if_pos rfl, if_neg h3]
        refine CallN.opens clone_body (clone_spec d (check_ok.1 h1).small) (leA.refl rfl) ?_
        rintro s Hc ⟨rfl, rfl⟩
        refine ⟨.a (d.own 2), [.vr d.cells, .vr [.int .i64 0, .int .i64 0, .int .i64 0, .nils], .arr 28 3 d.zones.length (zoneAtT d.zones)], rfl, congrArg (fun g => [O.vr d.cells, O.vr [.int .i64 0, .int .i64 0, .int .i64 0, .nils], O.arr 28 3 d.zones.length g]) (reC_zoneAtT _ _), ?_⟩
        conv => whnf
        repeat' ((first | refine Need.auto ?_ | refine Have.mk (fun _h => ?_)); conv => whnf)
        refine ⟨.t [.inr (d.own 0), .inl (.int .i64 0)], [.arr 28 3 d.zones.length (zoneAtT d.zones)], RM.ren1 2 rfl rfl (fun i hi j hj => wkC.imm (zoneAtT_imm _ _ _)) (wkS.t ⟨⟨wkC.imm rfl, wkC.imm rfl, wkC.imm rfl, wkC.own rfl rfl (fun e => e), trivial⟩, wkC.imm rfl, trivial⟩), ?_⟩
        unfold beginQ
        rw [if_pos he]
        exact ⟨rfl, rfl⟩
theorem begin_body : HasBody Try.prog 49 := ⟨⟨Try.f49, Try.func49, rfl, by kernel_rfl⟩⟩

theorem shut_spec (l : List Zone) (i : Nat) (hi : i < l.length) : CSpec Try.prog 68 [.c (.ep 0 i 0 l.length)] [.arr 28 3 l.length (zoneAtT l)] fun s H => s = .t [] ∧ H = [.arr 28 3 l.length (zoneAtT (shutAt l i))] := by
  refine CSpec.rm ?_
  refine CSpec.of_vc hΓ Try.func68 rfl 14 1 [] Try.ntmps68 rfl (by rw [Try.results68]) rfl ?_
  conv => whnf
  repeat' ((first | refine Need.auto ?_ | refine Have.mk (fun _h => ?_)); conv => whnf)
  refine Frc.mk (.c (strsT (l.getD i default).sectors)) (by simp only [updG_one]; rfl) ?_
  conv => whnf
  repeat' ((first | refine Need.auto ?_ | refine Have.mk (fun _h => ?_)); conv => whnf)
  (first | refine Br.lt (fun h => ?_) (fun h => ?_) | refine Br.le (fun h => ?_) (fun h => ?_) | refine Br.gt (fun h => ?_) (fun h => ?_) | refine Br.ge (fun h => ?_) (fun h => ?_) | refine Br.eq (fun h => ?_) (fun h => ?_) | refine Br.ne (fun h => ?_) (fun h => ?_) | refine Br.not (fun h => ?_) (fun h => ?_) | refine Br.mk (fun h => ?_) (fun h => ?_)) <;> (try simp only [Int.toNat_natCast] at h) <;> (conv => whnf)
  · repeat' ((first | refine Need.auto ?_ | refine Have.mk (fun _h => ?_)); conv => whnf)
    refine ⟨.t [], [.arr 28 3 l.length (zoneAtT (shutAt l i))], RM.wk 1 rfl ⟨O.wk.arr rfl (fun a ha b hb => wkC.of_eq (zoneAtT_imm _ _ _) ?_), trivial⟩ (wkS.t trivial) (Nat.le_refl _), rfl, rfl⟩
    have h0 : (l.getD i default).sectors.length = 0 := by omega
    simp only [updG_one, shutAt, zoneAtT_set l i a b _ hi, shutZ, if_pos h0]
    by_cases c : a = i
    · subst c
      match b, hb with
      | 0, _ => simp [Zone.cellT]
      | 1, _ => simp [Zone.cellT, zoneAtT]
      | 2, _ => simp [Zone.cellT, zoneAtT]
    · simp [c]
  · repeat' ((first | refine Need.auto ?_ | refine Have.mk (fun _h => ?_)); conv => whnf)
    refine ⟨.t [], [.arr 28 3 l.length (zoneAtT (shutAt l i))], RM.wk 1 rfl ⟨O.wk.arr rfl (fun a ha b hb => wkC.of_eq (zoneAtT_imm _ _ _) ?_), trivial⟩ (wkS.t trivial) (Nat.le_refl _), rfl, rfl⟩
    have h0 : ¬ (l.getD i default).sectors.length = 0 := by omega
    simp only [updG_one, shutAt, zoneAtT_set l i a b _ hi, shutZ, if_neg h0]
    by_cases c : a = i
    · subst c
      match b, hb with
      | 0, _ => simp [Zone.cellT]
      | 1, _ => simp [Zone.cellT, zoneAtT]
      | 2, _ => simp [Zone.cellT, zoneAtT]
    · simp [c]
theorem shut_body : HasBody Try.prog 68 := ⟨⟨Try.f68, Try.func68, rfl, by kernel_rfl⟩⟩

theorem room_spec (d : Dev) (hd : d.zones.length ≤ 10000000) (zone : Nat) (hz : zone < d.zones.length) : CSpec Try.prog 52 [.a (d.own 0), .c (.int .i64 zone)] [.arr 28 3 d.zones.length (zoneAtT d.zones)]
    fun s H => s = .c (.int .i64 (roomX d zone).1) ∧ ((roomX d zone).1 = 0 → H = [.arr 28 3 d.zones.length (zoneAtT (roomX d zone).2)]) ∧ ∃ g, H = [.arr 28 3 d.zones.length g] := by
  refine CSpec.rm ?_
  refine CSpec.of_vc hΓ Try.func52 rfl 63 1 [.tmp 4] Try.ntmps52 rfl (by rw [Try.results52]) rfl ?_
  conv => whnf
  refine CallN.reads counts_body (counts_spec d) (bw_dev 0 rfl rfl) rfl ?_
  · conv => whnf
    repeat' ((first | refine Need.auto ?_ | refine Have.mk (fun _h => ?_)); conv => whnf)
    (first | refine Br.lt (fun h1 => ?_) (fun h1 => ?_) | refine Br.le (fun h1 => ?_) (fun h1 => ?_) | refine Br.gt (fun h1 => ?_) (fun h1 => ?_) | refine Br.ge (fun h1 => ?_) (fun h1 => ?_) | refine Br.eq (fun h1 => ?_) (fun h1 => ?_) | refine Br.ne (fun h1 => ?_) (fun h1 => ?_) | refine Br.not (fun h1 => ?_) (fun h1 => ?_) | refine Br.mk (fun h1 => ?_) (fun h1 => ?_)) <;> (try simp only [Int.toNat_natCast] at h1) <;> (conv => whnf)
    · repeat' ((first | refine Need.auto ?_ | refine Have.mk (fun _h => ?_)); conv => whnf)
      have s8 : firstOpen d.zones = d.zones.length → roomX d zone = (8, d.zones) := by
        intro e
        simp only [roomX]
        rw [if_pos (by omega), if_neg (by omega)]
      have s9 : firstOpen d.zones < d.zones.length → roomX d zone = if ((shutAt d.zones (firstOpen d.zones)).getD zone default).state ≠ 3 ∧ d.maxActive ≤ cntActive (shutAt d.zones (firstOpen d.zones)) then (9, shutAt d.zones (firstOpen d.zones)) else (0, shutAt d.zones (firstOpen d.zones)) := by
        intro e
        simp only [roomX]
        rw [if_pos (by omega), if_pos e]
      refine Lp.mk hΓ (ι := Nat × Int) (fun k => [(24, .c (.int .i64 k.1)), (23, .c (.int .i64 d.zones.length)), (22, .c (.sl 0 3 d.zones.length d.zones.length true)), (7, .c (.int .i64 k.2)), (4, .c (.int .i64 0)), (2, .c (.ptr 1 0)), (1, .c (.int .i64 zone))])
        (fun _ => [.arr 28 3 d.zones.length (zoneAtT d.zones), .vr (d.own 0)]) (fun k => k.1 ≤ d.zones.length ∧ ((k.2 = -1 ∧ ∀ i, i < k.1 → (d.zones.getD i default).state ≠ 1) ∨ (k.2 = firstOpen d.zones ∧ firstOpen d.zones < k.1))) (fun k => d.zones.length - k.1) (0, -1) ⟨Nat.zero_le _, .inl ⟨rfl, fun i hi => by omega⟩⟩ ?_ ?_
      · exact Mv.mk' 2 rfl ⟨O.wk.arr rfl (fun a ha b hb => wkC.imm (zoneAtT_imm _ _ _)), O.wk.vr ⟨wkC.imm rfl, wkC.imm rfl, wkC.imm rfl, wkC.sl (by decide) rfl rfl (fun e => e), trivial⟩, trivial⟩
          ⟨wkS.imm rfl, wkS.imm rfl, wkS.c (wkC.sl (by decide) rfl rfl (fun e => e)), wkS.imm rfl, wkS.imm rfl, wkS.c (wkC.ptr (by decide)), wkS.imm rfl, trivial⟩ (by decide)
      · rintro ⟨k, a⟩ ⟨hk, hka⟩
        simp only at hk hka
        conv => whnf
        repeat' ((first | refine Need.auto ?_ | refine Have.mk (fun _h => ?_)); conv => whnf)
        (first | refine Br.lt (fun h => ?_) (fun h => ?_) | refine Br.le (fun h => ?_) (fun h => ?_) | refine Br.gt (fun h => ?_) (fun h => ?_) | refine Br.ge (fun h => ?_) (fun h => ?_) | refine Br.eq (fun h => ?_) (fun h => ?_) | refine Br.ne (fun h => ?_) (fun h => ?_) | refine Br.not (fun h => ?_) (fun h => ?_) | refine Br.mk (fun h => ?_) (fun h => ?_)) <;> (try simp only [Int.toNat_natCast] at h) <;> (conv => whnf)
        · repeat' ((first | refine Need.auto ?_ | refine Have.mk (fun _h => ?_)); conv => whnf)
          have hlt : k < d.zones.length := by omega
          refine Frc.mk _ rfl ?_; conv => whnf
          repeat' ((first | refine Need.auto ?_ | refine Have.mk (fun _h => ?_)); conv => whnf)
          have w0 := wrap_id (↑k + 1) (by omega) (by omega)
          (first | refine Br.lt (fun h2 => ?_) (fun h2 => ?_) | refine Br.le (fun h2 => ?_) (fun h2 => ?_) | refine Br.gt (fun h2 => ?_) (fun h2 => ?_) | refine Br.ge (fun h2 => ?_) (fun h2 => ?_) | refine Br.eq (fun h2 => ?_) (fun h2 => ?_) | refine Br.ne (fun h2 => ?_) (fun h2 => ?_) | refine Br.not (fun h2 => ?_) (fun h2 => ?_) | (refine Br.mk (fun h2 => ?_) (fun h2 => ?_) <;> simp [-List.length_eq_zero_iff, -List.getD_eq_getElem?_getD] at h2)) <;> (try simp only [Int.toNat_natCast] at h2) <;> (conv => whnf)
          · repeat' ((first | refine Need.auto ?_ | refine Have.mk (fun _h => ?_)); conv => whnf)
            have ha : firstOpen d.zones = k := by
              refine firstOpen_spec _ _ hlt ?_ h2.2
              rcases hka with ⟨_, hq⟩ | ⟨hq, _⟩
              · exact hq
              · omega
            refine ⟨(k + 1, (k : Int)), ⟨by simp only; omega, .inr ⟨by simp only; omega, by simp only; omega⟩⟩, by simp only; omega, Mv.mk' 2 rfl ⟨O.wk.arr rfl (fun a ha b hb => wkC.imm (zoneAtT_imm _ _ _)), O.wk.vr ⟨wkC.imm rfl, wkC.imm rfl, wkC.imm rfl, wkC.sl (by decide) rfl rfl (fun e => e), trivial⟩, trivial⟩
              ⟨wkS.c (wkC.int (by rw [w0]; rfl)), wkS.imm rfl, wkS.c (wkC.sl (by decide) rfl rfl (fun e => e)), wkS.imm rfl, wkS.imm rfl, wkS.c (wkC.ptr (by decide)), wkS.imm rfl, trivial⟩ (by decide)⟩
          · repeat' ((first | refine Need.auto ?_ | refine Have.mk (fun _h => ?_)); conv => whnf)
            refine ⟨(k + 1, a), ⟨by simp only; omega, ?_⟩, by simp only; omega, Mv.mk' 2 rfl ⟨O.wk.arr rfl (fun a ha b hb => wkC.imm (zoneAtT_imm _ _ _)), O.wk.vr ⟨wkC.imm rfl, wkC.imm rfl, wkC.imm rfl, wkC.sl (by decide) rfl rfl (fun e => e), trivial⟩, trivial⟩
              ⟨wkS.c (wkC.int (by rw [w0]; rfl)), wkS.imm rfl, wkS.c (wkC.sl (by decide) rfl rfl (fun e => e)), wkS.imm rfl, wkS.imm rfl, wkS.c (wkC.ptr (by decide)), wkS.imm rfl, trivial⟩ (by decide)⟩
            rcases hka with ⟨hq1, hq2⟩ | ⟨hq1, hq2⟩
            · refine .inl ⟨hq1, fun i hi => ?_⟩
              by_cases c : i = k
              · subst c; exact h2 (by omega)
              · exact hq2 i (by omega)
            · exact .inr ⟨hq1, by simp only; omega⟩
        · repeat' ((first | refine Need.auto ?_ | refine Have.mk (fun _h => ?_)); conv => whnf)
          have : k = d.zones.length := by omega
          subst this
          (first | refine Br.lt (fun h3 => ?_) (fun h3 => ?_) | refine Br.le (fun h3 => ?_) (fun h3 => ?_) | refine Br.gt (fun h3 => ?_) (fun h3 => ?_) | refine Br.ge (fun h3 => ?_) (fun h3 => ?_) | refine Br.eq (fun h3 => ?_) (fun h3 => ?_) | refine Br.ne (fun h3 => ?_) (fun h3 => ?_) | refine Br.not (fun h3 => ?_) (fun h3 => ?_) | refine Br.mk (fun h3 => ?_) (fun h3 => ?_)) <;> (try simp only [Int.toNat_natCast] at h3) <;> (conv => whnf)
          · repeat' ((first | refine Need.auto ?_ | refine Have.mk (fun _h => ?_)); conv => whnf)
            have hr := s8 (firstOpen_none _ (by
              rcases hka with ⟨_, hq⟩ | ⟨hq, _⟩
              · exact hq
              · omega))
            refine ⟨_, [.arr 28 3 d.zones.length (zoneAtT d.zones)], RM.wk 1 rfl ⟨O.wk.arr rfl (fun a ha b hb => wkC.imm (zoneAtT_imm _ _ _)), trivial⟩ (wkS.imm rfl) (Nat.le_refl _), ?_, ?_, ?_⟩
            · rw [hr]
            · rw [hr]; intro e; cases e
            · exact ⟨_, rfl⟩
          · repeat' ((first | refine Need.auto ?_ | refine Have.mk (fun _h => ?_)); conv => whnf)
            obtain ⟨ha, hlt⟩ : a = firstOpen d.zones ∧ firstOpen d.zones < d.zones.length := by
              rcases hka with ⟨hq, _⟩ | hq
              · omega
              · exact hq
            subst ha
            have hr0 := s9 hlt
            have hlen := shutAt_len d.zones (firstOpen d.zones)
            refine CallN.frame1 shut_body (shut_spec d.zones (firstOpen d.zones) hlt) 0 rfl (fun i _ j _ => wkC.imm (zoneAtT_imm _ _ _)) (wkA.cons (wkS.c (wkC.ep1 (by simp) rfl rfl)) wkA.nil) ?_
            · rintro s Hc ⟨rfl, rfl⟩
              refine ⟨.t [], [.arr 28 3 d.zones.length (zoneAtT (shutAt d.zones (firstOpen d.zones))), .vr (d.own 0)], rfl, congrArg (fun g => [O.arr 28 3 d.zones.length g, O.vr (d.own 0)]) (reC_zoneAtT _ _), ?_⟩
              · conv => whnf
                repeat' ((first | refine Need.auto ?_ | refine Have.mk (fun _h => ?_)); conv => whnf)
                refine CallN.reads counts_body (counts_spec { d with zones := (shutAt d.zones (firstOpen d.zones)) }) (bw_dev 0 rfl hlen.symm) rfl ?_
                conv => whnf
                repeat' ((first | refine Need.auto ?_ | refine Have.mk (fun _h => ?_)); conv => whnf)
                refine Frc.mk _ rfl ?_; conv => whnf
                repeat' ((first | refine Need.auto ?_ | refine Have.mk (fun _h => ?_)); conv => whnf)
                (first | refine Br.lt (fun h5 => ?_) (fun h5 => ?_) | refine Br.le (fun h5 => ?_) (fun h5 => ?_) | refine Br.gt (fun h5 => ?_) (fun h5 => ?_) | refine Br.ge (fun h5 => ?_) (fun h5 => ?_) | refine Br.eq (fun h5 => ?_) (fun h5 => ?_) | refine Br.ne (fun h5 => ?_) (fun h5 => ?_) | refine Br.not (fun h5 => ?_) (fun h5 => ?_) | (refine Br.mk (fun h5 => ?_) (fun h5 => ?_) <;> simp [-List.length_eq_zero_iff, -List.getD_eq_getElem?_getD] at h5)) <;> (try simp only [Int.toNat_natCast] at h5) <;> (conv => whnf)
                · repeat' ((first | refine Need.auto ?_ | refine Have.mk (fun _h => ?_)); conv => whnf)
                  have hr : roomX d zone = (9, (shutAt d.zones (firstOpen d.zones))) := hr0 ▸ if_pos (by omega)
                  refine ⟨_, [.arr 28 3 d.zones.length (zoneAtT (shutAt d.zones (firstOpen d.zones)))], RM.wk 1 rfl ⟨O.wk.arr rfl (fun a ha b hb => wkC.imm (zoneAtT_imm _ _ _)), trivial⟩ (wkS.imm rfl) (Nat.le_refl _), ?_, ?_, ?_⟩
                  · rw [hr]
                  · rw [hr]; intro e; cases e
                  · exact ⟨_, rfl⟩
                · repeat' ((first | refine Need.auto ?_ | refine Have.mk (fun _h => ?_)); conv => whnf)
                  have hr : roomX d zone = (0, (shutAt d.zones (firstOpen d.zones))) := hr0 ▸ if_neg (by omega)
                  refine ⟨_, [.arr 28 3 d.zones.length (zoneAtT (shutAt d.zones (firstOpen d.zones)))], RM.wk 1 rfl ⟨O.wk.arr rfl (fun a ha b hb => wkC.imm (zoneAtT_imm _ _ _)), trivial⟩ (wkS.imm rfl) (Nat.le_refl _), ?_, ?_, ?_⟩
                  · rw [hr]
                  · rw [hr]; intro _; rfl
                  · exact ⟨_, rfl⟩
    · repeat' ((first | refine Need.auto ?_ | refine Have.mk (fun _h => ?_)); conv => whnf)
      have hr0 : roomX d zone = if (d.zones.getD zone default).state ≠ 3 ∧ d.maxActive ≤ cntActive d.zones then (9, d.zones) else (0, d.zones) := by
        simp only [roomX]
        rw [if_neg (by omega)]
      refine CallN.reads counts_body (counts_spec { d with zones := d.zones }) (bw_dev 0 rfl rfl) rfl ?_
      conv => whnf
      repeat' ((first | refine Need.auto ?_ | refine Have.mk (fun _h => ?_)); conv => whnf)
      refine Frc.mk _ rfl ?_; conv => whnf
      repeat' ((first | refine Need.auto ?_ | refine Have.mk (fun _h => ?_)); conv => whnf)
      (first | refine Br.lt (fun h5 => ?_) (fun h5 => ?_) | refine Br.le (fun h5 => ?_) (fun h5 => ?_) | refine Br.gt (fun h5 => ?_) (fun h5 => ?_) | refine Br.ge (fun h5 => ?_) (fun h5 => ?_) | refine Br.eq (fun h5 => ?_) (fun h5 => ?_) | refine Br.ne (fun h5 => ?_) (fun h5 => ?_) | refine Br.not (fun h5 => ?_) (fun h5 => ?_) | (refine Br.mk (fun h5 => ?_) (fun h5 => ?_) <;> simp [-List.length_eq_zero_iff, -List.getD_eq_getElem?_getD] at h5)) <;> (try simp only [Int.toNat_natCast] at h5) <;> (conv => whnf)
      · repeat' ((first | refine Need.auto ?_ | refine Have.mk (fun _h => ?_)); conv => whnf)
        have hr : roomX d zone = (9, d.zones) := hr0 ▸ if_pos (by omega)
        refine ⟨_, [.arr 28 3 d.zones.length (zoneAtT d.zones)], RM.wk 1 rfl ⟨O.wk.arr rfl (fun a ha b hb => wkC.imm (zoneAtT_imm _ _ _)), trivial⟩ (wkS.imm rfl) (Nat.le_refl _), ?_, ?_, ?_⟩
        · rw [hr]
        · rw [hr]; intro e; cases e
        · exact ⟨_, rfl⟩
      · repeat' ((first | refine Need.auto ?_ | refine Have.mk (fun _h => ?_)); conv => whnf)
        have hr : roomX d zone = (0, d.zones) := hr0 ▸ if_neg (by omega)
        refine ⟨_, [.arr 28 3 d.zones.length (zoneAtT d.zones)], RM.wk 1 rfl ⟨O.wk.arr rfl (fun a ha b hb => wkC.imm (zoneAtT_imm _ _ _)), trivial⟩ (wkS.imm rfl) (Nat.le_refl _), ?_, ?_, ?_⟩
        · rw [hr]
        · rw [hr]; intro _; rfl
        · exact ⟨_, rfl⟩
theorem room_body : HasBody Try.prog 52 := ⟨⟨Try.f52, Try.func52, rfl, by kernel_rfl⟩⟩
end Go.Proofs
end

section
open Go Go.Am
namespace Go.Proofs

theorem read_spec (d : Dev) (zone off : Int) : PSpec Try.prog 32 [d.s, .c (.int .i64 zone), .c (.int .i64 off)] (.t [.inl (.str (readS d zone off)), .inl (.int .i64 (readE d zone off))]) := by
  refine PSpec.rm ?_
  refine CSpec.of_vc hΓ Try.func32 rfl 41 0 [.tmp 6, .tmp 7] Try.ntmps32 rfl (by rw [Try.results32]) rfl ?_
  conv => whnf
  refine CallN.opens begin_body (begin_spec d zone) (leA.refl rfl) ?_
  rintro s Hc hq
  by_cases he : beginE d zone = 0
  · simp only [beginQ, if_pos he] at hq
    obtain ⟨rfl, rfl⟩ := hq
    obtain ⟨hok, hz0, hz1⟩ := beginE_zone he
    refine ⟨.t [.inr (d.own 1), .inl (.int .i64 0)], _, rfl, plug_nil_arr _ _ _ _, ?_⟩
    conv => whnf
    repeat' ((first | refine Need.auto ?_ | refine Have.mk (fun _h => ?_)); conv => whnf)
    refine Br.no rfl ?_; conv => whnf
    repeat' ((first | refine Need.auto ?_ | refine Have.mk (fun _h => ?_)); conv => whnf)
    refine Frc.mk _ rfl ?_; conv => whnf
    repeat' ((first | refine Need.auto ?_ | refine Have.mk (fun _h => ?_)); conv => whnf)
    have hrE : ∀ e : Int, (if decide (0 ≤ off ∧ off < (d.zones.getD zone.toNat default).sectors.length) then 0 else 10) = e → readE d zone off = e := by
      intro e h; simp only [readE, if_pos he]; exact h
    (first | refine Br.lt (fun h2 => ?_) (fun h2 => ?_) | refine Br.le (fun h2 => ?_) (fun h2 => ?_) | refine Br.gt (fun h2 => ?_) (fun h2 => ?_) | refine Br.ge (fun h2 => ?_) (fun h2 => ?_) | refine Br.eq (fun h2 => ?_) (fun h2 => ?_) | refine Br.ne (fun h2 => ?_) (fun h2 => ?_) | refine Br.not (fun h2 => ?_) (fun h2 => ?_) | (refine Br.mk (fun h2 => ?_) (fun h2 => ?_) <;> simp [-List.length_eq_zero_iff, -List.getD_eq_getElem?_getD] at h2)) <;> (try simp only [Int.toNat_natCast] at h2) <;> (conv => whnf)
    · repeat' ((first | refine Need.auto ?_ | refine Have.mk (fun _h => ?_)); conv => whnf)
      have : decide (0 ≤ off ∧ off < (d.zones.getD zone.toNat default).sectors.length) = false := by simp only [decide_eq_false_iff_not]; omega
      have h10 := hrE 10 (by rw [this]; rfl)
      exact RM.imm rfl (wkS.t ⟨wkC.str (by simp only [readS, h10]; rfl), wkC.int h10.symm, trivial⟩)
    · repeat' ((first | refine Need.auto ?_ | refine Have.mk (fun _h => ?_)); conv => whnf)
      have : decide (0 ≤ off ∧ off < (d.zones.getD zone.toNat default).sectors.length) = true := by simp only [decide_eq_true_eq]; omega
      have h0 := hrE 0 (by rw [this]; rfl)
      refine Frc.mk _ rfl ?_; conv => whnf
      repeat' ((first | refine Need.auto ?_ | refine Have.mk (fun _h => ?_)); conv => whnf)
      exact RM.imm rfl (wkS.t ⟨wkC.str (by simp only [readS, h0]; rfl), wkC.int h0.symm, trivial⟩)
  · simp only [beginQ, if_neg he] at hq
    obtain ⟨rfl, rfl⟩ := hq
    refine ⟨_, _, rfl, plug_nil_nil _, ?_⟩
    conv => whnf
    repeat' ((first | refine Need.auto ?_ | refine Have.mk (fun _h => ?_)); conv => whnf)
    (first | refine Br.lt (fun h1 => ?_) (fun h1 => ?_) | refine Br.le (fun h1 => ?_) (fun h1 => ?_) | refine Br.gt (fun h1 => ?_) (fun h1 => ?_) | refine Br.ge (fun h1 => ?_) (fun h1 => ?_) | refine Br.eq (fun h1 => ?_) (fun h1 => ?_) | refine Br.ne (fun h1 => ?_) (fun h1 => ?_) | refine Br.not (fun h1 => ?_) (fun h1 => ?_) | refine Br.mk (fun h1 => ?_) (fun h1 => ?_)) <;> (try simp only [Int.toNat_natCast] at h1) <;> (conv => whnf)
    · repeat' ((first | refine Need.auto ?_ | refine Have.mk (fun _h => ?_)); conv => whnf)
      have : readE d zone off = beginE d zone := by simp only [readE, if_neg he]
      have : readS d zone off = ByteArray.empty := by simp only [readS, this, if_neg he]
      exact RM.imm rfl (wkS.t ⟨wkC.str (by rw [this]; rfl), wkC.int (by simp only [readE, if_neg he]), trivial⟩)
    · exact absurd h1 he

theorem reset_spec (d : Dev) (hd : d.small) (zone : Int) : PSpec Try.prog 56 [d.s, .c (.int .i64 zone)] (Dev.out (resetD d zone) (beginE d zone)) := by
  refine PSpec.rm ?_
  refine CSpec.of_vc hΓ Try.func56 rfl 25 0 [.cell 4 24, .tmp 5] Try.ntmps56 rfl (by rw [Try.results56]) rfl ?_
  conv => whnf
  refine CallN.opens begin_body (begin_spec d zone) (leA.refl rfl) ?_
  rintro s Hc hq
  by_cases he : beginE d zone = 0
  · simp only [beginQ, if_pos he] at hq
    obtain ⟨rfl, rfl⟩ := hq
    obtain ⟨hok, hz0, hz1⟩ := beginE_zone he
    refine ⟨.t [.inr (d.own 2), .inl (.int .i64 0)], _, rfl, plug_nil_arr _ _ _ _, ?_⟩
    conv => whnf
    repeat' ((first | refine Need.auto ?_ | refine Have.mk (fun _h => ?_)); conv => whnf)
    refine Br.no rfl ?_; conv => whnf
    repeat' ((first | refine Need.auto ?_ | refine Have.mk (fun _h => ?_)); conv => whnf)
    rw [show resetD d zone = { d with zones := d.zones.set zone.toNat zone0 } by simp only [resetD, if_pos he], he]
    have hk : zone.toNat < d.zones.length := by omega
    exact RM.devG 2 rfl (fun i _ j hj => (updG_zero hk i j hj).2) (by simp) (fun i _ j hj => (updG_zero hk i j hj).1.trans (zoneAtT_le _ _ _)) rfl
  · simp only [beginQ, if_neg he] at hq
    obtain ⟨rfl, rfl⟩ := hq
    refine ⟨_, _, rfl, plug_nil_nil _, ?_⟩
    conv => whnf
    repeat' ((first | refine Need.auto ?_ | refine Have.mk (fun _h => ?_)); conv => whnf)
    (first | refine Br.lt (fun h1 => ?_) (fun h1 => ?_) | refine Br.le (fun h1 => ?_) (fun h1 => ?_) | refine Br.gt (fun h1 => ?_) (fun h1 => ?_) | refine Br.ge (fun h1 => ?_) (fun h1 => ?_) | refine Br.eq (fun h1 => ?_) (fun h1 => ?_) | refine Br.ne (fun h1 => ?_) (fun h1 => ?_) | refine Br.not (fun h1 => ?_) (fun h1 => ?_) | refine Br.mk (fun h1 => ?_) (fun h1 => ?_)) <;> (try simp only [Int.toNat_natCast] at h1) <;> (conv => whnf)
    · repeat' ((first | refine Need.auto ?_ | refine Have.mk (fun _h => ?_)); conv => whnf)
      refine CallN.opens clone_body (clone_spec d hd) (leA.refl rfl) ?_; rintro s Hc ⟨rfl, rfl⟩; refine ⟨_, _, rfl, plug_nil_arr _ _ _ _, ?_⟩; conv => whnf
      repeat' ((first | refine Need.auto ?_ | refine Have.mk (fun _h => ?_)); conv => whnf)
      rw [show resetD d zone = d by simp only [resetD, if_neg he]]
      exact RM.dev 3 rfl rfl rfl
    · exact absurd h1 he
theorem read_body : HasBody Try.prog 32 := ⟨⟨Try.f32, Try.func32, rfl, by kernel_rfl⟩⟩
theorem reset_body : HasBody Try.prog 56 := ⟨⟨Try.f56, Try.func56, rfl, by kernel_rfl⟩⟩

theorem finish_spec (d : Dev) (hd : d.small) (zone : Int) : PSpec Try.prog 58 [d.s, .c (.int .i64 zone)] (Dev.out (finishD d zone) (beginE d zone)) := by
  refine PSpec.rm ?_
  refine CSpec.of_vc hΓ Try.func58 rfl 42 0 [.cell 4 24, .tmp 5] Try.ntmps58 rfl (by rw [Try.results58]) rfl ?_
  conv => whnf
  refine CallN.opens begin_body (begin_spec d zone) (leA.refl rfl) ?_
  rintro s Hc hq
  by_cases he : beginE d zone = 0
  · simp only [beginQ, if_pos he] at hq
    obtain ⟨rfl, rfl⟩ := hq
    obtain ⟨hok, hz0, hz1⟩ := beginE_zone he
    have hk : zone.toNat < d.zones.length := by omega
    refine ⟨.t [.inr (d.own 2), .inl (.int .i64 0)], _, rfl, plug_nil_arr _ _ _ _, ?_⟩
    conv => whnf
    repeat' ((first | refine Need.auto ?_ | refine Have.mk (fun _h => ?_)); conv => whnf)
    refine Br.no rfl ?_; conv => whnf
    repeat' ((first | refine Need.auto ?_ | refine Have.mk (fun _h => ?_)); conv => whnf)
    refine Frc.mk _ rfl ?_; conv => whnf
    repeat' ((first | refine Need.auto ?_ | refine Have.mk (fun _h => ?_)); conv => whnf)
    (first | refine Br.lt (fun h2 => ?_) (fun h2 => ?_) | refine Br.le (fun h2 => ?_) (fun h2 => ?_) | refine Br.gt (fun h2 => ?_) (fun h2 => ?_) | refine Br.ge (fun h2 => ?_) (fun h2 => ?_) | refine Br.eq (fun h2 => ?_) (fun h2 => ?_) | refine Br.ne (fun h2 => ?_) (fun h2 => ?_) | refine Br.not (fun h2 => ?_) (fun h2 => ?_) | refine Br.mk (fun h2 => ?_) (fun h2 => ?_)) <;> (try simp only [Int.toNat_natCast] at h2) <;> (conv => whnf)
    · repeat' ((first | refine Need.auto ?_ | refine Have.mk (fun _h => ?_)); conv => whnf)
      rw [show finishD d zone = { d with zones := d.zones } by simp only [finishD, if_pos he, finishZ, if_pos h2, set_getD_self _ _ hk], he]
      exact RM.dev 2 rfl rfl rfl
    · repeat' ((first | refine Need.auto ?_ | refine Have.mk (fun _h => ?_)); conv => whnf)
      refine Frc.mk _ rfl ?_; conv => whnf
      repeat' ((first | refine Need.auto ?_ | refine Have.mk (fun _h => ?_)); conv => whnf)
      rw [show finishD d zone = { d with zones := (d.zones.set zone.toNat { d.zones.getD zone.toNat default with state := 4 }).set zone.toNat { (d.zones.set zone.toNat { d.zones.getD zone.toNat default with state := 4 }).getD zone.toNat default with durable := (d.zones.getD zone.toNat default).sectors.length } } by
        simp only [finishD, if_pos he, finishZ, if_neg h2]; simp [List.getD, hk], he]
      exact RM.dev 2 (congrArg (fun g => some (O.arr 28 3 d.zones.length g)) ((congrArg (fun g => updG g zone.toNat 1 [.int .i64 (d.zones.getD zone.toNat default).sectors.length]) (updG_state hk 4)).trans (updG_durable (by simp; omega) _))) (by simp) rfl
  · simp only [beginQ, if_neg he] at hq
    obtain ⟨rfl, rfl⟩ := hq
    refine ⟨.t [.inr d.cells, .inl (.int .i64 (beginE d zone))], _, rfl, plug_nil_nil _, ?_⟩
    conv => whnf
    repeat' ((first | refine Need.auto ?_ | refine Have.mk (fun _h => ?_)); conv => whnf)
    (first | refine Br.lt (fun h1 => ?_) (fun h1 => ?_) | refine Br.le (fun h1 => ?_) (fun h1 => ?_) | refine Br.gt (fun h1 => ?_) (fun h1 => ?_) | refine Br.ge (fun h1 => ?_) (fun h1 => ?_) | refine Br.eq (fun h1 => ?_) (fun h1 => ?_) | refine Br.ne (fun h1 => ?_) (fun h1 => ?_) | refine Br.not (fun h1 => ?_) (fun h1 => ?_) | refine Br.mk (fun h1 => ?_) (fun h1 => ?_)) <;> (try simp only [Int.toNat_natCast] at h1) <;> (conv => whnf)
    · repeat' ((first | refine Need.auto ?_ | refine Have.mk (fun _h => ?_)); conv => whnf)
      refine CallN.opens clone_body (clone_spec d hd) (leA.refl rfl) ?_; rintro s Hc ⟨rfl, rfl⟩; refine ⟨_, _, rfl, plug_nil_arr _ _ _ _, ?_⟩; conv => whnf
      repeat' ((first | refine Need.auto ?_ | refine Have.mk (fun _h => ?_)); conv => whnf)
      have hE : beginE d zone = beginE d zone := rfl
      rw [show finishD d zone = d by simp only [finishD, hE, if_neg he], hE]
      exact RM.dev 3 rfl rfl rfl
    · exact absurd h1 he
theorem finish_body : HasBody Try.prog 58 := ⟨⟨Try.f58, Try.func58, rfl, by kernel_rfl⟩⟩

theorem open_spec (d : Dev) (hd : d.small) (zone : Int) : PSpec Try.prog 60 [d.s, .c (.int .i64 zone)] (Dev.out (openD d zone) (openE d zone)) := by
  refine PSpec.rm ?_
  refine CSpec.of_vc hΓ Try.func60 rfl 52 0 [.cell 4 24, .tmp 5] Try.ntmps60 rfl (by rw [Try.results60]) rfl ?_
  conv => whnf
  refine CallN.opens begin_body (begin_spec d zone) (leA.refl rfl) ?_
  rintro s Hc hq
  by_cases he : beginE d zone = 0
  · simp only [beginQ, if_pos he] at hq
    obtain ⟨rfl, rfl⟩ := hq
    obtain ⟨hok, hz0, hz1⟩ := beginE_zone he
    have hk : zone.toNat < d.zones.length := by omega
    refine ⟨.t [.inr (d.own 2), .inl (.int .i64 0)], _, rfl, plug_nil_arr _ _ _ _, ?_⟩
    conv => whnf
    repeat' ((first | refine Need.auto ?_ | refine Have.mk (fun _h => ?_)); conv => whnf)
    refine Br.no rfl ?_; conv => whnf
    repeat' ((first | refine Need.auto ?_ | refine Have.mk (fun _h => ?_)); conv => whnf)
    refine Frc.mk _ rfl ?_; conv => whnf
    repeat' ((first | refine Need.auto ?_ | refine Have.mk (fun _h => ?_)); conv => whnf)
    (first | refine Br.lt (fun h2 => ?_) (fun h2 => ?_) | refine Br.le (fun h2 => ?_) (fun h2 => ?_) | refine Br.gt (fun h2 => ?_) (fun h2 => ?_) | refine Br.ge (fun h2 => ?_) (fun h2 => ?_) | refine Br.eq (fun h2 => ?_) (fun h2 => ?_) | refine Br.ne (fun h2 => ?_) (fun h2 => ?_) | refine Br.not (fun h2 => ?_) (fun h2 => ?_) | refine Br.mk (fun h2 => ?_) (fun h2 => ?_)) <;> (try simp only [Int.toNat_natCast] at h2) <;> (conv => whnf)
    · repeat' ((first | refine Need.auto ?_ | refine Have.mk (fun _h => ?_)); conv => whnf)
      refine CallN.opens clone_body (clone_spec d hd) (leA.refl rfl) ?_; rintro s Hc ⟨rfl, rfl⟩; refine ⟨_, _, rfl, plug_nil_arr _ _ _ _, ?_⟩; conv => whnf
      repeat' ((first | refine Need.auto ?_ | refine Have.mk (fun _h => ?_)); conv => whnf)
      have hE : openE d zone = 7 := by simp only [openE, if_pos he, if_pos h2]
      rw [show openD d zone = d by simp only [openD, hE]; rfl, hE]
      exact RM.dev 4 rfl rfl rfl
    · repeat' ((first | refine Need.auto ?_ | refine Have.mk (fun _h => ?_)); conv => whnf)
      refine Frc.mk _ rfl ?_; conv => whnf
      repeat' ((first | refine Need.auto ?_ | refine Have.mk (fun _h => ?_)); conv => whnf)
      refine CallN.pure opened_body (opened_spec _ ) (leA.refl rfl) rfl ?_
      conv => whnf
      repeat' ((first | refine Need.auto ?_ | refine Have.mk (fun _h => ?_)); conv => whnf)
      (first | refine Br.lt (fun h3 => ?_) (fun h3 => ?_) | refine Br.le (fun h3 => ?_) (fun h3 => ?_) | refine Br.gt (fun h3 => ?_) (fun h3 => ?_) | refine Br.ge (fun h3 => ?_) (fun h3 => ?_) | refine Br.eq (fun h3 => ?_) (fun h3 => ?_) | refine Br.ne (fun h3 => ?_) (fun h3 => ?_) | refine Br.not (fun h3 => ?_) (fun h3 => ?_) | refine Br.mk (fun h3 => ?_) (fun h3 => ?_)) <;> (try simp only [Int.toNat_natCast] at h3) <;> (conv => whnf)
      · repeat' ((first | refine Need.auto ?_ | refine Have.mk (fun _h => ?_)); conv => whnf)
        have hE : openE d zone = (roomX d zone.toNat).1 := by simp only [openE, if_pos he, if_neg h2]; rw [h3]; rfl
        have hL : openL d zone.toNat = (roomX d zone.toNat).2 := by simp only [openL]; rw [h3]; rfl
        have hlen := roomX_len d zone.toNat
        refine CallN.frame1 room_body (room_spec d hd.z zone.toNat hk) 2 rfl (fun i _ j _ => wkC.imm (zoneAtT_imm _ _ _)) (wkA.cons wk_own (wkA.cons (wkS.c (wkC.int (by omega))) wkA.nil)) ?_
        rintro s Hc ⟨rfl, hr, g, hg⟩
        by_cases hr0 : (roomX d zone.toNat).1 = 0
        · rw [hr hr0]
          refine ⟨.c (.int .i64 0), [.vr d.cells, .vr [.int .i64 0, .int .i64 0, .int .i64 0, .nils], .arr 28 3 d.zones.length (zoneAtT (roomX d zone.toNat).2), .vr (d.own 2)], by rw [hr0]; rfl, congrArg (fun g => [O.vr d.cells, O.vr [.int .i64 0, .int .i64 0, .int .i64 0, .nils], O.arr 28 3 d.zones.length g, O.vr (d.own 2)]) (reC_zoneAtT _ _), ?_⟩
          conv => whnf
          repeat' ((first | refine Need.auto ?_ | refine Have.mk (fun _h => ?_)); conv => whnf)
          refine Br.no rfl ?_; conv => whnf
          repeat' ((first | refine Need.auto ?_ | refine Have.mk (fun _h => ?_)); conv => whnf)
          rw [show openD d zone = { d with zones := (roomX d zone.toNat).2.set zone.toNat { (roomX d zone.toNat).2.getD zone.toNat default with state := 2 } } by simp only [openD, hE, if_pos hr0, hL], hE, hr0]
          exact RM.dev 2 (congrArg (fun g => some (O.arr 28 3 d.zones.length g)) (updG_state (by omega) 2)) (by simp; omega) rfl
        · subst hg
          refine ⟨.c (.int .i64 (roomX d zone.toNat).1), _, rfl, rfl, ?_⟩
          conv => whnf
          repeat' ((first | refine Need.auto ?_ | refine Have.mk (fun _h => ?_)); conv => whnf)
          (first | refine Br.lt (fun h4 => ?_) (fun h4 => ?_) | refine Br.le (fun h4 => ?_) (fun h4 => ?_) | refine Br.gt (fun h4 => ?_) (fun h4 => ?_) | refine Br.ge (fun h4 => ?_) (fun h4 => ?_) | refine Br.eq (fun h4 => ?_) (fun h4 => ?_) | refine Br.ne (fun h4 => ?_) (fun h4 => ?_) | refine Br.not (fun h4 => ?_) (fun h4 => ?_) | refine Br.mk (fun h4 => ?_) (fun h4 => ?_)) <;> (try simp only [Int.toNat_natCast] at h4) <;> (conv => whnf)
          · repeat' ((first | refine Need.auto ?_ | refine Have.mk (fun _h => ?_)); conv => whnf)
            refine CallN.opens clone_body (clone_spec d hd) (leA.refl rfl) ?_; rintro s Hc ⟨rfl, rfl⟩; refine ⟨_, _, rfl, plug_nil_arr _ _ _ _, ?_⟩; conv => whnf
            repeat' ((first | refine Need.auto ?_ | refine Have.mk (fun _h => ?_)); conv => whnf)
            rw [show openD d zone = d by simp only [openD, hE, if_neg hr0], hE]
            exact RM.dev 4 rfl rfl rfl
          · exact absurd h4 hr0
      · repeat' ((first | refine Need.auto ?_ | refine Have.mk (fun _h => ?_)); conv => whnf)
        have hE : openE d zone = 0 := by simp only [openE, if_pos he, if_neg h2]; rw [h3]; rfl
        have hL : openL d zone.toNat = d.zones := by simp only [openL]; rw [h3]; rfl
        rw [show openD d zone = { d with zones := d.zones.set zone.toNat { d.zones.getD zone.toNat default with state := 2 } } by simp only [openD, hE, if_pos, hL], hE]
        exact RM.dev 2 (congrArg (fun g => some (O.arr 28 3 d.zones.length g)) (updG_state hk 2)) (by simp) rfl
  · simp only [beginQ, if_neg he] at hq
    obtain ⟨rfl, rfl⟩ := hq
    refine ⟨.t [.inr d.cells, .inl (.int .i64 (beginE d zone))], _, rfl, plug_nil_nil _, ?_⟩
    conv => whnf
    repeat' ((first | refine Need.auto ?_ | refine Have.mk (fun _h => ?_)); conv => whnf)
    (first | refine Br.lt (fun h1 => ?_) (fun h1 => ?_) | refine Br.le (fun h1 => ?_) (fun h1 => ?_) | refine Br.gt (fun h1 => ?_) (fun h1 => ?_) | refine Br.ge (fun h1 => ?_) (fun h1 => ?_) | refine Br.eq (fun h1 => ?_) (fun h1 => ?_) | refine Br.ne (fun h1 => ?_) (fun h1 => ?_) | refine Br.not (fun h1 => ?_) (fun h1 => ?_) | refine Br.mk (fun h1 => ?_) (fun h1 => ?_)) <;> (try simp only [Int.toNat_natCast] at h1) <;> (conv => whnf)
    · repeat' ((first | refine Need.auto ?_ | refine Have.mk (fun _h => ?_)); conv => whnf)
      refine CallN.opens clone_body (clone_spec d hd) (leA.refl rfl) ?_; rintro s Hc ⟨rfl, rfl⟩; refine ⟨_, _, rfl, plug_nil_arr _ _ _ _, ?_⟩; conv => whnf
      repeat' ((first | refine Need.auto ?_ | refine Have.mk (fun _h => ?_)); conv => whnf)
      have hE : openE d zone = beginE d zone := by simp only [openE, if_neg he]
      rw [show openD d zone = d by simp only [openD, hE, if_neg he], hE]
      exact RM.dev 3 rfl rfl rfl
    · exact absurd h1 he
theorem open_body : HasBody Try.prog 60 := ⟨⟨Try.f60, Try.func60, rfl, by kernel_rfl⟩⟩
theorem close_spec (d : Dev) (hd : d.small) (zone : Int) : PSpec Try.prog 62 [d.s, .c (.int .i64 zone)] (Dev.out (closeD d zone) (closeE d zone)) := by
  refine PSpec.rm ?_
  refine CSpec.of_vc hΓ Try.func62 rfl 47 0 [.cell 4 24, .tmp 5] Try.ntmps62 rfl (by rw [Try.results62]) rfl ?_
  conv => whnf
  refine CallN.opens begin_body (begin_spec d zone) (leA.refl rfl) ?_
  rintro s Hc hq
  by_cases he : beginE d zone = 0
  · simp only [beginQ, if_pos he] at hq
    obtain ⟨rfl, rfl⟩ := hq
    obtain ⟨hok, hz0, hz1⟩ := beginE_zone he
    have hk : zone.toNat < d.zones.length := by omega
    refine ⟨.t [.inr (d.own 2), .inl (.int .i64 0)], _, rfl, plug_nil_arr _ _ _ _, ?_⟩
    conv => whnf
    repeat' ((first | refine Need.auto ?_ | refine Have.mk (fun _h => ?_)); conv => whnf)
    refine Br.no rfl ?_; conv => whnf
    repeat' ((first | refine Need.auto ?_ | refine Have.mk (fun _h => ?_)); conv => whnf)
    refine Frc.mk _ rfl ?_; conv => whnf
    repeat' ((first | refine Need.auto ?_ | refine Have.mk (fun _h => ?_)); conv => whnf)
    refine CallN.pure opened_body (opened_spec _ ) (leA.refl rfl) rfl ?_
    conv => whnf
    repeat' ((first | refine Need.auto ?_ | refine Have.mk (fun _h => ?_)); conv => whnf)
    refine Frc.mk _ rfl ?_; conv => whnf
    repeat' ((first | refine Need.auto ?_ | refine Have.mk (fun _h => ?_)); conv => whnf)
    have hEe : closeE d zone = if isActive (d.zones.getD zone.toNat default).state then 0 else 6 := by simp only [closeE, if_pos he]
    (first | refine Br.lt (fun h2 => ?_) (fun h2 => ?_) | refine Br.le (fun h2 => ?_) (fun h2 => ?_) | refine Br.gt (fun h2 => ?_) (fun h2 => ?_) | refine Br.ge (fun h2 => ?_) (fun h2 => ?_) | refine Br.eq (fun h2 => ?_) (fun h2 => ?_) | refine Br.ne (fun h2 => ?_) (fun h2 => ?_) | refine Br.not (fun h2 => ?_) (fun h2 => ?_) | (refine Br.mk (fun h2 => ?_) (fun h2 => ?_) <;> simp [-List.length_eq_zero_iff, -List.getD_eq_getElem?_getD] at h2)) <;> (try simp only [Int.toNat_natCast] at h2) <;> (conv => whnf)
    · repeat' ((first | refine Need.auto ?_ | refine Have.mk (fun _h => ?_)); conv => whnf)
      have hna : isActive (d.zones.getD zone.toNat default).state = false := by
        obtain ⟨h2a, h2b⟩ := h2
        simp only [isOpen, decide_eq_false_iff_not] at h2a
        simp only [isActive, decide_eq_false_iff_not]
        omega
      refine CallN.opens clone_body (clone_spec d hd) (leA.refl rfl) ?_; rintro s Hc ⟨rfl, rfl⟩; refine ⟨_, _, rfl, plug_nil_arr _ _ _ _, ?_⟩; conv => whnf
      repeat' ((first | refine Need.auto ?_ | refine Have.mk (fun _h => ?_)); conv => whnf)
      have hE : closeE d zone = 6 := by rw [hEe, hna]; rfl
      rw [show closeD d zone = d by simp only [closeD, hE]; rfl, hE]
      exact RM.dev 4 rfl rfl rfl
    · repeat' ((first | refine Need.auto ?_ | refine Have.mk (fun _h => ?_)); conv => whnf)
      refine Frc.mk _ rfl ?_; conv => whnf
      repeat' ((first | refine Need.auto ?_ | refine Have.mk (fun _h => ?_)); conv => whnf)
      refine CallN.pure opened_body (opened_spec _ ) (leA.refl rfl) rfl ?_
      conv => whnf
      repeat' ((first | refine Need.auto ?_ | refine Have.mk (fun _h => ?_)); conv => whnf)
      have hac : isActive (d.zones.getD zone.toNat default).state = true := by
        cases ho : isOpen (d.zones.getD zone.toNat default).state with
        | true =>
          simp only [isOpen, decide_eq_true_eq] at ho
          simp only [isActive, decide_eq_true_eq]; omega
        | false =>
          have := h2 ho
          simp only [isActive, decide_eq_true_eq]; omega
      have hE : closeE d zone = 0 := by rw [hEe, hac]; rfl
      (first | refine Br.lt (fun h3 => ?_) (fun h3 => ?_) | refine Br.le (fun h3 => ?_) (fun h3 => ?_) | refine Br.gt (fun h3 => ?_) (fun h3 => ?_) | refine Br.ge (fun h3 => ?_) (fun h3 => ?_) | refine Br.eq (fun h3 => ?_) (fun h3 => ?_) | refine Br.ne (fun h3 => ?_) (fun h3 => ?_) | refine Br.not (fun h3 => ?_) (fun h3 => ?_) | refine Br.mk (fun h3 => ?_) (fun h3 => ?_)) <;> (try simp only [Int.toNat_natCast] at h3) <;> (conv => whnf)
      · repeat' ((first | refine Need.auto ?_ | refine Have.mk (fun _h => ?_)); conv => whnf)
        refine CallN.frame1 shut_body (shut_spec d.zones zone.toNat hk) 2 rfl (fun i _ j _ => wkC.imm (zoneAtT_imm _ _ _)) (wkA.cons (wkS.c (wkC.ep1 rfl rfl rfl)) wkA.nil) ?_
        rintro s Hc ⟨rfl, rfl⟩
        refine ⟨.t [], [.vr d.cells, .vr [.int .i64 0, .int .i64 0, .int .i64 0, .nils], .arr 28 3 d.zones.length (zoneAtT (shutAt d.zones zone.toNat)), .vr (d.own 2)], rfl, congrArg (fun g => [O.vr d.cells, O.vr [.int .i64 0, .int .i64 0, .int .i64 0, .nils], O.arr 28 3 d.zones.length g, O.vr (d.own 2)]) (reC_zoneAtT _ _), ?_⟩
        conv => whnf
        repeat' ((first | refine Need.auto ?_ | refine Have.mk (fun _h => ?_)); conv => whnf)
        rw [show closeD d zone = { d with zones := shutAt d.zones zone.toNat } by simp only [closeD, hE]; rw [h3]; rfl, hE]
        exact RM.dev 2 rfl (shutAt_len _ _).symm rfl
      · repeat' ((first | refine Need.auto ?_ | refine Have.mk (fun _h => ?_)); conv => whnf)
        rw [show closeD d zone = { d with zones := d.zones } by simp only [closeD, hE]; rw [h3]; rfl, hE]
        exact RM.dev 2 rfl rfl rfl
  · simp only [beginQ, if_neg he] at hq
    obtain ⟨rfl, rfl⟩ := hq
    refine ⟨.t [.inr d.cells, .inl (.int .i64 (beginE d zone))], _, rfl, plug_nil_nil _, ?_⟩
    conv => whnf
    repeat' ((first | refine Need.auto ?_ | refine Have.mk (fun _h => ?_)); conv => whnf)
    (first | refine Br.lt (fun h1 => ?_) (fun h1 => ?_) | refine Br.le (fun h1 => ?_) (fun h1 => ?_) | refine Br.gt (fun h1 => ?_) (fun h1 => ?_) | refine Br.ge (fun h1 => ?_) (fun h1 => ?_) | refine Br.eq (fun h1 => ?_) (fun h1 => ?_) | refine Br.ne (fun h1 => ?_) (fun h1 => ?_) | refine Br.not (fun h1 => ?_) (fun h1 => ?_) | refine Br.mk (fun h1 => ?_) (fun h1 => ?_)) <;> (try simp only [Int.toNat_natCast] at h1) <;> (conv => whnf)
    · repeat' ((first | refine Need.auto ?_ | refine Have.mk (fun _h => ?_)); conv => whnf)
      refine CallN.opens clone_body (clone_spec d hd) (leA.refl rfl) ?_; rintro s Hc ⟨rfl, rfl⟩; refine ⟨_, _, rfl, plug_nil_arr _ _ _ _, ?_⟩; conv => whnf
      repeat' ((first | refine Need.auto ?_ | refine Have.mk (fun _h => ?_)); conv => whnf)
      have hE : closeE d zone = beginE d zone := by simp only [closeE, if_neg he]
      rw [show closeD d zone = d by simp only [closeD, hE, if_neg he], hE]
      exact RM.dev 3 rfl rfl rfl
    · exact absurd h1 he
theorem close_body : HasBody Try.prog 62 := ⟨⟨Try.f62, Try.func62, rfl, by kernel_rfl⟩⟩
end Go.Proofs
end

section
open Go Go.Am
namespace Go.Proofs

theorem append_spec (d : Dev) (hd : d.small) (zone : Int) (s : ByteArray) : PSpec Try.prog 26 [d.s, .c (.int .i64 zone), .c (.str s)] (Dev.out3 (appendD d zone s) (appendI d zone s) (appendE d zone s)) := by
  refine PSpec.rm ?_
  refine CSpec.of_vc hΓ Try.func26 rfl 116 0 [.cell 6 24, .tmp 7, .tmp 8] Try.ntmps26 rfl (by rw [Try.results26]) rfl ?_
  have bad : ∀ e, appendE d zone s = e → e ≠ 0 → appendD d zone s = d ∧ appendI d zone s = 0 := by
    intro e h1 h2
    have h3 : ¬ appendE d zone s = 0 := by rw [h1]; exact h2
    exact ⟨by simp only [appendD, if_neg h3], by simp only [appendI, if_neg h3]⟩
  conv => whnf
  refine CallN.opens begin_body (begin_spec d zone) (leA.refl rfl) ?_
  rintro s0 Hc hq
  by_cases he : beginE d zone = 0
  · simp only [beginQ, if_pos he] at hq
    obtain ⟨rfl, rfl⟩ := hq
    obtain ⟨hok, hz0, hz1⟩ := beginE_zone he
    have hk : zone.toNat < d.zones.length := by omega
    refine ⟨.t [.inr (d.own 2), .inl (.int .i64 0)], _, rfl, plug_nil_arr _ _ _ _, ?_⟩
    have hch : check d = 0 := check_ok.2 hok
    have hrange : decide (0 ≤ zone ∧ zone < d.zones.length) = true := by simp only [decide_eq_true_eq]; omega
    have hst5 : ¬ (d.zones.getD zone.toNat default).state = 5 := by
      intro h5
      have : beginE d zone = 6 := by simp only [beginE, if_pos hch, hrange, if_pos, if_pos h5]
      rw [this] at he; cases he
    conv => whnf
    repeat' ((first | refine Need.auto ?_ | refine Have.mk (fun _h => ?_)); conv => whnf)
    refine Br.no rfl ?_; conv => whnf
    repeat' ((first | refine Need.auto ?_ | refine Have.mk (fun _h => ?_)); conv => whnf)
    refine CallG.pure check_body (fun _ => check_spec d ) (fun _ => leA.refl rfl) rfl ?_
    conv => whnf
    repeat' ((first | refine Need.auto ?_ | refine Have.mk (fun _h => ?_)); conv => whnf)
    refine Br.no rfl ?_; conv => whnf
    repeat' ((first | refine Need.auto ?_ | refine Have.mk (fun _h => ?_)); conv => whnf)
    (first | refine Br.lt (fun h40 => ?_) (fun h40 => ?_) | refine Br.le (fun h40 => ?_) (fun h40 => ?_) | refine Br.gt (fun h40 => ?_) (fun h40 => ?_) | refine Br.ge (fun h40 => ?_) (fun h40 => ?_) | refine Br.eq (fun h40 => ?_) (fun h40 => ?_) | refine Br.ne (fun h40 => ?_) (fun h40 => ?_) | refine Br.not (fun h40 => ?_) (fun h40 => ?_) | refine Br.mk (fun h40 => ?_) (fun h40 => ?_)) <;> (try simp only [Int.toNat_natCast] at h40) <;> (conv => whnf)
    · repeat' ((first | refine Need.auto ?_ | refine Have.mk (fun _h => ?_)); conv => whnf)
      refine CallN.opens clone_body (clone_spec d hd) (leA.refl rfl) ?_; rintro s Hc ⟨rfl, rfl⟩; refine ⟨_, _, rfl, plug_nil_arr _ _ _ _, ?_⟩; conv => whnf
      repeat' ((first | refine Need.auto ?_ | refine Have.mk (fun _h => ?_)); conv => whnf)
      have hE : appendE d zone s = 2 := by
        simp only [appendE, if_pos hch, hrange, if_pos]
        rw [if_neg (by omega)]
      obtain ⟨hD, hI⟩ := bad _ hE (by decide)
      rw [hD, hI, hE]
      exact RM.dev3 4 rfl rfl rfl rfl
    · repeat' ((first | refine Need.auto ?_ | refine Have.mk (fun _h => ?_)); conv => whnf)
      refine Br.no rfl ?_; conv => whnf
      repeat' ((first | refine Need.auto ?_ | refine Have.mk (fun _h => ?_)); conv => whnf)
      refine Frc.mk _ rfl ?_; conv => whnf
      repeat' ((first | refine Need.auto ?_ | refine Have.mk (fun _h => ?_)); conv => whnf)
      (first | refine Br.lt (fun h4 => ?_) (fun h4 => ?_) | refine Br.le (fun h4 => ?_) (fun h4 => ?_) | refine Br.gt (fun h4 => ?_) (fun h4 => ?_) | refine Br.ge (fun h4 => ?_) (fun h4 => ?_) | refine Br.eq (fun h4 => ?_) (fun h4 => ?_) | refine Br.ne (fun h4 => ?_) (fun h4 => ?_) | refine Br.not (fun h4 => ?_) (fun h4 => ?_) | refine Br.mk (fun h4 => ?_) (fun h4 => ?_)) <;> (try simp only [Int.toNat_natCast] at h4) <;> (conv => whnf)
      · repeat' ((first | refine Need.auto ?_ | refine Have.mk (fun _h => ?_)); conv => whnf)
        refine CallN.opens clone_body (clone_spec d hd) (leA.refl rfl) ?_; rintro s Hc ⟨rfl, rfl⟩; refine ⟨_, _, rfl, plug_nil_arr _ _ _ _, ?_⟩; conv => whnf
        repeat' ((first | refine Need.auto ?_ | refine Have.mk (fun _h => ?_)); conv => whnf)
        have hE : appendE d zone s = 7 := by
          simp only [appendE, if_pos hch, hrange, if_pos]
          rw [if_pos (by omega), if_neg hst5, if_pos h4]
        obtain ⟨hD, hI⟩ := bad _ hE (by decide)
        rw [hD, hI, hE]
        exact RM.dev3 4 rfl rfl rfl rfl
      · repeat' ((first | refine Need.auto ?_ | refine Have.mk (fun _h => ?_)); conv => whnf)
        refine Frc.mk _ rfl ?_; conv => whnf
        repeat' ((first | refine Need.auto ?_ | refine Have.mk (fun _h => ?_)); conv => whnf)
        refine CallN.pure opened_body (opened_spec _ ) (leA.refl rfl) rfl ?_
        conv => whnf
        repeat' ((first | refine Need.auto ?_ | refine Have.mk (fun _h => ?_)); conv => whnf)
        have hm : (d.zones.getD zone.toNat default).sectors.length ≤ 10000000 := hd.s _
        (first | refine Br.lt (fun h3 => ?_) (fun h3 => ?_) | refine Br.le (fun h3 => ?_) (fun h3 => ?_) | refine Br.gt (fun h3 => ?_) (fun h3 => ?_) | refine Br.ge (fun h3 => ?_) (fun h3 => ?_) | refine Br.eq (fun h3 => ?_) (fun h3 => ?_) | refine Br.ne (fun h3 => ?_) (fun h3 => ?_) | refine Br.not (fun h3 => ?_) (fun h3 => ?_) | refine Br.mk (fun h3 => ?_) (fun h3 => ?_)) <;> (try simp only [Int.toNat_natCast] at h3) <;> (conv => whnf)
        · repeat' ((first | refine Need.auto ?_ | refine Have.mk (fun _h => ?_)); conv => whnf)
          have hE : appendE d zone s = (roomX d zone.toNat).1 := by
            simp only [appendE, if_pos hch, hrange, if_pos]
            rw [if_pos (by omega), if_neg hst5, if_neg h4, h3]; rfl
          have hL : openL d zone.toNat = (roomX d zone.toNat).2 := by simp only [openL]; rw [h3]; rfl
          have hlen := roomX_len d zone.toNat
          have hsec := roomX_sectors d zone.toNat zone.toNat
          have hm' : ((roomX d zone.toNat).2.getD zone.toNat default).sectors.length ≤ 10000000 := by rw [hsec]; exact hm
          have hk' : zone.toNat < (roomX d zone.toNat).2.length := by omega
          refine CallN.frame1 room_body (room_spec d hd.z zone.toNat hk) 2 rfl (fun i _ j _ => wkC.imm (zoneAtT_imm _ _ _)) (wkA.cons wk_own (wkA.cons (wkS.c (wkC.int (by omega))) wkA.nil)) ?_
          rintro s1 Hc ⟨rfl, hr, g, hg⟩
          by_cases hr0 : (roomX d zone.toNat).1 = 0
          · rw [hr hr0]
            have hE0 : appendE d zone s = 0 := by rw [hE, hr0]
            have hI : appendI d zone s = ((roomX d zone.toNat).2.getD zone.toNat default).sectors.length := by simp only [appendI, if_pos hE0, hsec]
            refine ⟨.c (.int .i64 0), [.vr d.cells, .vr [.int .i64 0, .int .i64 0, .int .i64 0, .nils], .arr 28 3 d.zones.length (zoneAtT (roomX d zone.toNat).2), .vr (d.own 2)], by rw [hr0]; rfl, congrArg (fun g => [O.vr d.cells, O.vr [.int .i64 0, .int .i64 0, .int .i64 0, .nils], O.arr 28 3 d.zones.length g, O.vr (d.own 2)]) (reC_zoneAtT _ _), ?_⟩
            conv => whnf
            repeat' ((first | refine Need.auto ?_ | refine Have.mk (fun _h => ?_)); conv => whnf)
            refine Br.no rfl ?_; conv => whnf
            repeat' ((first | refine Need.auto ?_ | refine Have.mk (fun _h => ?_)); conv => whnf)
            refine Frc.mk (.c (strsT ((roomX d zone.toNat).2.getD zone.toNat default).sectors)) (by simp only [updG_one]; rfl) ?_
            conv => whnf
            repeat' ((first | refine Need.auto ?_ | refine Have.mk (fun _h => ?_)); conv => whnf)
            refine Dr.mk hΓ hMix (by kernel_rfl) ?_; conv => whnf
            repeat' ((first | refine Need.auto ?_ | refine Have.mk (fun _h => ?_)); conv => whnf)
            refine Frc.mk (.c (.sl 5 1 (((roomX d zone.toNat).2.getD zone.toNat default).sectors.length + 1) (((roomX d zone.toNat).2.getD zone.toNat default).sectors.length + 1) false)) (by simp only [updG_one]; rfl) ?_
            conv => whnf
            repeat' ((first | refine Need.auto ?_ | refine Have.mk (fun _h => ?_)); conv => whnf)
            (first | refine Br.lt (fun hs => ?_) (fun hs => ?_) | refine Br.le (fun hs => ?_) (fun hs => ?_) | refine Br.gt (fun hs => ?_) (fun hs => ?_) | refine Br.ge (fun hs => ?_) (fun hs => ?_) | refine Br.eq (fun hs => ?_) (fun hs => ?_) | refine Br.ne (fun hs => ?_) (fun hs => ?_) | refine Br.not (fun hs => ?_) (fun hs => ?_) | refine Br.mk (fun hs => ?_) (fun hs => ?_)) <;> (try simp only [Int.toNat_natCast] at hs) <;> (conv => whnf)
            · repeat' ((first | refine Need.auto ?_ | refine Have.mk (fun _h => ?_)); conv => whnf)
              refine Dr.mkS hΓ hMix [(1,6),(2,6),(3,6)] (by kernel_rfl) ?_; conv => whnf
              repeat' ((first | refine Need.auto ?_ | refine Have.mk (fun _h => ?_)); conv => whnf)
              refine Dr.mkS hΓ hMix [(1,7),(2,7),(3,7),(4,7),(5,7),(6,7)] (by kernel_rfl) ?_; conv => whnf
              repeat' ((first | refine Need.auto ?_ | refine Have.mk (fun _h => ?_)); conv => whnf)
              refine Frc.mk (.c (.sl 5 1 (((roomX d zone.toNat).2.getD zone.toNat default).sectors.length + 1) (((roomX d zone.toNat).2.getD zone.toNat default).sectors.length + 1) false)) (by simp only [updG_one]; rfl) ?_
              conv => whnf
              repeat' ((first | refine Need.auto ?_ | refine Have.mk (fun _h => ?_)); conv => whnf)
              have hD : appendD d zone s = { d with zones := (roomX d zone.toNat).2.set zone.toNat ⟨4, d.size, ((roomX d zone.toNat).2.getD zone.toNat default).sectors ++ [s]⟩ } := by
                simp only [appendD, if_pos hE0, hL, grow]
                rw [if_pos (by omega)]
              rw [hD, hI, hE0]
              refine RM.dev3F 2 5 rfl rfl (by decide) (app_imm _ _ _) (by simp; omega) (fun i hi => append_cells hk' (by simp) (app_cells _ _ _) (G := _) ?_ i (by omega)) (by rw [wrap_id _ (by omega) (by omega)]; omega) rfl
              intro i j hj
              simp only [updG_one]
              by_cases c : i = zone.toNat
              · subst c
                match j, hj with
                | 0, _ => simp [zoneAtT, Zone.cellT]
                | 1, _ => simp [zoneAtT, Zone.cellT]
                | 2, _ => simp
              · simp [c]
            · repeat' ((first | refine Need.auto ?_ | refine Have.mk (fun _h => ?_)); conv => whnf)
              refine Dr.mkS hΓ hMix [(1,7),(2,7),(3,7),(4,7),(5,7),(6,7)] (by kernel_rfl) ?_; conv => whnf
              repeat' ((first | refine Need.auto ?_ | refine Have.mk (fun _h => ?_)); conv => whnf)
              refine Frc.mk (.c (.sl 5 1 (((roomX d zone.toNat).2.getD zone.toNat default).sectors.length + 1) (((roomX d zone.toNat).2.getD zone.toNat default).sectors.length + 1) false)) (by simp only [updG_one]; rfl) ?_
              conv => whnf
              repeat' ((first | refine Need.auto ?_ | refine Have.mk (fun _h => ?_)); conv => whnf)
              have hD : appendD d zone s = { d with zones := (roomX d zone.toNat).2.set zone.toNat ⟨1, ((roomX d zone.toNat).2.getD zone.toNat default).durable, ((roomX d zone.toNat).2.getD zone.toNat default).sectors ++ [s]⟩ } := by
                simp only [appendD, if_pos hE0, hL, grow]
                rw [if_neg (by omega), roomX_closed d zone.toNat zone.toNat h3]; rfl
              rw [hD, hI, hE0]
              refine RM.dev3F 2 5 rfl rfl (by decide) (app_imm _ _ _) (by simp; omega) (fun i hi => append_cells hk' (by simp) (app_cells _ _ _) (G := _) ?_ i (by omega)) (by rw [wrap_id _ (by omega) (by omega)]; omega) rfl
              intro i j hj
              simp only [updG_one]
              by_cases c : i = zone.toNat
              · subst c
                match j, hj with
                | 0, _ => simp [zoneAtT, Zone.cellT]
                | 1, _ => simp [zoneAtT, Zone.cellT]
                | 2, _ => simp
              · simp [c]
          · subst hg
            refine ⟨.c (.int .i64 (roomX d zone.toNat).1), _, rfl, rfl, ?_⟩
            conv => whnf
            repeat' ((first | refine Need.auto ?_ | refine Have.mk (fun _h => ?_)); conv => whnf)
            (first | refine Br.lt (fun h5 => ?_) (fun h5 => ?_) | refine Br.le (fun h5 => ?_) (fun h5 => ?_) | refine Br.gt (fun h5 => ?_) (fun h5 => ?_) | refine Br.ge (fun h5 => ?_) (fun h5 => ?_) | refine Br.eq (fun h5 => ?_) (fun h5 => ?_) | refine Br.ne (fun h5 => ?_) (fun h5 => ?_) | refine Br.not (fun h5 => ?_) (fun h5 => ?_) | refine Br.mk (fun h5 => ?_) (fun h5 => ?_)) <;> (try simp only [Int.toNat_natCast] at h5) <;> (conv => whnf)
            · repeat' ((first | refine Need.auto ?_ | refine Have.mk (fun _h => ?_)); conv => whnf)
              refine CallN.opens clone_body (clone_spec d hd) (leA.refl rfl) ?_; rintro s Hc ⟨rfl, rfl⟩; refine ⟨_, _, rfl, plug_nil_arr _ _ _ _, ?_⟩; conv => whnf
              repeat' ((first | refine Need.auto ?_ | refine Have.mk (fun _h => ?_)); conv => whnf)
              obtain ⟨hD, hI⟩ := bad _ hE hr0
              rw [hD, hI, hE]
              exact RM.dev3 4 rfl rfl rfl rfl
            · exact absurd h5 hr0
        · repeat' ((first | refine Need.auto ?_ | refine Have.mk (fun _h => ?_)); conv => whnf)
          refine Frc.mk _ rfl ?_; conv => whnf
          repeat' ((first | refine Need.auto ?_ | refine Have.mk (fun _h => ?_)); conv => whnf)
          refine Dr.mk hΓ hMix (by kernel_rfl) ?_; conv => whnf
          repeat' ((first | refine Need.auto ?_ | refine Have.mk (fun _h => ?_)); conv => whnf)
          refine Frc.mk (.c (.sl 5 1 ((d.zones.getD zone.toNat default).sectors.length + 1) ((d.zones.getD zone.toNat default).sectors.length + 1) false)) (by simp only [updG_one]; rfl) ?_
          conv => whnf
          repeat' ((first | refine Need.auto ?_ | refine Have.mk (fun _h => ?_)); conv => whnf)
          (first | refine Br.lt (fun hs => ?_) (fun hs => ?_) | refine Br.le (fun hs => ?_) (fun hs => ?_) | refine Br.gt (fun hs => ?_) (fun hs => ?_) | refine Br.ge (fun hs => ?_) (fun hs => ?_) | refine Br.eq (fun hs => ?_) (fun hs => ?_) | refine Br.ne (fun hs => ?_) (fun hs => ?_) | refine Br.not (fun hs => ?_) (fun hs => ?_) | refine Br.mk (fun hs => ?_) (fun hs => ?_)) <;> (try simp only [Int.toNat_natCast] at hs) <;> (conv => whnf)
          · repeat' ((first | refine Need.auto ?_ | refine Have.mk (fun _h => ?_)); conv => whnf)
            refine Dr.mkS hΓ hMix [(1,6),(2,6),(3,6)] (by kernel_rfl) ?_; conv => whnf
            repeat' ((first | refine Need.auto ?_ | refine Have.mk (fun _h => ?_)); conv => whnf)
            refine Dr.mkS hΓ hMix [(1,7),(2,7),(3,7),(4,7),(5,7),(6,7)] (by kernel_rfl) ?_; conv => whnf
            repeat' ((first | refine Need.auto ?_ | refine Have.mk (fun _h => ?_)); conv => whnf)
            refine Frc.mk (.c (.sl 5 1 ((d.zones.getD zone.toNat default).sectors.length + 1) ((d.zones.getD zone.toNat default).sectors.length + 1) false)) (by simp only [updG_one]; rfl) ?_
            conv => whnf
            repeat' ((first | refine Need.auto ?_ | refine Have.mk (fun _h => ?_)); conv => whnf)
            have hE : appendE d zone s = 0 := by
              simp only [appendE, if_pos hch, hrange, if_pos]
              rw [if_pos (by omega), if_neg hst5, if_neg h4, h3]; rfl
            have hL : openL d zone.toNat = d.zones := by simp only [openL]; rw [h3]; rfl
            have hI : appendI d zone s = (d.zones.getD zone.toNat default).sectors.length := by simp only [appendI, if_pos hE]
            have hD : appendD d zone s = { d with zones := d.zones.set zone.toNat ⟨4, d.size, (d.zones.getD zone.toNat default).sectors ++ [s]⟩ } := by
              simp only [appendD, if_pos hE, hL, grow]
              rw [if_pos (by omega)]
            rw [hD, hI, hE]
            refine RM.dev3F 2 5 rfl rfl (by decide) (app_imm _ _ _) (by simp) (append_cells hk (by simp) (app_cells _ _ _) ?_) (by rw [wrap_id _ (by omega) (by omega)]; omega) rfl
            intro i j hj
            simp only [updG_one]
            by_cases c : i = zone.toNat
            · subst c
              match j, hj with
              | 0, _ => simp [zoneAtT, Zone.cellT]
              | 1, _ => simp [zoneAtT, Zone.cellT]
              | 2, _ => simp
            · simp [c]
          · repeat' ((first | refine Need.auto ?_ | refine Have.mk (fun _h => ?_)); conv => whnf)
            refine Dr.mkS hΓ hMix [(1,7),(2,7),(3,7),(4,7),(5,7),(6,7)] (by kernel_rfl) ?_; conv => whnf
            repeat' ((first | refine Need.auto ?_ | refine Have.mk (fun _h => ?_)); conv => whnf)
            refine Frc.mk (.c (.sl 5 1 ((d.zones.getD zone.toNat default).sectors.length + 1) ((d.zones.getD zone.toNat default).sectors.length + 1) false)) (by simp only [updG_one]; rfl) ?_
            conv => whnf
            repeat' ((first | refine Need.auto ?_ | refine Have.mk (fun _h => ?_)); conv => whnf)
            have hE : appendE d zone s = 0 := by
              simp only [appendE, if_pos hch, hrange, if_pos]
              rw [if_pos (by omega), if_neg hst5, if_neg h4, h3]; rfl
            have hL : openL d zone.toNat = d.zones := by simp only [openL]; rw [h3]; rfl
            have hI : appendI d zone s = (d.zones.getD zone.toNat default).sectors.length := by simp only [appendI, if_pos hE]
            have hD : appendD d zone s = { d with zones := d.zones.set zone.toNat ⟨(d.zones.getD zone.toNat default).state, (d.zones.getD zone.toNat default).durable, (d.zones.getD zone.toNat default).sectors ++ [s]⟩ } := by
              simp only [appendD, if_pos hE, hL, grow]
              rw [if_neg (by omega), h3]; rfl
            rw [hD, hI, hE]
            refine RM.dev3F 2 5 rfl rfl (by decide) (app_imm _ _ _) (by simp) (append_cells hk (by simp) (app_cells _ _ _) ?_) (by rw [wrap_id _ (by omega) (by omega)]; omega) rfl
            intro i j hj
            simp only [updG_one]
            by_cases c : i = zone.toNat
            · subst c
              match j, hj with
              | 0, _ => simp [zoneAtT, Zone.cellT]
              | 1, _ => simp [zoneAtT, Zone.cellT]
              | 2, _ => simp
            · simp [c]
  · simp only [beginQ, if_neg he] at hq
    obtain ⟨rfl, rfl⟩ := hq
    refine ⟨.t [.inr d.cells, .inl (.int .i64 (beginE d zone))], _, rfl, plug_nil_nil _, ?_⟩
    conv => whnf
    repeat' ((first | refine Need.auto ?_ | refine Have.mk (fun _h => ?_)); conv => whnf)
    (first | refine Br.lt (fun h1 => ?_) (fun h1 => ?_) | refine Br.le (fun h1 => ?_) (fun h1 => ?_) | refine Br.gt (fun h1 => ?_) (fun h1 => ?_) | refine Br.ge (fun h1 => ?_) (fun h1 => ?_) | refine Br.eq (fun h1 => ?_) (fun h1 => ?_) | refine Br.ne (fun h1 => ?_) (fun h1 => ?_) | refine Br.not (fun h1 => ?_) (fun h1 => ?_) | (refine Br.mk (fun h1 => ?_) (fun h1 => ?_) <;> simp [-List.length_eq_zero_iff, -List.getD_eq_getElem?_getD] at h1)) <;> (try simp only [Int.toNat_natCast] at h1) <;> (conv => whnf)
    · repeat' ((first | refine Need.auto ?_ | refine Have.mk (fun _h => ?_)); conv => whnf)
      refine CallN.opens clone_body (clone_spec d hd) (leA.refl rfl) ?_; rintro s Hc ⟨rfl, rfl⟩; refine ⟨_, _, rfl, plug_nil_arr _ _ _ _, ?_⟩; conv => whnf
      repeat' ((first | refine Need.auto ?_ | refine Have.mk (fun _h => ?_)); conv => whnf)
      have hE : appendE d zone s = beginE d zone := by
        by_cases hch : check d = 0
        · by_cases hr : 0 ≤ zone ∧ zone < d.zones.length
          · have : beginE d zone = if (d.zones.getD zone.toNat default).state = 5 then 6 else 0 := by simp only [beginE, if_pos hch, decide_eq_true hr, if_pos]
            rw [this] at h1 he
            split at h1 <;> simp at h1 he
          · simp only [beginE, appendE, if_pos hch, decide_eq_false hr]; rfl
        · simp only [beginE, appendE, if_neg hch]
      obtain ⟨hD, hI⟩ := bad _ hE he
      rw [hD, hI, hE]
      exact RM.dev3 3 rfl rfl rfl rfl
    · repeat' ((first | refine Need.auto ?_ | refine Have.mk (fun _h => ?_)); conv => whnf)
      have he6 : beginE d zone = 6 := h1 he
      refine CallG.pure check_body (fun _ => check_spec d ) (fun _ => leA.refl rfl) rfl ?_
      conv => whnf
      repeat' ((first | refine Need.auto ?_ | refine Have.mk (fun _h => ?_)); conv => whnf)
      (first | refine Br.lt (fun h2 => ?_) (fun h2 => ?_) | refine Br.le (fun h2 => ?_) (fun h2 => ?_) | refine Br.gt (fun h2 => ?_) (fun h2 => ?_) | refine Br.ge (fun h2 => ?_) (fun h2 => ?_) | refine Br.eq (fun h2 => ?_) (fun h2 => ?_) | refine Br.ne (fun h2 => ?_) (fun h2 => ?_) | refine Br.not (fun h2 => ?_) (fun h2 => ?_) | (refine Br.mk (fun h2 => ?_) (fun h2 => ?_) <;> simp [-List.length_eq_zero_iff, -List.getD_eq_getElem?_getD] at h2)) <;> (try simp only [Int.toNat_natCast] at h2) <;> (conv => whnf)
      · repeat' ((first | refine Need.auto ?_ | refine Have.mk (fun _h => ?_)); conv => whnf)
        refine CallN.opens clone_body (clone_spec d hd) (leA.refl rfl) ?_; rintro s Hc ⟨rfl, rfl⟩; refine ⟨_, _, rfl, plug_nil_arr _ _ _ _, ?_⟩; conv => whnf
        repeat' ((first | refine Need.auto ?_ | refine Have.mk (fun _h => ?_)); conv => whnf)
        have hE : appendE d zone s = beginE d zone := by simp only [beginE, appendE, if_neg h2.2]
        obtain ⟨hD, hI⟩ := bad _ hE he
        rw [hD, hI, hE]
        exact RM.dev3 3 rfl rfl rfl rfl
      · repeat' ((first | refine Need.auto ?_ | refine Have.mk (fun _h => ?_)); conv => whnf)
        have hch : check d = 0 := h2 he6
        have hr : 0 ≤ zone ∧ zone < d.zones.length := by
          by_cases hr : 0 ≤ zone ∧ zone < d.zones.length
          · exact hr
          · have : beginE d zone = 5 := by simp only [beginE, if_pos hch, decide_eq_false hr]; rfl
            omega
        have h5 : (d.zones.getD zone.toNat default).state = 5 := by
          by_cases h5 : (d.zones.getD zone.toNat default).state = 5
          · exact h5
          · have : beginE d zone = 0 := by simp only [beginE, if_pos hch, decide_eq_true hr, if_pos, if_neg h5]
            omega
        (first | refine Br.lt (fun h40 => ?_) (fun h40 => ?_) | refine Br.le (fun h40 => ?_) (fun h40 => ?_) | refine Br.gt (fun h40 => ?_) (fun h40 => ?_) | refine Br.ge (fun h40 => ?_) (fun h40 => ?_) | refine Br.eq (fun h40 => ?_) (fun h40 => ?_) | refine Br.ne (fun h40 => ?_) (fun h40 => ?_) | refine Br.not (fun h40 => ?_) (fun h40 => ?_) | refine Br.mk (fun h40 => ?_) (fun h40 => ?_)) <;> (try simp only [Int.toNat_natCast] at h40) <;> (conv => whnf)
        · repeat' ((first | refine Need.auto ?_ | refine Have.mk (fun _h => ?_)); conv => whnf)
          refine CallN.opens clone_body (clone_spec d hd) (leA.refl rfl) ?_; rintro s Hc ⟨rfl, rfl⟩; refine ⟨_, _, rfl, plug_nil_arr _ _ _ _, ?_⟩; conv => whnf
          repeat' ((first | refine Need.auto ?_ | refine Have.mk (fun _h => ?_)); conv => whnf)
          have hE : appendE d zone s = 2 := by
            simp only [appendE, if_pos hch, decide_eq_true hr, if_pos]
            rw [if_neg (by omega)]
          obtain ⟨hD, hI⟩ := bad _ hE (by decide)
          rw [hD, hI, hE]
          exact RM.dev3 3 rfl rfl rfl rfl
        · repeat' ((first | refine Need.auto ?_ | refine Have.mk (fun _h => ?_)); conv => whnf)
          (first | refine Br.lt (fun h6 => ?_) (fun h6 => ?_) | refine Br.le (fun h6 => ?_) (fun h6 => ?_) | refine Br.gt (fun h6 => ?_) (fun h6 => ?_) | refine Br.ge (fun h6 => ?_) (fun h6 => ?_) | refine Br.eq (fun h6 => ?_) (fun h6 => ?_) | refine Br.ne (fun h6 => ?_) (fun h6 => ?_) | refine Br.not (fun h6 => ?_) (fun h6 => ?_) | refine Br.mk (fun h6 => ?_) (fun h6 => ?_)) <;> (try simp only [Int.toNat_natCast] at h6) <;> (conv => whnf)
          · repeat' ((first | refine Need.auto ?_ | refine Have.mk (fun _h => ?_)); conv => whnf)
            refine CallN.opens clone_body (clone_spec d hd) (leA.refl rfl) ?_; rintro s Hc ⟨rfl, rfl⟩; refine ⟨_, _, rfl, plug_nil_arr _ _ _ _, ?_⟩; conv => whnf
            repeat' ((first | refine Need.auto ?_ | refine Have.mk (fun _h => ?_)); conv => whnf)
            have hE : appendE d zone s = 6 := by
              simp only [appendE, if_pos hch, decide_eq_true hr, if_pos]
              rw [if_pos (by omega), if_pos h5]
            obtain ⟨hD, hI⟩ := bad _ hE (by decide)
            rw [hD, hI, hE]
            exact RM.dev3 3 rfl rfl rfl he6
          · exact absurd h6 he
theorem append_body : HasBody Try.prog 26 := ⟨⟨Try.f26, Try.func26, rfl, by kernel_rfl⟩⟩
end Go.Proofs
end
