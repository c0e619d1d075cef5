/- Part of the proofs of laws of this seat: contracts and plain lemmas; no condition is added to a statement. -/
import Derived.Test.YtmollgldghpbkaaGreatEnv
import Derived.Test.YtmollgldghpbkaaGreatModA
set_option linter.unusedSimpArgs false
set_option linter.unusedVariables false
section
open Go Go.Am
namespace Go.Proofs
theorem opened_spec (n : Int) : PSpec Tryz.prog 226 [.c (.int .i64 n)] (.c (.bool (isOpen n))) := by
  refine CSpec.of_vc hΓ Tryz.func226 rfl 9 0 [.tmp 2] Tryz.ntmps226 rfl (by rw [Tryz.results226]) rfl ?_
  conv => whnf
  repeat' ((first | refine Need.auto ?_ | refine Have.mk (fun _h => ?_)); conv => whnf)
  simp only [S.c.injEq, C.bool.injEq, isOpen]
  rw [Bool.eq_iff_iff]
  simp
theorem opened_body : HasBody Tryz.prog 226 := ⟨⟨Tryz.f226, Tryz.func226, rfl, by kernel_rfl⟩⟩
theorem counts_spec (d : Dev) : PSpec Tryz.prog 192 [d.s] (.t [.inl (.int .i64 (cntOpen d.zones)), .inl (.int .i64 (cntActive d.zones))]) := by
  refine CSpec.of_vc hΓ Tryz.func192 rfl 30 0 [.tmp 2, .tmp 3] Tryz.ntmps192 rfl (by rw [Tryz.results192]) rfl ?_
  conv => whnf
  repeat' ((first | refine Need.auto ?_ | refine Have.mk (fun _h => ?_)); conv => whnf)
  refine Lp.mk hΓ (ι := Nat) (fun k => [(9, .c (.int .i64 k)), (2, .c (.int .i64 (cntOpen (d.zones.take k)))), (3, .c (.int .i64 (cntActive (d.zones.take k)))), (7, .c (zonesC d.zones)), (8, .c (.int .i64 d.zones.length))])
    (fun _ => []) (fun k => k ≤ d.zones.length) (fun k => d.zones.length - k) 0 (Nat.zero_le _) ?_ ?_
  · refine Mv.mk' 0 rfl trivial ?_ (Nat.le_refl _)
    exact ⟨wkS.imm rfl, wkS.imm rfl, wkS.imm rfl, wkS.imm rfl, wkS.imm rfl, trivial⟩
  · intro k hk
    conv => whnf
    repeat' ((first | refine Need.auto ?_ | refine Have.mk (fun _h => ?_)); conv => whnf)
    (first | refine Br.lt (fun h => ?_) (fun h => ?_) | refine Br.le (fun h => ?_) (fun h => ?_) | refine Br.gt (fun h => ?_) (fun h => ?_) | refine Br.ge (fun h => ?_) (fun h => ?_) | refine Br.eq (fun h => ?_) (fun h => ?_) | refine Br.ne (fun h => ?_) (fun h => ?_) | refine Br.not (fun h => ?_) (fun h => ?_) | refine Br.mk (fun h => ?_) (fun h => ?_)) <;> (try simp only [Int.toNat_natCast] at h) <;> (conv => whnf)
    · repeat' ((first | refine Need.auto ?_ | refine Have.mk (fun _h => ?_)); conv => whnf)
      refine CallN.pure opened_body (opened_spec _ ) (leA.refl rfl) rfl ?_
      conv => whnf
      repeat' ((first | refine Need.auto ?_ | refine Have.mk (fun _h => ?_)); conv => whnf)
      have hlt : k < d.zones.length := by omega
      have e1 := cntOpen_snoc d.zones k hlt
      have e2 := cntActive_snoc d.zones k hlt
      have l1 := cntOpen_le (d.zones.take (k + 1))
      have l2 := cntActive_le (d.zones.take (k + 1))
      have l3 : (d.zones.take (k + 1)).length ≤ d.zones.length := by simp; omega
      have w0 := wrap_id (↑k + 1) (by omega) (by omega)
      (first | refine Br.lt (fun ho => ?_) (fun ho => ?_) | refine Br.le (fun ho => ?_) (fun ho => ?_) | refine Br.gt (fun ho => ?_) (fun ho => ?_) | refine Br.ge (fun ho => ?_) (fun ho => ?_) | refine Br.eq (fun ho => ?_) (fun ho => ?_) | refine Br.ne (fun ho => ?_) (fun ho => ?_) | refine Br.not (fun ho => ?_) (fun ho => ?_) | refine Br.mk (fun ho => ?_) (fun ho => ?_)) <;> (try simp only [Int.toNat_natCast] at ho) <;> (conv => whnf)
      · repeat' ((first | refine Need.auto ?_ | refine Have.mk (fun _h => ?_)); conv => whnf)
        have ha : isActive (d.zones.getD k default).state = true := by
          try simp only [Int.toNat_natCast] at ho
          simp only [isOpen, isActive, decide_eq_true_eq] at ho ⊢; omega
        try simp only [Int.toNat_natCast] at ho
        rw [ho] at e1
        rw [ha] at e2
        have w1 := wrap_id (↑(cntOpen (d.zones.take k)) + 1) (by omega) (by simp at e1; omega)
        have w2 := wrap_id (↑(cntActive (d.zones.take k)) + 1) (by omega) (by simp at e2; omega)
        refine ⟨k + 1, by omega, by omega, Mv.mk' 0 rfl trivial ⟨wkS.c (wkC.int (by rw [w0]; rfl)), wkS.c (wkC.int (by rw [w1, e1]; rfl)), wkS.c (wkC.int (by rw [w2, e2]; rfl)), wkS.imm rfl, wkS.imm rfl, trivial⟩ (Nat.le_refl _)⟩
      · repeat' ((first | refine Need.auto ?_ | refine Have.mk (fun _h => ?_)); conv => whnf)
        try simp only [Int.toNat_natCast] at ho
        rw [ho] at e1
        (first | refine Br.lt (fun hc => ?_) (fun hc => ?_) | refine Br.le (fun hc => ?_) (fun hc => ?_) | refine Br.gt (fun hc => ?_) (fun hc => ?_) | refine Br.ge (fun hc => ?_) (fun hc => ?_) | refine Br.eq (fun hc => ?_) (fun hc => ?_) | refine Br.ne (fun hc => ?_) (fun hc => ?_) | refine Br.not (fun hc => ?_) (fun hc => ?_) | refine Br.mk (fun hc => ?_) (fun hc => ?_)) <;> (try simp only [Int.toNat_natCast] at hc) <;> (conv => whnf)
        · repeat' ((first | refine Need.auto ?_ | refine Have.mk (fun _h => ?_)); conv => whnf)
          try simp only [Int.toNat_natCast] at hc
          have ha : isActive (d.zones.getD k default).state = true := by simp only [isActive, decide_eq_true_eq]; omega
          rw [ha] at e2
          have w2 := wrap_id (↑(cntActive (d.zones.take k)) + 1) (by omega) (by simp at e2; omega)
          refine ⟨k + 1, by omega, by omega, Mv.mk' 0 rfl trivial ⟨wkS.c (wkC.int (by rw [w0]; rfl)), wkS.c (wkC.int (by rw [e1]; rfl)), wkS.c (wkC.int (by rw [w2, e2]; rfl)), wkS.imm rfl, wkS.imm rfl, trivial⟩ (Nat.le_refl _)⟩
        · repeat' ((first | refine Need.auto ?_ | refine Have.mk (fun _h => ?_)); conv => whnf)
          try simp only [Int.toNat_natCast] at hc
          have ha : isActive (d.zones.getD k default).state = false := by
            simp only [isOpen, decide_eq_false_iff_not] at ho
            simp only [isActive, decide_eq_false_iff_not]; omega
          rw [ha] at e2
          refine ⟨k + 1, by omega, by omega, Mv.mk' 0 rfl trivial ⟨wkS.c (wkC.int (by rw [w0]; rfl)), wkS.c (wkC.int (by rw [e1]; rfl)), wkS.c (wkC.int (by rw [e2]; rfl)), wkS.imm rfl, wkS.imm rfl, trivial⟩ (Nat.le_refl _)⟩
    · repeat' ((first | refine Need.auto ?_ | refine Have.mk (fun _h => ?_)); conv => whnf)
      have : k = d.zones.length := by omega
      subst this
      simp
theorem counts_body : HasBody Tryz.prog 192 := ⟨⟨Tryz.f192, Tryz.func192, rfl, by kernel_rfl⟩⟩
theorem right_spec (z : Zone) (size : Int) (hs : 3 ≤ size) : PSpec Tryz.prog 191 [z.s, .c (.int .i64 size)] (.c (.bool (right z size))) := by
  have F : ∀ (b : Bool), right z size = b → (S.c (C.bool b) = S.c (.bool (right z size))) := fun b h => by rw [h]
  refine CSpec.of_vc hΓ Tryz.func191 rfl 78 0 [.tmp 4] Tryz.ntmps191 rfl (by rw [Tryz.results191]) rfl ?_
  conv => whnf
  repeat' ((first | refine Need.auto ?_ | refine Have.mk (fun _h => ?_)); conv => whnf)
  (first | refine Br.lt (fun h1 => ?_) (fun h1 => ?_) | refine Br.le (fun h1 => ?_) (fun h1 => ?_) | refine Br.gt (fun h1 => ?_) (fun h1 => ?_) | refine Br.ge (fun h1 => ?_) (fun h1 => ?_) | refine Br.eq (fun h1 => ?_) (fun h1 => ?_) | refine Br.ne (fun h1 => ?_) (fun h1 => ?_) | refine Br.not (fun h1 => ?_) (fun h1 => ?_) | (refine Br.mk (fun h1 => ?_) (fun h1 => ?_) <;> simp [-List.length_eq_zero_iff, -List.getD_eq_getElem?_getD] at h1)) <;> (try simp only [Int.toNat_natCast] at h1) <;> (conv => whnf)
  · conv => whnf
    repeat' ((first | refine Need.auto ?_ | refine Have.mk (fun _h => ?_)); conv => whnf)
    refine F _ ?_
    simp only [right, Bool.and_eq_false_iff, decide_eq_false_iff_not]; left; omega
  · repeat' ((first | refine Need.auto ?_ | refine Have.mk (fun _h => ?_)); conv => whnf)
    (first | refine Br.lt (fun h2 => ?_) (fun h2 => ?_) | refine Br.le (fun h2 => ?_) (fun h2 => ?_) | refine Br.gt (fun h2 => ?_) (fun h2 => ?_) | refine Br.ge (fun h2 => ?_) (fun h2 => ?_) | refine Br.eq (fun h2 => ?_) (fun h2 => ?_) | refine Br.ne (fun h2 => ?_) (fun h2 => ?_) | refine Br.not (fun h2 => ?_) (fun h2 => ?_) | (refine Br.mk (fun h2 => ?_) (fun h2 => ?_) <;> simp [-List.length_eq_zero_iff, -List.getD_eq_getElem?_getD] at h2)) <;> (try simp only [Int.toNat_natCast] at h2) <;> (conv => whnf)
    · repeat' ((first | refine Need.auto ?_ | refine Have.mk (fun _h => ?_)); conv => whnf)
      refine F _ ?_
      simp only [right, Bool.and_eq_false_iff, decide_eq_false_iff_not]; left; omega
    · repeat' ((first | refine Need.auto ?_ | refine Have.mk (fun _h => ?_)); conv => whnf)
      (first | refine Br.lt (fun h3 => ?_) (fun h3 => ?_) | refine Br.le (fun h3 => ?_) (fun h3 => ?_) | refine Br.gt (fun h3 => ?_) (fun h3 => ?_) | refine Br.ge (fun h3 => ?_) (fun h3 => ?_) | refine Br.eq (fun h3 => ?_) (fun h3 => ?_) | refine Br.ne (fun h3 => ?_) (fun h3 => ?_) | refine Br.not (fun h3 => ?_) (fun h3 => ?_) | (refine Br.mk (fun h3 => ?_) (fun h3 => ?_) <;> simp [-List.length_eq_zero_iff, -List.getD_eq_getElem?_getD] at h3)) <;> (try simp only [Int.toNat_natCast] at h3) <;> (conv => whnf)
      · repeat' ((first | refine Need.auto ?_ | refine Have.mk (fun _h => ?_)); conv => whnf)
        refine F _ ?_
        simp only [right, Bool.and_eq_false_iff, decide_eq_false_iff_not]; left; omega
      · repeat' ((first | refine Need.auto ?_ | refine Have.mk (fun _h => ?_)); conv => whnf)
        (first | refine Br.lt (fun h4 => ?_) (fun h4 => ?_) | refine Br.le (fun h4 => ?_) (fun h4 => ?_) | refine Br.gt (fun h4 => ?_) (fun h4 => ?_) | refine Br.ge (fun h4 => ?_) (fun h4 => ?_) | refine Br.eq (fun h4 => ?_) (fun h4 => ?_) | refine Br.ne (fun h4 => ?_) (fun h4 => ?_) | refine Br.not (fun h4 => ?_) (fun h4 => ?_) | (refine Br.mk (fun h4 => ?_) (fun h4 => ?_) <;> simp [-List.length_eq_zero_iff, -List.getD_eq_getElem?_getD] at h4)) <;> (try simp only [Int.toNat_natCast] at h4) <;> (conv => whnf)
        · repeat' ((first | refine Need.auto ?_ | refine Have.mk (fun _h => ?_)); conv => whnf)
          refine F _ ?_
          simp only [right, Bool.and_eq_false_iff, decide_eq_false_iff_not]; left; omega
        · repeat' ((first | refine Need.auto ?_ | refine Have.mk (fun _h => ?_)); conv => whnf)
          (first | refine Br.lt (fun h5 => ?_) (fun h5 => ?_) | refine Br.le (fun h5 => ?_) (fun h5 => ?_) | refine Br.gt (fun h5 => ?_) (fun h5 => ?_) | refine Br.ge (fun h5 => ?_) (fun h5 => ?_) | refine Br.eq (fun h5 => ?_) (fun h5 => ?_) | refine Br.ne (fun h5 => ?_) (fun h5 => ?_) | refine Br.not (fun h5 => ?_) (fun h5 => ?_) | (refine Br.mk (fun h5 => ?_) (fun h5 => ?_) <;> simp [-List.length_eq_zero_iff, -List.getD_eq_getElem?_getD] at h5)) <;> (try simp only [Int.toNat_natCast] at h5) <;> (conv => whnf)
          · repeat' ((first | refine Need.auto ?_ | refine Have.mk (fun _h => ?_)); conv => whnf)
            refine F _ ?_
            simp only [right, Bool.and_eq_false_iff, decide_eq_false_iff_not]; left; omega
          · repeat' ((first | refine Need.auto ?_ | refine Have.mk (fun _h => ?_)); conv => whnf)
            have hP : right z size = secsOk z.sectors := by
              have : decide (0 ≤ z.state ∧ z.state ≤ 5 ∧ (z.sectors.length : Int) ≤ size ∧ 0 ≤ z.durable ∧ z.durable ≤ z.sectors.length ∧ (z.state = 0 ∨ z.state = 5 → z.sectors.length = 0) ∧ (z.state = 4 → z.durable = z.sectors.length) ∧
    (z.state ≠ 0 → z.state ≠ 4 → z.state ≠ 5 → (z.sectors.length : Int) < size)) = true := by
                simp only [decide_eq_true_eq]; omega
              simp only [right, this, Bool.true_and]
            refine Lp.mk hΓ (ι := Nat) (fun k => [(70, .c (.int .i64 k)), (69, .c (.int .i64 z.sectors.length)), (68, .c (strsC z.sectors))]) (fun _ => []) (fun k => k ≤ z.sectors.length ∧ secsOk (z.sectors.take k) = true) (fun k => z.sectors.length - k) 0 ⟨Nat.zero_le _, rfl⟩ ?_ ?_
            · exact Mv.mk' 0 rfl trivial ⟨wkS.imm rfl, wkS.imm rfl, wkS.imm rfl, trivial⟩ (Nat.le_refl _)
            · rintro k ⟨hk, hk2⟩
              conv => whnf
              repeat' ((first | refine Need.auto ?_ | refine Have.mk (fun _h => ?_)); conv => whnf)
              (first | refine Br.lt (fun h => ?_) (fun h => ?_) | refine Br.le (fun h => ?_) (fun h => ?_) | refine Br.gt (fun h => ?_) (fun h => ?_) | refine Br.ge (fun h => ?_) (fun h => ?_) | refine Br.eq (fun h => ?_) (fun h => ?_) | refine Br.ne (fun h => ?_) (fun h => ?_) | refine Br.not (fun h => ?_) (fun h => ?_) | refine Br.mk (fun h => ?_) (fun h => ?_)) <;> (try simp only [Int.toNat_natCast] at h) <;> (conv => whnf)
              · repeat' ((first | refine Need.auto ?_ | refine Have.mk (fun _h => ?_)); conv => whnf)
                have hlt : k < z.sectors.length := by omega
                (first | refine Br.lt (fun h6 => ?_) (fun h6 => ?_) | refine Br.le (fun h6 => ?_) (fun h6 => ?_) | refine Br.gt (fun h6 => ?_) (fun h6 => ?_) | refine Br.ge (fun h6 => ?_) (fun h6 => ?_) | refine Br.eq (fun h6 => ?_) (fun h6 => ?_) | refine Br.ne (fun h6 => ?_) (fun h6 => ?_) | refine Br.not (fun h6 => ?_) (fun h6 => ?_) | (refine Br.mk (fun h6 => ?_) (fun h6 => ?_) <;> simp [-List.length_eq_zero_iff, -List.getD_eq_getElem?_getD] at h6)) <;> (try simp only [Int.toNat_natCast] at h6) <;> (conv => whnf)
                · repeat' ((first | refine Need.auto ?_ | refine Have.mk (fun _h => ?_)); conv => whnf)
                  refine F _ ?_
                  rw [hP]
                  exact secsOk_get _ k hlt (by simp at h6 ⊢; omega)
                · repeat' ((first | refine Need.auto ?_ | refine Have.mk (fun _h => ?_)); conv => whnf)
                  have w0 := wrap_id (↑k + 1) (by omega) (by omega)
                  refine ⟨k + 1, ⟨by omega, ?_⟩, by omega, Mv.mk' 0 rfl trivial ⟨wkS.c (wkC.int (by rw [w0]; rfl)), wkS.imm rfl, wkS.imm rfl, trivial⟩ (Nat.le_refl _)⟩
                  rw [secsOk_snoc _ _ hlt, hk2]
                  simp at h6 ⊢; omega
              · repeat' ((first | refine Need.auto ?_ | refine Have.mk (fun _h => ?_)); conv => whnf)
                have : k = z.sectors.length := by omega
                subst this
                refine F _ ?_
                rw [hP]
                simpa using hk2
theorem right_body : HasBody Tryz.prog 191 := ⟨⟨Tryz.f191, Tryz.func191, rfl, by kernel_rfl⟩⟩
theorem check_spec (d : Dev) : PSpec Tryz.prog 136 [d.s] (.c (.int .i64 (check d))) := by
  refine CSpec.of_vc hΓ Tryz.func136 rfl 75 0 [.tmp 2] Tryz.ntmps136 rfl (by rw [Tryz.results136]) rfl ?_
  conv => whnf
  repeat' ((first | refine Need.auto ?_ | refine Have.mk (fun _h => ?_)); conv => whnf)
  (first | refine Br.lt (fun h1 => ?_) (fun h1 => ?_) | refine Br.le (fun h1 => ?_) (fun h1 => ?_) | refine Br.gt (fun h1 => ?_) (fun h1 => ?_) | refine Br.ge (fun h1 => ?_) (fun h1 => ?_) | refine Br.eq (fun h1 => ?_) (fun h1 => ?_) | refine Br.ne (fun h1 => ?_) (fun h1 => ?_) | refine Br.not (fun h1 => ?_) (fun h1 => ?_) | (refine Br.mk (fun h1 => ?_) (fun h1 => ?_) <;> simp [-List.length_eq_zero_iff, -List.getD_eq_getElem?_getD] at h1)) <;> (try simp only [Int.toNat_natCast] at h1) <;> (conv => whnf)
  · repeat' ((first | refine Need.auto ?_ | refine Have.mk (fun _h => ?_)); conv => whnf)
    have : confOk d = false := by simp only [confOk, decide_eq_false_iff_not]; omega
    simp only [check, this]; rfl
  · repeat' ((first | refine Need.auto ?_ | refine Have.mk (fun _h => ?_)); conv => whnf)
    have hc : confOk d = true := by simp only [confOk, decide_eq_true_eq]; omega
    refine Lp.mk hΓ (ι := Nat) (fun k => [(50, .c (.int .i64 k)), (49, .c (.int .i64 d.zones.length)), (48, .c (zonesC d.zones)), (1, .c (.ptr 0 0))])
      (fun _ => [.vr [.int .i64 d.size, .int .i64 d.maxOpen, .int .i64 d.maxActive, zonesC d.zones]]) (fun k => k ≤ d.zones.length ∧ (d.zones.take k).all (fun z => Am.right z d.size) = true) (fun k => d.zones.length - k) 0 ⟨Nat.zero_le _, rfl⟩ ?_ ?_
    · exact Mv.mk' 1 rfl ⟨O.wk.vr (immL_wk rfl), trivial⟩ ⟨wkS.imm rfl, wkS.imm rfl, wkS.imm rfl, wkS.c (wkC.ptr (by decide)), trivial⟩ (Nat.zero_le _)
    · rintro k ⟨hk, hk2⟩
      conv => whnf
      repeat' ((first | refine Need.auto ?_ | refine Have.mk (fun _h => ?_)); conv => whnf)
      (first | refine Br.lt (fun h => ?_) (fun h => ?_) | refine Br.le (fun h => ?_) (fun h => ?_) | refine Br.gt (fun h => ?_) (fun h => ?_) | refine Br.ge (fun h => ?_) (fun h => ?_) | refine Br.eq (fun h => ?_) (fun h => ?_) | refine Br.ne (fun h => ?_) (fun h => ?_) | refine Br.not (fun h => ?_) (fun h => ?_) | refine Br.mk (fun h => ?_) (fun h => ?_)) <;> (try simp only [Int.toNat_natCast] at h) <;> (conv => whnf)
      · repeat' ((first | refine Need.auto ?_ | refine Have.mk (fun _h => ?_)); conv => whnf)
        have hlt : k < d.zones.length := by omega
        refine CallN.pure right_body (right_spec (d.zones.getD k default) d.size (by omega) ) (leA.refl rfl) rfl ?_
        conv => whnf
        repeat' ((first | refine Need.auto ?_ | refine Have.mk (fun _h => ?_)); conv => whnf)
        (first | refine Br.lt (fun h2 => ?_) (fun h2 => ?_) | refine Br.le (fun h2 => ?_) (fun h2 => ?_) | refine Br.gt (fun h2 => ?_) (fun h2 => ?_) | refine Br.ge (fun h2 => ?_) (fun h2 => ?_) | refine Br.eq (fun h2 => ?_) (fun h2 => ?_) | refine Br.ne (fun h2 => ?_) (fun h2 => ?_) | refine Br.not (fun h2 => ?_) (fun h2 => ?_) | refine Br.mk (fun h2 => ?_) (fun h2 => ?_)) <;> (try simp only [Int.toNat_natCast] at h2) <;> (conv => whnf)
        · repeat' ((first | refine Need.auto ?_ | refine Have.mk (fun _h => ?_)); conv => whnf)
          have : d.zones.all (fun z => Am.right z d.size) = false := all_get_false _ _ k hlt h2
          simp only [check, hc, this]; rfl
        · repeat' ((first | refine Need.auto ?_ | refine Have.mk (fun _h => ?_)); conv => whnf)
          have w0 := wrap_id (↑k + 1) (by omega) (by omega)
          refine ⟨k + 1, ⟨by omega, ?_⟩, by omega, Mv.mk' 1 rfl ⟨O.wk.vr (immL_wk rfl), trivial⟩ ⟨wkS.c (wkC.int (by rw [w0]; rfl)), wkS.imm rfl, wkS.imm rfl, wkS.c (wkC.ptr (by decide)), trivial⟩ (Nat.zero_le _)⟩
          rw [all_snoc _ _ k hlt, hk2, h2]; rfl
      · repeat' ((first | refine Need.auto ?_ | refine Have.mk (fun _h => ?_)); conv => whnf)
        have : k = d.zones.length := by omega
        subst this
        have hall : d.zones.all (fun z => Am.right z d.size) = true := by simpa using hk2
        refine CallN.pure counts_body (counts_spec d ) (leA.refl rfl) rfl ?_
        conv => whnf
        repeat' ((first | refine Need.auto ?_ | refine Have.mk (fun _h => ?_)); conv => whnf)
        (first | refine Br.lt (fun h3 => ?_) (fun h3 => ?_) | refine Br.le (fun h3 => ?_) (fun h3 => ?_) | refine Br.gt (fun h3 => ?_) (fun h3 => ?_) | refine Br.ge (fun h3 => ?_) (fun h3 => ?_) | refine Br.eq (fun h3 => ?_) (fun h3 => ?_) | refine Br.ne (fun h3 => ?_) (fun h3 => ?_) | refine Br.not (fun h3 => ?_) (fun h3 => ?_) | (refine Br.mk (fun h3 => ?_) (fun h3 => ?_) <;> simp [-List.length_eq_zero_iff, -List.getD_eq_getElem?_getD] at h3)) <;> (try simp only [Int.toNat_natCast] at h3) <;> (conv => whnf)
        · repeat' ((first | refine Need.auto ?_ | refine Have.mk (fun _h => ?_)); conv => whnf)
          have : decide ((cntOpen d.zones : Int) ≤ d.maxOpen ∧ (cntActive d.zones : Int) ≤ d.maxActive) = false := by simp only [decide_eq_false_iff_not]; omega
          simp only [check, hc, hall, this]; rfl
        · repeat' ((first | refine Need.auto ?_ | refine Have.mk (fun _h => ?_)); conv => whnf)
          have : decide ((cntOpen d.zones : Int) ≤ d.maxOpen ∧ (cntActive d.zones : Int) ≤ d.maxActive) = true := by simp only [decide_eq_true_eq]; omega
          simp only [check, hc, hall, this]; rfl
theorem check_body : HasBody Tryz.prog 136 := ⟨⟨Tryz.f136, Tryz.func136, rfl, by kernel_rfl⟩⟩
theorem new_spec (zones size open_ act : Int) (hz : -9223372036854775808 ≤ zones ∧ zones ≤ 9223372036854775807) : PSpec Tryz.prog 53 [.c (.int .i64 zones), .c (.int .i64 size), .c (.int .i64 open_), .c (.int .i64 act)] (.t [.inr (newD zones size open_ act).cells, .inl (.int .i64 (newE zones size open_ act))]) := by
  refine PSpec.rm ?_
  refine CSpec.of_vc hΓ Tryz.func53 rfl 32 0 [.cell 8 29, .tmp 9] Tryz.ntmps53 rfl (by rw [Tryz.results53]) rfl ?_
  conv => whnf
  repeat' ((first | refine Need.auto ?_ | refine Have.mk (fun _h => ?_)); conv => whnf)
  (first | refine Br.lt (fun h1 => ?_) (fun h1 => ?_) | refine Br.le (fun h1 => ?_) (fun h1 => ?_) | refine Br.gt (fun h1 => ?_) (fun h1 => ?_) | refine Br.ge (fun h1 => ?_) (fun h1 => ?_) | refine Br.eq (fun h1 => ?_) (fun h1 => ?_) | refine Br.ne (fun h1 => ?_) (fun h1 => ?_) | refine Br.not (fun h1 => ?_) (fun h1 => ?_) | (refine Br.mk (fun h1 => ?_) (fun h1 => ?_) <;> simp [-List.length_eq_zero_iff, -List.getD_eq_getElem?_getD] at h1)) <;> (try simp only [Int.toNat_natCast] at h1) <;> (conv => whnf)
  · repeat' ((first | refine Need.auto ?_ | refine Have.mk (fun _h => ?_)); conv => whnf)
    have he : newE zones size open_ act = 11 := by
      have : decide (1 ≤ zones ∧ zones ≤ 32) = false := by simp only [decide_eq_false_iff_not]; omega
      simp only [newE, this]; rfl
    have hd : newD zones size open_ act = dev0 := by simp only [newD, he]; rfl
    rw [he, hd]
    exact RM.imm rfl (wkS.t ⟨⟨wkC.imm rfl, wkC.imm rfl, wkC.imm rfl, wkC.nil rfl, trivial⟩, wkC.imm rfl, trivial⟩)
  · repeat' ((first | refine Need.auto ?_ | refine Have.mk (fun _h => ?_)); conv => whnf)
    have hh : decide (1 ≤ zones ∧ zones ≤ 32) = true := by simp only [decide_eq_true_eq]; omega
    have hlen : zones.toNat = (List.replicate zones.toNat zone0).length := by simp
    have hfz : ∀ (x : Bool), leF (.isl 3 zones.toNat (zeroG [.int .i64 0, .int .i64 0, .nils]) x) (zonesC (List.replicate zones.toNat zone0)) := fun x => leF.isl hlen (fun i hi j hj => zone0_cells _ rfl _ i j hi hj) (fun e => by cases e)
    have hcells := fun i hi j hj => zone0_cells _ rfl zones.toNat i j hi hj
    refine CallN.fzTo 1 rfl (Nat.zero_le _) (zone0_imm _ rfl _) (ts' := [(8, .c (.ptr 0 0)), (10, .c (.ptr 2 0))]) (args' := [(newX zones size open_ act).s]) (H' := [.vr [.int .i64 0, .int .i64 0, .int .i64 0, .nils], .dead, .vr (newX zones size open_ act).cells]) 3 rfl
      ⟨O.wk.vr (immL_wk rfl), trivial, O.wk.vr ⟨wkC.imm rfl, wkC.imm rfl, wkC.imm rfl, wkC.fz rfl hlen hcells (fun e => by cases e), trivial⟩, trivial⟩
      ⟨wkS.c (wkC.ptr (by decide)), wkS.c (wkC.ptr (by decide)), trivial⟩
      ⟨wkS.a ⟨wkC.imm rfl, wkC.imm rfl, wkC.imm rfl, wkC.fz rfl hlen hcells (fun e => by cases e), trivial⟩, trivial⟩ (Nat.zero_le _) ?_
    refine CallN.pure check_body (check_spec (newX zones size open_ act) ) (leA.refl rfl) rfl ?_
    conv => whnf
    repeat' ((first | refine Need.auto ?_ | refine Have.mk (fun _h => ?_)); conv => whnf)
    (first | refine Br.lt (fun h2 => ?_) (fun h2 => ?_) | refine Br.le (fun h2 => ?_) (fun h2 => ?_) | refine Br.gt (fun h2 => ?_) (fun h2 => ?_) | refine Br.ge (fun h2 => ?_) (fun h2 => ?_) | refine Br.eq (fun h2 => ?_) (fun h2 => ?_) | refine Br.ne (fun h2 => ?_) (fun h2 => ?_) | refine Br.not (fun h2 => ?_) (fun h2 => ?_) | refine Br.mk (fun h2 => ?_) (fun h2 => ?_)) <;> (try simp only [Int.toNat_natCast] at h2) <;> (conv => whnf)
    · repeat' ((first | refine Need.auto ?_ | refine Have.mk (fun _h => ?_)); conv => whnf)
      have he : newE zones size open_ act = check (newX zones size open_ act) := by simp only [newE, hh]; rfl
      have hd : newD zones size open_ act = dev0 := by simp only [newD, he]; rw [if_neg h2]
      rw [he, hd]
      exact RM.imm rfl (wkS.t ⟨⟨wkC.imm rfl, wkC.imm rfl, wkC.imm rfl, wkC.nil rfl, trivial⟩, wkC.imm rfl, trivial⟩)
    · repeat' ((first | refine Need.auto ?_ | refine Have.mk (fun _h => ?_)); conv => whnf)
      have he : newE zones size open_ act = 0 := by simp only [newE, hh]; exact h2
      have hd : newD zones size open_ act = newX zones size open_ act := by simp only [newD, he]; rfl
      rw [he, hd]
      exact RM.imm rfl (wkS.imm rfl)
theorem new_body : HasBody Tryz.prog 53 := ⟨⟨Tryz.f53, Tryz.func53, rfl, by kernel_rfl⟩⟩
end Go.Proofs
end

section
open Go Go.Am
namespace Go.Proofs
end Go.Proofs
end
