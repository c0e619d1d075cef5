/- Contracts, lemmas; no condition. -/
import Derived.Test.YtmollgldghpbkaaGreatEnvV
import Derived.Test.YtmollgldghpbkaaGreatModAV
set_option linter.all false
section
open Go Go.Am
namespace Go.Proofs
set_option maxRecDepth 20000
theorem Qo7 (n : Int) : PS 226 [.c (.int .i64 n)] (.c (.bool (QK n))) := by
  refine ov0 hΓ Tryz.func226 9 0 [.tmp 2] Tryz.ntmps226 Tryz.results226 ?_
  simp only [S.c.injEq, C.bool.injEq, QK]
  rw [Bool.eq_iff_iff]
  simp
theorem Qok : HB 226 := hB Tryz.func226
theorem Qpd (d : Dev) : PS 192 [d.s] (.t [.inl (.int .i64 (QP d.zones)), .inl (.int .i64 (Qt d.zones))]) := by
  refine ov hΓ Tryz.func192 30 0 [.tmp 2, .tmp 3] Tryz.ntmps192 Tryz.results192 ?_
  refine Go1 fun _h=>?_
  refine Lp.mk hΓ (ι := Nat) (fun k => [(9, .c (.int .i64 k)), (2, .c (.int .i64 (QP (d.zones.take k)))), (3, .c (.int .i64 (Qt (d.zones.take k)))), (7, .c (Qc2 d.zones)), (8, .c (.int .i64 d.zones.length))])
    (fun _ => []) (fun k => k ≤ d.zones.length) (fun k => d.zones.length - k) 0 (Nat.zero_le _) ?_ ?_
  · refine Mv.mk' 0 rfl trivial ?_ (Nat.le_refl _)
    exact ⟨wkS.imm rfl, wkS.imm rfl, wkS.imm rfl, wkS.imm rfl, wkS.imm rfl, trivial⟩
  · intro k hk
    refine Go0 ?_
    refine Br.of (fun h=>Go0 ?_) (fun h=>Go0 ?_)
    · refine CallN.pure Qok (Qo7 _ ) (leA.refl rfl) rfl (Go0 ?_)
      have hlt : k < d.zones.length := by omega
      have e1 := Qhx d.zones k hlt
      have e2 := Qf3 d.zones k hlt
      have l1 := Qjt (d.zones.take (k + 1))
      have l2 := Qhz (d.zones.take (k + 1))
      have l3 : (d.zones.take (k + 1)).length ≤ d.zones.length := by simp; omega
      have w0 := Qa (↑k + 1) om om
      refine Br.of (fun ho=>Go0 ?_) (fun ho=>Go0 ?_)
      · have ha : QR (d.zones.getD k default).state = true := by
          try simp only [Int.toNat_natCast] at ho
          simp only [QK, QR, decide_eq_true_eq] at ho ⊢; omega
        try simp only [Int.toNat_natCast] at ho
        rw [ho] at e1
        rw [ha] at e2
        have w1 := Qa (↑(QP (d.zones.take k)) + 1) om (by simp at e1; omega)
        have w2 := Qa (↑(Qt (d.zones.take k)) + 1) om (by simp at e2; omega)
        refine ⟨k + 1, om, om, Mv.mk' 0 rfl trivial ⟨wkS.c (wkC.int (by rw [w0]; rfl)), wkS.c (wkC.int (by rw [w1, e1]; rfl)), wkS.c (wkC.int (by rw [w2, e2]; rfl)), wkS.imm rfl, wkS.imm rfl, trivial⟩ (Nat.le_refl _)⟩
      · try simp only [Int.toNat_natCast] at ho
        rw [ho] at e1
        refine Br.of (fun hc=>Go0 ?_) (fun hc=>Go0 ?_)
        · try simp only [Int.toNat_natCast] at hc
          have ha : QR (d.zones.getD k default).state = true := by simp only [QR, decide_eq_true_eq]; omega
          rw [ha] at e2
          have w2 := Qa (↑(Qt (d.zones.take k)) + 1) om (by simp at e2; omega)
          refine ⟨k + 1, om, om, Mv.mk' 0 rfl trivial ⟨wkS.c (wkC.int (by rw [w0]; rfl)), wkS.c (wkC.int (by rw [e1]; rfl)), wkS.c (wkC.int (by rw [w2, e2]; rfl)), wkS.imm rfl, wkS.imm rfl, trivial⟩ (Nat.le_refl _)⟩
        · try simp only [Int.toNat_natCast] at hc
          have ha : QR (d.zones.getD k default).state = false := by
            simp only [QK, decide_eq_false_iff_not] at ho
            simp only [QR, decide_eq_false_iff_not]; omega
          rw [ha] at e2
          refine ⟨k + 1, om, om, Mv.mk' 0 rfl trivial ⟨wkS.c (wkC.int (by rw [w0]; rfl)), wkS.c (wkC.int (by rw [e1]; rfl)), wkS.c (wkC.int (by rw [e2]; rfl)), wkS.imm rfl, wkS.imm rfl, trivial⟩ (Nat.le_refl _)⟩
    · have : k = d.zones.length := by omega
      subst this
      simp
theorem Qou : HB 192 := hB Tryz.func192
theorem QrI (z : Zone) (size : Int) (hs : 3 ≤ size) : PS 191 [z.s, .c (.int .i64 size)] (.c (.bool (right z size))) := by
  have F : ∀ (b : Bool), right z size = b → (S.c (C.bool b) = S.c (.bool (right z size))) := fun b h => by rw [h]
  refine ov hΓ Tryz.func191 78 0 [.tmp 4] Tryz.ntmps191 Tryz.results191 ?_
  refine Go1 fun _h=>?_
  (first|refine Br.od (fun h1=>?_) (fun h1=>?_)|refine Br.mk (fun h1=>?_) (fun h1=>?_)<;>simp [-List.length_eq_zero_iff,-List.getD_eq_getElem?_getD] at h1)<;>(try simp only [Int.toNat_natCast] at h1)<;>(conv=>whnf)
  · refine Go0 ?_
    refine F _ ?_
    simp only [right, Bool.and_eq_false_iff, decide_eq_false_iff_not]; left; omega
  · refine Go0 ?_
    (first|refine Br.od (fun h2=>?_) (fun h2=>?_)|refine Br.mk (fun h2=>?_) (fun h2=>?_)<;>simp [-List.length_eq_zero_iff,-List.getD_eq_getElem?_getD] at h2)<;>(try simp only [Int.toNat_natCast] at h2)<;>(conv=>whnf)
    · refine Go0 ?_
      refine F _ ?_
      simp only [right, Bool.and_eq_false_iff, decide_eq_false_iff_not]; left; omega
    · refine Go0 ?_
      (first|refine Br.od (fun h3=>?_) (fun h3=>?_)|refine Br.mk (fun h3=>?_) (fun h3=>?_)<;>simp [-List.length_eq_zero_iff,-List.getD_eq_getElem?_getD] at h3)<;>(try simp only [Int.toNat_natCast] at h3)<;>(conv=>whnf)
      · refine Go0 ?_
        refine F _ ?_
        simp only [right, Bool.and_eq_false_iff, decide_eq_false_iff_not]; left; omega
      · refine Go0 ?_
        (first|refine Br.od (fun h4=>?_) (fun h4=>?_)|refine Br.mk (fun h4=>?_) (fun h4=>?_)<;>simp [-List.length_eq_zero_iff,-List.getD_eq_getElem?_getD] at h4)<;>(try simp only [Int.toNat_natCast] at h4)<;>(conv=>whnf)
        · refine Go0 ?_
          refine F _ ?_
          simp only [right, Bool.and_eq_false_iff, decide_eq_false_iff_not]; left; omega
        · refine Go0 ?_
          (first|refine Br.od (fun h5=>?_) (fun h5=>?_)|refine Br.mk (fun h5=>?_) (fun h5=>?_)<;>simp [-List.length_eq_zero_iff,-List.getD_eq_getElem?_getD] at h5)<;>(try simp only [Int.toNat_natCast] at h5)<;>(conv=>whnf)
          · refine Go0 ?_
            refine F _ ?_
            simp only [right, Bool.and_eq_false_iff, decide_eq_false_iff_not]; left; omega
          · refine Go1 fun _h=>?_
            have hP : right z size = Qco z.sectors := by
              have : decide (0 ≤ z.state ∧ z.state ≤ 5 ∧ (z.sectors.length : Int) ≤ size ∧ 0 ≤ z.durable ∧ z.durable ≤ z.sectors.length ∧ (z.state = 0 ∨ z.state = 5 → z.sectors.length = 0) ∧ (z.state = 4 → z.durable = z.sectors.length) ∧
    (z.state ≠ 0 → z.state ≠ 4 → z.state ≠ 5 → (z.sectors.length : Int) < size)) = true := by simp only [decide_eq_true_eq]; omega
              simp only [right, this, Bool.true_and]
            refine Lp.mk hΓ (ι := Nat) (fun k => [(70, .c (.int .i64 k)), (69, .c (.int .i64 z.sectors.length)), (68, .c (QbW z.sectors))]) (fun _ => []) (fun k => k ≤ z.sectors.length ∧ Qco (z.sectors.take k) = true) (fun k => z.sectors.length - k) 0 ⟨Nat.zero_le _, rfl⟩ ?_ ?_
            · exact Mv.mk' 0 rfl trivial ⟨wkS.imm rfl, wkS.imm rfl, wkS.imm rfl, trivial⟩ (Nat.le_refl _)
            · rintro k ⟨hk, hk2⟩
              refine Go0 ?_
              refine Br.of (fun h=>Go1 fun _h=>?_) (fun h=>Go0 ?_)
              · have hlt : k < z.sectors.length := by omega
                (first|refine Br.od (fun h6=>?_) (fun h6=>?_)|refine Br.mk (fun h6=>?_) (fun h6=>?_)<;>simp [-List.length_eq_zero_iff,-List.getD_eq_getElem?_getD] at h6)<;>(try simp only [Int.toNat_natCast] at h6)<;>(conv=>whnf)
                · refine Go0 ?_
                  refine F _ ?_
                  rw [hP]
                  exact Qjs _ k hlt (by simp at h6 ⊢; omega)
                · refine Go0 ?_
                  have w0 := Qa (↑k + 1) om om
                  refine ⟨k + 1, ⟨om, ?_⟩, om, Mv.mk' 0 rfl trivial ⟨wkS.c (wkC.int (by rw [w0]; rfl)), wkS.imm rfl, wkS.imm rfl, trivial⟩ (Nat.le_refl _)⟩
                  rw [Qil _ _ hlt, hk2]
                  simp at h6 ⊢; omega
              · have : k = z.sectors.length := by omega
                subst this
                refine F _ ?_
                rw [hP]
                simpa using hk2
theorem Qp8 : HB 191 := hB Tryz.func191
theorem Qjg (d : Dev) : PS 136 [d.s] (.c (.int .i64 (check d))) := by
  refine ov hΓ Tryz.func136 75 0 [.tmp 2] Tryz.ntmps136 Tryz.results136 ?_
  refine Go1 fun _h=>?_
  (first|refine Br.od (fun h1=>?_) (fun h1=>?_)|refine Br.mk (fun h1=>?_) (fun h1=>?_)<;>simp [-List.length_eq_zero_iff,-List.getD_eq_getElem?_getD] at h1)<;>(try simp only [Int.toNat_natCast] at h1)<;>(conv=>whnf)
  · refine Go0 ?_
    have : Qbu d = false := by simp only [Qbu, decide_eq_false_iff_not]; omega
    simp only [check, this]; rfl
  · refine Go1 fun _h=>?_
    have hc : Qbu d = true := by simp only [Qbu, decide_eq_true_eq]; omega
    refine Lp.mk hΓ (ι := Nat) (fun k => [(50, .c (.int .i64 k)), (49, .c (.int .i64 d.zones.length)), (48, .c (Qc2 d.zones)), (1, .c (.ptr 0 0))])
      (fun _ => [.vr [.int .i64 d.size, .int .i64 d.maxOpen, .int .i64 d.maxActive, Qc2 d.zones]]) (fun k => k ≤ d.zones.length ∧ (d.zones.take k).all (fun z => Am.right z d.size) = true) (fun k => d.zones.length - k) 0 ⟨Nat.zero_le _, rfl⟩ ?_ ?_
    · exact Mv.mk' 1 rfl ⟨O.wk.vr (Qx rfl), trivial⟩ ⟨wkS.imm rfl, wkS.imm rfl, wkS.imm rfl, wkS.c (wkC.ptr (by decide)), trivial⟩ (Nat.zero_le _)
    · rintro k ⟨hk, hk2⟩
      refine Go0 ?_
      refine Br.of (fun h=>Go0 ?_) (fun h=>Go0 ?_)
      · have hlt : k < d.zones.length := by omega
        refine CallN.pure Qp8 (QrI (d.zones.getD k default) d.size om ) (leA.refl rfl) rfl (Go0 ?_)
        refine Br.of (fun h2=>Go0 ?_) (fun h2=>Go0 ?_)
        · have : d.zones.all (fun z => Am.right z d.size) = false := QgW _ _ k hlt h2
          simp only [check, hc, this]; rfl
        · have w0 := Qa (↑k + 1) om om
          refine ⟨k + 1, ⟨om, ?_⟩, om, Mv.mk' 1 rfl ⟨O.wk.vr (Qx rfl), trivial⟩ ⟨wkS.c (wkC.int (by rw [w0]; rfl)), wkS.imm rfl, wkS.imm rfl, wkS.c (wkC.ptr (by decide)), trivial⟩ (Nat.zero_le _)⟩
          rw [Qmz _ _ k hlt, hk2, h2]; rfl
      · have : k = d.zones.length := by omega
        subst this
        have hall : d.zones.all (fun z => Am.right z d.size) = true := by simpa using hk2
        refine CallN.pure Qou (Qpd d ) (leA.refl rfl) rfl (Go0 ?_)
        (first|refine Br.od (fun h3=>?_) (fun h3=>?_)|refine Br.mk (fun h3=>?_) (fun h3=>?_)<;>simp [-List.length_eq_zero_iff,-List.getD_eq_getElem?_getD] at h3)<;>(try simp only [Int.toNat_natCast] at h3)<;>(conv=>whnf)
        · refine Go0 ?_
          have : decide ((QP d.zones : Int) ≤ d.maxOpen ∧ (Qt d.zones : Int) ≤ d.maxActive) = false := by simp only [decide_eq_false_iff_not]; omega
          simp only [check, hc, hall, this]; rfl
        · refine Go0 ?_
          have : decide ((QP d.zones : Int) ≤ d.maxOpen ∧ (Qt d.zones : Int) ≤ d.maxActive) = true := by simp only [decide_eq_true_eq]; omega
          simp only [check, hc, hall, this]; rfl
theorem Qj1 : HB 136 := hB Tryz.func136
theorem QbF (n : Int) : PS 209 [.c (.int .i64 n)] (.c (.bool (QK n))) := by
 refine ov0 hΓ Tryz.func209 9 0 [.tmp 2] Tryz.ntmps209 Tryz.results209 ?_
 simp only [S.c.injEq, C.bool.injEq, QK]
 rw [Bool.eq_iff_iff]
 simp
theorem QbR : HB 209 := hB Tryz.func209
theorem Qcw (n : Int) : PS 223 [.c (.int .i64 n)] (.c (.bool (QR n))) := by
 refine ov hΓ Tryz.func223 9 0 [.tmp 2] Tryz.ntmps223 Tryz.results223 ?_
 conv=>whnf
 refine CallN.pure QbR (QbF _ ) (leA.refl rfl) rfl (Go0 ?_)
 simp only [S.c.injEq, C.bool.injEq, QK, QR]
 rw [Bool.eq_iff_iff]
 simp [or_assoc]
theorem Qcz : HB 223 := hB Tryz.func223
theorem Qcv (d : Dev) : PS 183 [d.s] (.t [.inl (.int .i64 (QP d.zones)), .inl (.int .i64 (Qt d.zones))]) := by
 refine ov0 hΓ Tryz.func183 34 0 [.tmp 2, .tmp 3] Tryz.ntmps183 Tryz.results183 ?_
 refine Lp.mk hΓ (ι := Nat) (fun k => [(6, .c (.int .i64 k)), (4, .c (.int .i64 (QP (d.zones.take k)))), (5, .c (.int .i64 (Qt (d.zones.take k)))), (1, .c (.ptr 0 0))])
  (fun _ => [.vr [.int .i64 d.size, .int .i64 d.maxOpen, .int .i64 d.maxActive, Qc2 d.zones]]) (fun k => k ≤ d.zones.length) (fun k => d.zones.length - k) 0 (Nat.zero_le _) ?_ ?_
 ·exact Mv.mk' 1 rfl ⟨O.wk.vr (Qx rfl), trivial⟩ ⟨wkS.imm rfl, wkS.imm rfl, wkS.imm rfl, wkS.c (wkC.ptr (by decide)), trivial⟩ (Nat.zero_le _)
 ·intro k hk
  refine Go1 fun _h=>?_
  refine Br.of (fun h=>Go0 ?_) (fun h=>Go0 ?_)
  ·refine CallN.pure QbR (QbF _ ) (leA.refl rfl) rfl (Go0 ?_)
   have hlt : k < d.zones.length := by omega
   have e1 := Qhx d.zones k hlt
   have e2 := Qf3 d.zones k hlt
   have l1 := Qjt (d.zones.take (k + 1))
   have l2 := Qhz (d.zones.take (k + 1))
   have l3 : (d.zones.take (k + 1)).length ≤ d.zones.length := by simp; omega
   have w0 := Qa (↑k + 1) om om
   refine Br.of (fun ho=>Go0 ?_) (fun ho=>Go0 ?_)
   ·refine CallN.pure Qcz (Qcw _ ) (leA.refl rfl) rfl (Go0 ?_)
    try simp only [Int.toNat_natCast] at ho
    rw [ho] at e1
    have w1 := Qa (↑(QP (d.zones.take k)) + 1) om (by simp at e1; omega)
    refine Br.of (fun ha=>Go0 ?_) (fun ha=>Go0 ?_)
    ·try simp only [Int.toNat_natCast] at ha
     rw [ha] at e2
     have w2 := Qa (↑(Qt (d.zones.take k)) + 1) om (by simp at e2; omega)
     refine ⟨k + 1, om, om, Mv.mk' 1 rfl ⟨O.wk.vr (Qx rfl), trivial⟩ ⟨wkS.c (wkC.int (by rw [w0]; rfl)), wkS.c (wkC.int (by rw [w1, e1]; rfl)), wkS.c (wkC.int (by rw [w2, e2]; rfl)), wkS.c (wkC.ptr (by decide)), trivial⟩ (Nat.zero_le _)⟩
    ·try simp only [Int.toNat_natCast] at ha
     rw [ha] at e2
     refine ⟨k + 1, om, om, Mv.mk' 1 rfl ⟨O.wk.vr (Qx rfl), trivial⟩ ⟨wkS.c (wkC.int (by rw [w0]; rfl)), wkS.c (wkC.int (by rw [w1, e1]; rfl)), wkS.c (wkC.int (by rw [e2]; rfl)), wkS.c (wkC.ptr (by decide)), trivial⟩ (Nat.zero_le _)⟩
   ·refine CallN.pure Qcz (Qcw _ ) (leA.refl rfl) rfl (Go0 ?_)
    try simp only [Int.toNat_natCast] at ho
    rw [ho] at e1
    refine Br.of (fun ha=>Go0 ?_) (fun ha=>Go0 ?_)
    ·try simp only [Int.toNat_natCast] at ha
     rw [ha] at e2
     have w2 := Qa (↑(Qt (d.zones.take k)) + 1) om (by simp at e2; omega)
     refine ⟨k + 1, om, om, Mv.mk' 1 rfl ⟨O.wk.vr (Qx rfl), trivial⟩ ⟨wkS.c (wkC.int (by rw [w0]; rfl)), wkS.c (wkC.int (by rw [e1]; rfl)), wkS.c (wkC.int (by rw [w2, e2]; rfl)), wkS.c (wkC.ptr (by decide)), trivial⟩ (Nat.zero_le _)⟩
    ·try simp only [Int.toNat_natCast] at ha
     rw [ha] at e2
     refine ⟨k + 1, om, om, Mv.mk' 1 rfl ⟨O.wk.vr (Qx rfl), trivial⟩ ⟨wkS.c (wkC.int (by rw [w0]; rfl)), wkS.c (wkC.int (by rw [e1]; rfl)), wkS.c (wkC.int (by rw [e2]; rfl)), wkS.c (wkC.ptr (by decide)), trivial⟩ (Nat.zero_le _)⟩
  ·have : k = d.zones.length := by omega
   subst this
   simp
theorem Qcy : HB 183 := hB Tryz.func183
theorem QkO (z : Zone) (size : Int) : PS 182 [z.s, .c (.int .i64 size)] (.c (.bool (Am.right z size))) := by
 have F : ∀ (b : Bool), Am.right z size = b → (S.c (C.bool b) = S.c (.bool (Am.right z size))) := fun b h => by rw [h]
 refine ov hΓ Tryz.func182 62 0 [.tmp 4] Tryz.ntmps182 Tryz.results182 ?_
 refine Go1 fun _h=>?_
 (first|refine Br.od (fun h1=>?_) (fun h1=>?_)|refine Br.mk (fun h1=>?_) (fun h1=>?_)<;>simp [-List.length_eq_zero_iff,-List.getD_eq_getElem?_getD] at h1)<;>(try simp only [Int.toNat_natCast] at h1)<;>(conv=>whnf)
 ·refine Go0 ?_
  refine F _ ?_
  simp only [Am.right, Bool.and_eq_false_iff, decide_eq_false_iff_not]; left; omega
 ·refine Go0 ?_
  refine Lp.mk hΓ (ι := Nat) (fun k => [(6, .c (.int .i64 k)), (5, .c (.int .i64 z.sectors.length)), (2, .c (.ptr 0 0)), (1, .c (.int .i64 size))]) (fun _ => [.vr [.int .i64 z.state, .int .i64 z.durable, QbW z.sectors]]) (fun k => k ≤ z.sectors.length ∧ Qco (z.sectors.take k) = true) (fun k => z.sectors.length - k) 0 ⟨Nat.zero_le _, rfl⟩ ?_ ?_
  ·exact Mv.mk' 1 rfl ⟨O.wk.vr (Qx rfl), trivial⟩ ⟨wkS.imm rfl, wkS.imm rfl, wkS.c (wkC.ptr (by decide)), wkS.imm rfl, trivial⟩ (Nat.zero_le _)
  ·rintro k ⟨hk, hk2⟩
   refine Go0 ?_
   refine Br.of (fun h=>Go1 fun _h=>?_) (fun h=>Go0 ?_)
   ·have hlt : k < z.sectors.length := by omega
    refine Br.of (fun h6=>Go0 ?_) (fun h6=>Go0 ?_)
    ·refine F _ ?_
     rw [Am.right, Qjs _ k hlt (by simp at h6 ⊢; omega), Bool.and_false]
    ·have w0 := Qa (↑k + 1) om om
     refine ⟨k + 1, ⟨om, ?_⟩, om, Mv.mk' 1 rfl ⟨O.wk.vr (Qx rfl), trivial⟩ ⟨wkS.c (wkC.int (by rw [w0]; rfl)), wkS.imm rfl, wkS.c (wkC.ptr (by decide)), wkS.imm rfl, trivial⟩ (Nat.zero_le _)⟩
     rw [Qil _ _ hlt, hk2]
     simp at h6 ⊢; omega
   ·have : k = z.sectors.length := by omega
    subst this
    have hs : Qco z.sectors = true := by simpa using hk2
    have G : ∀ (b : Bool) (p : Prop) [Decidable p], b = decide p → ((0 ≤ z.state ∧ z.state ≤ 5 ∧ (z.sectors.length : Int) ≤ size ∧ 0 ≤ z.durable ∧ z.durable ≤ z.sectors.length ∧ (z.state = 0 ∨ z.state = 5 → z.sectors.length = 0) ∧ (z.state = 4 → z.durable = z.sectors.length) ∧
  (z.state ≠ 0 → z.state ≠ 4 → z.state ≠ 5 → (z.sectors.length : Int) < size)) ↔ p) → (S.c (C.bool b) = S.c (.bool (Am.right z size))) := by
     intro b p _ hb hp
     rw [hb]
     simp only [S.c.injEq, C.bool.injEq, Am.right, hs, Bool.and_true, hp]
    refine Br.of (fun h2=>Go0 ?_) (fun h2=>Go0 ?_)
    ·refine Br.of (fun h3=>Go0 ?_) (fun h3=>Go0 ?_)
     ·refine G _ ((z.sectors.length : Int) = 0) (by rw [Bool.eq_iff_iff]; simp) om
     ·exact absurd h2 h3
    ·refine Br.of (fun h3=>Go0 ?_) (fun h3=>Go0 ?_)
     ·refine G _ ((z.sectors.length : Int) = 0) (by rw [Bool.eq_iff_iff]; simp) om
     ·refine Br.of (fun h4=>Go0 ?_) (fun h4=>Go0 ?_)
      ·refine G _ (z.durable = (z.sectors.length : Int)) (by rw [Bool.eq_iff_iff]; simp) om
      ·refine G _ ((z.sectors.length : Int) < size) rfl om
theorem Qku : HB 182 := hB Tryz.func182
theorem QbZ (d : Dev) : PS 111 [d.s] (.c (.int .i64 (check d))) := by
 refine ov hΓ Tryz.func111 82 0 [.tmp 2] Tryz.ntmps111 Tryz.results111 ?_
 refine Go1 fun _h=>?_
 (first|refine Br.od (fun h1=>?_) (fun h1=>?_)|refine Br.mk (fun h1=>?_) (fun h1=>?_)<;>simp [-List.length_eq_zero_iff,-List.getD_eq_getElem?_getD] at h1)<;>(try simp only [Int.toNat_natCast] at h1)<;>(conv=>whnf)
 ·refine Go0 ?_
  have : Qbu d = false := by simp only [Qbu, decide_eq_false_iff_not]; omega
  simp only [check, this]; rfl
 ·refine Go0 ?_
  have hc : Qbu d = true := by simp only [Qbu, decide_eq_true_eq]; omega
  refine Lp.mk hΓ (ι := Nat) (fun k => [(3, .c (.int .i64 k)), (1, .c (.ptr 0 0))])
   (fun _ => [.vr [.int .i64 d.size, .int .i64 d.maxOpen, .int .i64 d.maxActive, Qc2 d.zones]]) (fun k => k ≤ d.zones.length ∧ (d.zones.take k).all (fun z => Am.right z d.size) = true) (fun k => d.zones.length - k) 0 ⟨Nat.zero_le _, rfl⟩ ?_ ?_
  ·exact Mv.mk' 1 rfl ⟨O.wk.vr (Qx rfl), trivial⟩ ⟨wkS.imm rfl, wkS.c (wkC.ptr (by decide)), trivial⟩ (Nat.zero_le _)
  ·rintro k ⟨hk, hk2⟩
   refine Go1 fun _h=>?_
   refine Br.of (fun h=>Go0 ?_) (fun h=>Go0 ?_)
   ·have hlt : k < d.zones.length := by omega
    refine Dr.mk hΓ hMix (by kernel_rfl) (Go0 ?_)
    refine CallP.mk Qku (QkO (d.zones.getD k default) d.size ) (leA.refl rfl) rfl (Go0 ?_)
    refine Br.of (fun h2=>Go0 ?_) (fun h2=>Go0 ?_)
    ·have : d.zones.all (fun z => Am.right z d.size) = false := QgW _ _ k hlt h2
     simp only [check, hc, this]; rfl
    ·have w0 := Qa (↑k + 1) om om
     refine ⟨k + 1, ⟨om, ?_⟩, om, Mv.mk' 1 rfl ⟨O.wk.vr (Qx rfl), trivial⟩ ⟨wkS.c (wkC.int (by rw [w0]; rfl)), wkS.c (wkC.ptr (by decide)), trivial⟩ (Nat.zero_le _)⟩
     rw [Qmz _ _ k hlt, hk2, h2]; rfl
   ·have : k = d.zones.length := by omega
    subst this
    have hall : d.zones.all (fun z => Am.right z d.size) = true := by simpa using hk2
    refine CallN.pure Qcy (Qcv d ) (leA.refl rfl) rfl (Go0 ?_)
    (first|refine Br.od (fun h3=>?_) (fun h3=>?_)|refine Br.mk (fun h3=>?_) (fun h3=>?_)<;>simp [-List.length_eq_zero_iff,-List.getD_eq_getElem?_getD] at h3)<;>(try simp only [Int.toNat_natCast] at h3)<;>(conv=>whnf)
    ·refine Go0 ?_
     have : decide ((QP d.zones : Int) ≤ d.maxOpen ∧ (Qt d.zones : Int) ≤ d.maxActive) = false := by simp only [decide_eq_false_iff_not]; omega
     simp only [check, hc, hall, this]; rfl
    ·refine Go0 ?_
     have : decide ((QP d.zones : Int) ≤ d.maxOpen ∧ (Qt d.zones : Int) ≤ d.maxActive) = true := by simp only [decide_eq_true_eq]; omega
     simp only [check, hc, hall, this]; rfl
theorem Qb2 : HB 111 := hB Tryz.func111
theorem Qww (a b : Zone) : PS 144 [a.s, b.s] (.c (.bool (Qe2 a b))) := by
 refine ov0 hΓ Tryz.func144 45 0 [.tmp 4] Tryz.ntmps144 Tryz.results144 ?_
 (first|refine Br.od (fun h1=>?_) (fun h1=>?_)|refine Br.mk (fun h1=>?_) (fun h1=>?_)<;>simp [-List.length_eq_zero_iff,-List.getD_eq_getElem?_getD] at h1)<;>(try simp only [Int.toNat_natCast] at h1)<;>(conv=>whnf)
 ·refine Go0 ?_
  have : Qe2 a b = false := by simp only [Qe2, Bool.and_eq_false_iff, decide_eq_false_iff_not]; left; omega
  rw [this]
 ·refine Go0 ?_
  have hp : Qe2 a b = decide (a.sectors = b.sectors) := by
   have : decide (a.state = b.state ∧ a.durable = b.durable ∧ a.sectors.length = b.sectors.length) = true := by simp only [decide_eq_true_eq]; omega
   rw [Qe2, this, Bool.true_and]
  refine Lp.mk hΓ (ι := Nat) (fun k => [(5, .c (.int .i64 k)), (2, .c (.ptr 0 0)), (3, .c (.ptr 1 0))]) (fun _ => [.vr [.int .i64 a.state, .int .i64 a.durable, QbW a.sectors], .vr [.int .i64 b.state, .int .i64 b.durable, QbW b.sectors]])
   (fun k => k ≤ a.sectors.length ∧ a.sectors.take k = b.sectors.take k) (fun k => a.sectors.length - k) 0 ⟨Nat.zero_le _, rfl⟩ ?_ ?_
  ·exact Mv.mk' 2 rfl ⟨O.wk.vr (Qx rfl), O.wk.vr (Qx rfl), trivial⟩ ⟨wkS.imm rfl, wkS.c (wkC.ptr (by decide)), wkS.c (wkC.ptr (by decide)), trivial⟩ (Nat.zero_le _)
  ·rintro k ⟨hk, hk2⟩
   refine Go1 fun _h=>?_
   refine Br.of (fun h=>Go0 ?_) (fun h=>Go0 ?_)
   ·have hlt : k < a.sectors.length := by omega
    refine Dr.mk hΓ hMix (by kernel_rfl) (Go0 ?_)
    refine Br.of (fun h2=>Go0 ?_) (fun h2=>Go0 ?_)
    ·have hne : a.sectors.getD k ByteArray.empty ≠ b.sectors.getD k ByteArray.empty := by simpa using h2
     have : decide (a.sectors = b.sectors) = false := by
      rw [decide_eq_false_iff_not]; intro e; exact hne (by rw [e])
     rw [hp, this]
    ·have heq : a.sectors.getD k ByteArray.empty = b.sectors.getD k ByteArray.empty := by simpa using h2
     have w0 := Qa (↑k + 1) om om
     refine ⟨k + 1, ⟨om, ?_⟩, om, Mv.mk' 2 rfl ⟨O.wk.vr (Qx rfl), O.wk.vr (Qx rfl), trivial⟩ ⟨wkS.c (wkC.int (by rw [w0]; rfl)), wkS.c (wkC.ptr (by decide)), wkS.c (wkC.ptr (by decide)), trivial⟩ (Nat.zero_le _)⟩
     exact QwF hk2 hlt om heq
   ·have : k = a.sectors.length := by omega
    subst this
    have : decide (a.sectors = b.sectors) = true := by
     rw [decide_eq_true_eq]
     rw [List.take_length, List.take_of_length_le om] at hk2
     exact hk2
    rw [hp, this]
theorem Qwy : HB 144 := hB Tryz.func144
theorem Qxd (a b : Dev) : PS 70 [a.s, b.s] (.c (.bool (same a b))) := by
 refine ov0 hΓ Tryz.func70 53 0 [.tmp 4] Tryz.ntmps70 Tryz.results70 ?_
 (first|refine Br.od (fun h1=>?_) (fun h1=>?_)|refine Br.mk (fun h1=>?_) (fun h1=>?_)<;>simp [-List.length_eq_zero_iff,-List.getD_eq_getElem?_getD] at h1)<;>(try simp only [Int.toNat_natCast] at h1)<;>(conv=>whnf)
 ·refine Go0 ?_
  have : same a b = false := by simp only [same, Bool.and_eq_false_iff, decide_eq_false_iff_not]; left; omega
  rw [this]
 ·refine Go0 ?_
  have hp : same a b = Qbc a.zones b.zones := by
   have : decide (a.size = b.size ∧ a.maxOpen = b.maxOpen ∧ a.maxActive = b.maxActive ∧ a.zones.length = b.zones.length) = true := by simp only [decide_eq_true_eq]; omega
   rw [same, this, Bool.true_and]
  refine Lp.mk hΓ (ι := Nat) (fun k => [(5, .c (.int .i64 k)), (2, .c (.ptr 0 0)), (3, .c (.ptr 1 0))]) (fun _ => [.vr [.int .i64 a.size, .int .i64 a.maxOpen, .int .i64 a.maxActive, Qc2 a.zones], .vr [.int .i64 b.size, .int .i64 b.maxOpen, .int .i64 b.maxActive, Qc2 b.zones]])
   (fun k => k ≤ a.zones.length ∧ Qbc (a.zones.take k) (b.zones.take k) = true) (fun k => a.zones.length - k) 0 ⟨Nat.zero_le _, rfl⟩ ?_ ?_
  ·exact Mv.mk' 2 rfl ⟨O.wk.vr (Qx rfl), O.wk.vr (Qx rfl), trivial⟩ ⟨wkS.imm rfl, wkS.c (wkC.ptr (by decide)), wkS.c (wkC.ptr (by decide)), trivial⟩ (Nat.zero_le _)
  ·rintro k ⟨hk, hk2⟩
   refine Go1 fun _h=>?_
   refine Br.of (fun h=>Go0 ?_) (fun h=>Go0 ?_)
   ·have hlt : k < a.zones.length := by omega
    have hlt' : k < b.zones.length := by omega
    refine Dr.mk hΓ hMix (by kernel_rfl) (Go0 ?_)
    refine CallP.mk Qwy (Qww (a.zones.getD k default) (b.zones.getD k default) ) (leA.refl rfl) rfl (Go0 ?_)
    have hsn := Qnd a.zones b.zones k hlt hlt'
    refine Br.of (fun h2=>Go0 ?_) (fun h2=>Go0 ?_)
    ·have : Qbc a.zones b.zones = false := Ql2 a.zones b.zones k hlt hlt' h2
     rw [hp, this]
    ·have w0 := Qa (↑k + 1) om om
     refine ⟨k + 1, ⟨om, ?_⟩, om, Mv.mk' 2 rfl ⟨O.wk.vr (Qx rfl), O.wk.vr (Qx rfl), trivial⟩ ⟨wkS.c (wkC.int (by rw [w0]; rfl)), wkS.c (wkC.ptr (by decide)), wkS.c (wkC.ptr (by decide)), trivial⟩ (Nat.zero_le _)⟩
     rw [hsn, hk2, h2]; rfl
   ·have : k = a.zones.length := by omega
    subst this
    rw [List.take_length, List.take_of_length_le om] at hk2
    rw [hp, hk2]
theorem Qxc : HB 70 := hB Tryz.func70
theorem QmE (zones size open_ act : Int) (hz : -9223372036854775808 ≤ zones ∧ zones ≤ 9223372036854775807) : PS 83 [.c (.int .i64 zones), .c (.int .i64 size), .c (.int .i64 open_), .c (.int .i64 act)] (.t [.inr (newD zones size open_ act).cells, .inl (.int .i64 (newE zones size open_ act))]) := by
 refine PSpec.rm ?_
 refine ov0 hΓ Tryz.func83 32 0 [.cell 8 29, .tmp 9] Tryz.ntmps83 Tryz.results83 ?_
 (first|refine Br.od (fun h1=>?_) (fun h1=>?_)|refine Br.mk (fun h1=>?_) (fun h1=>?_)<;>simp [-List.length_eq_zero_iff,-List.getD_eq_getElem?_getD] at h1)<;>(try simp only [Int.toNat_natCast] at h1)<;>(conv=>whnf)
 ·refine Go0 ?_
  have he : newE zones size open_ act = 11 := by
   have : decide (1 ≤ zones ∧ zones ≤ 32) = false := by simp only [decide_eq_false_iff_not]; omega
   simp only [newE, this]; rfl
  have hd : newD zones size open_ act = dev0 := by simp only [newD, he]; rfl
  rw [he, hd]
  exact RM.imm rfl (wkS.t ⟨⟨wkC.imm rfl, wkC.imm rfl, wkC.imm rfl, wkC.nil rfl, trivial⟩, wkC.imm rfl, trivial⟩)
 ·refine Go0 ?_
  have hh : decide (1 ≤ zones ∧ zones ≤ 32) = true := by simp only [decide_eq_true_eq]; omega
  have hlen : zones.toNat = (List.replicate zones.toNat zone0).length := by simp
  have hfz : ∀ (x : Bool), leF (.isl 3 zones.toNat (Qbo [.int .i64 0, .int .i64 0, .nils]) x) (Qc2 (List.replicate zones.toNat zone0)) := fun x => leF.isl hlen (fun i hi j hj => QdX _ rfl _ i j hi hj) (fun e => by cases e)
  have hcells := fun i hi j hj => QdX _ rfl zones.toNat i j hi hj
  refine CallN.fzTo 1 rfl (Nat.zero_le _) (QkW _ rfl _) (ts' := [(8, .c (.ptr 0 0)), (10, .c (.ptr 2 0))]) (args' := [(newX zones size open_ act).s]) (H' := [.vr [.int .i64 0, .int .i64 0, .int .i64 0, .nils], .dead, .vr (newX zones size open_ act).cells]) 3 rfl
   ⟨O.wk.vr (Qx rfl), trivial, O.wk.vr ⟨wkC.imm rfl, wkC.imm rfl, wkC.imm rfl, wkC.fz rfl hlen hcells (fun e => by cases e), trivial⟩, trivial⟩
   ⟨wkS.c (wkC.ptr (by decide)), wkS.c (wkC.ptr (by decide)), trivial⟩
   ⟨wkS.a ⟨wkC.imm rfl, wkC.imm rfl, wkC.imm rfl, wkC.fz rfl hlen hcells (fun e => by cases e), trivial⟩, trivial⟩ (Nat.zero_le _) ?_
  refine CallN.pure Qb2 (QbZ (newX zones size open_ act) ) (leA.refl rfl) rfl (Go0 ?_)
  refine Br.of (fun h2=>Go0 ?_) (fun h2=>Go0 ?_)
  ·have he : newE zones size open_ act = check (newX zones size open_ act) := by simp only [newE, hh]; rfl
   have hd : newD zones size open_ act = dev0 := by simp only [newD, he]; rw [if_neg h2]
   rw [he, hd]
   exact RM.imm rfl (wkS.t ⟨⟨wkC.imm rfl, wkC.imm rfl, wkC.imm rfl, wkC.nil rfl, trivial⟩, wkC.imm rfl, trivial⟩)
  ·have he : newE zones size open_ act = 0 := by simp only [newE, hh]; exact h2
   have hd : newD zones size open_ act = newX zones size open_ act := by simp only [newD, he]; rfl
   rw [he, hd]
   exact RM.imm rfl (wkS.imm rfl)
theorem Qm5 : HB 83 := hB Tryz.func83
end Go.Proofs
end
