/- Contracts, lemmas; no condition. -/
import Derived.Test.YtjjlblnbeggejaaGreatP17
import Derived.Test.YtjjlblnbeggejaaGreatEnv
import Derived.Test.YtjjlblnbeggejaaGreatP15
import Derived.Test.YtjjlblnbeggejaaGreatP10
set_option linter.all false
section
open Go Go.Am
namespace Go.Proofs
set_option maxRecDepth 20000
theorem Qqo {x y a b : Int} (h1 : -a ≤ x) (h2 : x ≤ a) (h3 : 0 ≤ y) (h4 : y ≤ b) : -(a * b) ≤ x * y ∧ x * y ≤ a * b := by
 have ha : 0 ≤ a := by omega
 have e1 : x * y ≤ a * y := Int.mul_le_mul_of_nonneg_right h2 h3
 have e2 : a * y ≤ a * b := Int.mul_le_mul_of_nonneg_left h4 ha
 have e3 : (-a) * y ≤ x * y := Int.mul_le_mul_of_nonneg_right h1 h3
 have e4 : -(a * b) ≤ -a * y := by rw [Int.neg_mul]; omega
 exact ⟨by omega, by omega⟩
theorem Qct {c : Conf} (h : Qby c = true) : -300 ≤ Qp c ∧ Qp c ≤ 32 := by
 have := Qak h
 rw [confR_iff] at h
 unfold Qp
 omega
theorem QkM {c : Conf} (h : Qby c = true) : -20000 ≤ (Qp c - 3) * (c.size - 1) ∧ (Qp c - 3) * (c.size - 1) ≤ 20000 := by
 have h1 := Qct h
 rw [confR_iff] at h
 have := Qqo (x := Qp c - 3) (y := c.size - 1) (a := 303) (b := 63) (by omega) (by omega) (by omega) (by omega)
 omega
def Lay.cells (c : Conf) : List C := [.int .i64 (Qz c), .int .i64 (2 * Qz c), .int .i64 (Qp c), .int .i64 (capN c)]
theorem QkC {c : Conf} (h : Qby c = true) : IntKind.i64.wrap ((IntKind.i64.wrap (IntKind.i64.wrap (IntKind.i64.wrap (c.blocks + 2) + c.size) - 1)).tdiv c.size) = Qz c := by
 have hr := confR_iff.1 h
 have hs := Qak h
 rw [Qa (c.blocks + 2) (by omega) (by omega), Qa (c.blocks + 2 + c.size) (by omega) (by omega), Qa (c.blocks + 2 + c.size - 1) (by omega) (by omega)]
 exact Qa _ (by unfold Qz at hs; omega) (by unfold Qz at hs; omega)
theorem QeJ {c : Conf} (h : Qby c = true) : IntKind.i64.wrap (c.zones - IntKind.i64.wrap (2 * Qz c)) = Qp c := by
 have hr := confR_iff.1 h
 have hs := Qak h
 rw [Qa (2 * Qz c) (by omega) (by omega)]
 exact Qa _ (by omega) (by omega)
theorem QmP {c : Conf} (h : Qby c = true) : IntKind.i64.wrap (IntKind.i64.wrap (IntKind.i64.wrap (IntKind.i64.wrap (Qp c - 3) * IntKind.i64.wrap (c.size - 1)) - c.queues) - 1) = capN c := by
 have hr := confR_iff.1 h
 have hd := Qct h
 have hc := QkM h
 rw [Qa (Qp c - 3) (by omega) (by omega), Qa (c.size - 1) (by omega) (by omega), Qa ((Qp c - 3) * (c.size - 1)) (by omega) (by omega), Qa ((Qp c - 3) * (c.size - 1) - c.queues) (by omega) (by omega)]
 exact Qa ((Qp c - 3) * (c.size - 1) - c.queues - 1) (by omega) (by omega)
theorem QjJ (c : Conf) (h : Qby c = true) : PS 276 [.a c.cells] (.a (Lay.cells c)) := by
 refine PSpec.rm ?_
 have hr := confR_iff.1 h
 have hs := Qak h
 have hd := Qct h
 have hc := QkM h
 refine ov0 hΓ Tryz.func276 37 0 [.cell 2 135] Tryz.ntmps276 Tryz.results276 ?_
 refine RM.immW rfl ?_;(first|exact wb0|refine wb1 ?_|refine wb2 ?_ ?_|refine wb3 ?_ ?_ ?_|refine wb4 ?_ ?_ ?_ ?_)
 all_goals rw [QkC h]
 ·have hs := Qak h
  exact Qa _ (by omega) (by omega)
 ·exact QeJ h
 ·rw [QeJ h]; exact QmP h
theorem Qi7 : HB 276 := hB Tryz.func276
theorem Qmy (c : Conf) (h : Qby c = true) : PS 140 [.a c.cells] (.a (Lay.cells c)) := by
 refine PSpec.rm ?_
 have hr := confR_iff.1 h
 refine ov0 hΓ Tryz.func140 35 0 [.cell 2 135] Tryz.ntmps140 Tryz.results140 ?_
 refine RM.immW rfl ?_;(first|exact wb0|refine wb1 ?_|refine wb2 ?_ ?_|refine wb3 ?_ ?_ ?_|refine wb4 ?_ ?_ ?_ ?_)
 all_goals rw [QkC h]
 ·have hs := Qak h
  exact Qa _ (by omega) (by omega)
 ·exact QeJ h
 ·rw [QeJ h]; exact QmP h
theorem Qm8 : HB 140 := hB Tryz.func140
theorem Qfj (c : Conf) : PS 125 [.a c.cells] (.c (.int .i64 (QB c))) := by
 refine PSpec.rm ?_
 refine ov0 hΓ Tryz.func125 72 0 [.tmp 2] Tryz.ntmps125 Tryz.results125 ?_
 (first|refine Br.od (fun h=>?_) (fun h=>?_)|refine Br.mk (fun h=>?_) (fun h=>?_)<;>simp [-List.length_eq_zero_iff,-List.getD_eq_getElem?_getD] at h)<;>(try simp only [Int.toNat_natCast] at h)<;>(conv=>whnf)
 ·have hn : QB c = 1 := by
   unfold QB
   rw [if_neg]
   intro e
   have := confR_iff.1 e
   omega
  rw [hn]
  exact RM.i0
 ·have hr : Qby c = true := confR_iff.2 (by omega)
  refine CallN.pureA Qm8 (Qmy c hr ) (Go0 ?_)
  (first|refine Br.od (fun h2=>?_) (fun h2=>?_)|refine Br.mk (fun h2=>?_) (fun h2=>?_)<;>simp [-List.length_eq_zero_iff,-List.getD_eq_getElem?_getD] at h2)<;>(try simp only [Int.toNat_natCast] at h2)<;>(conv=>whnf)
  ·refine Go0 ?_
   rw [show QB c = 11 by unfold QB; rw [if_pos hr, if_pos h2]]
   exact RM.i0
  ·refine Go0 ?_
   rw [show QB c = 0 by unfold QB; rw [if_pos hr, if_neg (by omega)]]
   exact RM.i0
theorem Qfg : HB 125 := hB Tryz.func125
theorem Qe5 (c : Conf) : PS 229 [.a c.cells] (.c (.int .i64 (QB c))) := by
 refine PSpec.rm ?_
 refine ov hΓ Tryz.func229 55 0 [.tmp 2] Tryz.ntmps229 Tryz.results229 ?_
 have bad : ¬ Qby c = true → QB c = 1 := fun e => by unfold QB; rw [if_neg e]
 refine Go0 ?_
 refine Lp.roll hΓ 7 (Go0 ?_)
 refine Br.yes rfl (Go0 ?_)
 (first|refine Br.od (fun h0=>?_) (fun h0=>?_)|refine Br.mk (fun h0=>?_) (fun h0=>?_)<;>simp [-List.length_eq_zero_iff,-List.getD_eq_getElem?_getD] at h0)<;>(try simp only [Int.toNat_natCast] at h0)<;>(conv=>whnf)
 ·refine Go0 ?_
  rw [bad (fun e => by have := confR_iff.1 e; omega)]
  exact RM.i0
 ·refine Go0 ?_
  refine Br.yes rfl (Go0 ?_)
  (first|refine Br.od (fun h1=>?_) (fun h1=>?_)|refine Br.mk (fun h1=>?_) (fun h1=>?_)<;>simp [-List.length_eq_zero_iff,-List.getD_eq_getElem?_getD] at h1)<;>(try simp only [Int.toNat_natCast] at h1)<;>(conv=>whnf)
  ·refine Go0 ?_
   rw [bad (fun e => by have := confR_iff.1 e; omega)]
   exact RM.i0
  ·refine Go0 ?_
   refine Br.yes rfl (Go0 ?_)
   (first|refine Br.od (fun h2=>?_) (fun h2=>?_)|refine Br.mk (fun h2=>?_) (fun h2=>?_)<;>simp [-List.length_eq_zero_iff,-List.getD_eq_getElem?_getD] at h2)<;>(try simp only [Int.toNat_natCast] at h2)<;>(conv=>whnf)
   ·refine Go0 ?_
    rw [bad (fun e => by have := confR_iff.1 e; omega)]
    exact RM.i0
   ·refine Go0 ?_
    refine Br.yes rfl (Go0 ?_)
    (first|refine Br.od (fun h3=>?_) (fun h3=>?_)|refine Br.mk (fun h3=>?_) (fun h3=>?_)<;>simp [-List.length_eq_zero_iff,-List.getD_eq_getElem?_getD] at h3)<;>(try simp only [Int.toNat_natCast] at h3)<;>(conv=>whnf)
    ·refine Go0 ?_
     rw [bad (fun e => by have := confR_iff.1 e; omega)]
     exact RM.i0
    ·refine Go0 ?_
     refine Br.yes rfl (Go0 ?_)
     (first|refine Br.od (fun h4=>?_) (fun h4=>?_)|refine Br.mk (fun h4=>?_) (fun h4=>?_)<;>simp [-List.length_eq_zero_iff,-List.getD_eq_getElem?_getD] at h4)<;>(try simp only [Int.toNat_natCast] at h4)<;>(conv=>whnf)
     ·refine Go0 ?_
      rw [bad (fun e => by have := confR_iff.1 e; omega)]
      exact RM.i0
     ·refine Go0 ?_
      refine Br.yes rfl (Go0 ?_)
      (first|refine Br.od (fun h5=>?_) (fun h5=>?_)|refine Br.mk (fun h5=>?_) (fun h5=>?_)<;>simp [-List.length_eq_zero_iff,-List.getD_eq_getElem?_getD] at h5)<;>(try simp only [Int.toNat_natCast] at h5)<;>(conv=>whnf)
      ·refine Go0 ?_
       rw [bad (fun e => by have := confR_iff.1 e; omega)]
       exact RM.i0
      ·refine Go0 ?_
       refine Br.no rfl (Go0 ?_)
       have hr : Qby c = true := confR_iff.2 (by omega)
       refine CallN.pureA Qi7 (QjJ c hr ) (Go0 ?_)
       (first|refine Br.od (fun h9=>?_) (fun h9=>?_)|refine Br.mk (fun h9=>?_) (fun h9=>?_)<;>simp [-List.length_eq_zero_iff,-List.getD_eq_getElem?_getD] at h9)<;>(try simp only [Int.toNat_natCast] at h9)<;>(conv=>whnf)
       ·refine Go0 ?_
        rw [show QB c = 11 by unfold QB; rw [if_pos hr, if_pos h9]]
        exact RM.i0
       ·refine Go0 ?_
        rw [show QB c = 0 by unfold QB; rw [if_pos hr, if_neg (by omega)]]
        exact RM.i0
theorem Qe9 : HB 229 := hB Tryz.func229
def layM (c : Conf) : List C := if QB c = 0 then Lay.cells c else [.int .i64 0, .int .i64 0, .int .i64 0, .int .i64 0]
theorem Qjm {c : Conf} (h : QB c = 0) : layM c = Lay.cells c := if_pos h
theorem Qmv {c : Conf} (h : QB c ≠ 0) : layM c = [.int .i64 0, .int .i64 0, .int .i64 0, .int .i64 0] := if_neg h
theorem Qmr (c : Conf) : PS 231 [.a c.cells] (.t [.inr (layM c), .inl (.int .i64 (QB c))]) := by
 refine PSpec.rm ?_
 refine ov0 hΓ Tryz.func231 13 0 [.cell 2 135, .tmp 3] Tryz.ntmps231 Tryz.results231 ?_
 refine CallN.pureA Qe9 (Qe5 c ) (Go0 ?_)
 refine Br.of (fun h=>Go0 ?_) (fun h=>Go0 ?_)
 ·rw [Qmv h]
  exact RM.i0
 ·have h0 : QB c = 0 := by omega
  refine CallN.pureA Qi7 (QjJ c (QR h0).1 ) (Go0 ?_)
  rw [Qjm h0, h0]
  exact RM.i0
theorem Qri (c : Conf) : PS 56 [.a c.cells] (.t [.inr (layM c), .inl (.int .i64 (QB c))]) := by
 refine PSpec.rm ?_
 refine ov0 hΓ Tryz.func56 13 0 [.cell 2 135, .tmp 3] Tryz.ntmps56 Tryz.results56 ?_
 refine CallN.pureA Qfg (Qfj c ) (Go0 ?_)
 refine Br.of (fun h=>Go0 ?_) (fun h=>Go0 ?_)
 ·rw [Qmv h]
  exact RM.i0
 ·have h0 : QB c = 0 := by omega
  refine CallN.pureA Qm8 (Qmy c (QR h0).1 ) (Go0 ?_)
  rw [Qjm h0, h0]
  exact RM.i0
theorem Qp3 (c : Conf) (h : QB c = 0) : PS 231 [.a c.cells] (.t [.inr (Lay.cells c), .inl (.int .i64 0)]) := by
 have := Qmr c
 rwa [Qjm h, h] at this
theorem Qpo : HB 231 := hB Tryz.func231
theorem Qqj (c : Conf) (h : QB c ≠ 0) : PS 231 [.a c.cells] (.t [.inr [.int .i64 0, .int .i64 0, .int .i64 0, .int .i64 0], .inl (.int .i64 (QB c))]) := by
 have := Qmr c
 rwa [Qmv h] at this
theorem QpW : HB 231 := hB Tryz.func231
theorem QfS (c : Conf) (h : QB c = 0) : PS 56 [.a c.cells] (.t [.inr (Lay.cells c), .inl (.int .i64 0)]) := by
 have := Qri c
 rwa [Qjm h, h] at this
theorem QfZ : HB 56 := hB Tryz.func56
theorem QgI (c : Conf) (z : Int) : PS 166 [.a c.cells, .c (.int .i64 z)] (.c (.bool (Qam c z))) := by
 refine PSpec.rm ?_
 refine ov0 hΓ Tryz.func166 26 0 [.tmp 4] Tryz.ntmps166 Tryz.results166 ?_
 by_cases h : QB c = 0
 ·refine CallN.pureA Qpo (Qp3 c h ) (Go0 ?_)
  refine RM.i1 ?_
  unfold Qam
  by_cases h1 : 2 * Qz c ≤ z <;> simp [h, h1]
 ·refine CallN.pureA QpW (Qqj c h ) (Go0 ?_)
  refine RM.i1 ?_
  unfold Qam
  simp [h]
theorem QgD : HB 166 := hB Tryz.func166
theorem QhF (n : Int) : PS 196 [.c (.int .i64 n)] (.c (.bool (QF n))) := by
  refine ov0 hΓ Tryz.func196 9 0 [.tmp 2] Tryz.ntmps196 Tryz.results196 ?_
  simp only [S.c.injEq, C.bool.injEq, QF]
  rw [Bool.eq_iff_iff]
  simp
theorem QhH : HB 196 := hB Tryz.func196
theorem QdE (d : Dev) : PS 259 [d.s] (.t [.inl (.int .i64 (QH d.zones)), .inl (.int .i64 (Qi d.zones))]) := by
  refine ov hΓ Tryz.func259 30 0 [.tmp 2, .tmp 3] Tryz.ntmps259 Tryz.results259 ?_
  refine Go1 fun _h=>?_
  refine Lp.mk hΓ (ι := Nat) (fun k => [(9, .c (.int .i64 k)), (2, .c (.int .i64 (QH (d.zones.take k)))), (3, .c (.int .i64 (Qi (d.zones.take k)))), (7, .c (Qca d.zones)), (8, .c (.int .i64 d.zones.length))])
    (fun _ => []) (fun k => k ≤ d.zones.length) (fun k => d.zones.length - k) 0 (Nat.zero_le _) ?_ ?_
  · refine Mv.mk' 0 rfl trivial ?_ (Nat.le_refl _)
    exact ⟨wkS.imm rfl, wkS.imm rfl, wkS.imm rfl, wkS.imm rfl, wkS.imm rfl, trivial⟩
  · intro k hk
    refine Go0 ?_
    refine Br.of (fun h=>Go0 ?_) (fun h=>Go0 ?_)
    · refine CallN.pure QhH (QhF _ ) (leA.refl rfl) rfl (Go0 ?_)
      have hlt : k < d.zones.length := by omega
      have e1 := QgH d.zones k hlt
      have e2 := Qft d.zones k hlt
      have l1 := Qjx (d.zones.take (k + 1))
      have l2 := Qgq (d.zones.take (k + 1))
      have l3 : (d.zones.take (k + 1)).length ≤ d.zones.length := by simp; omega
      have w0 := Qa (↑k + 1) (by omega) (by omega)
      refine Br.of (fun ho=>Go0 ?_) (fun ho=>Go0 ?_)
      · have ha : QP (d.zones.getD k default).state = true := by
          try simp only [Int.toNat_natCast] at ho
          simp only [QF, QP, decide_eq_true_eq] at ho ⊢; omega
        try simp only [Int.toNat_natCast] at ho
        rw [ho] at e1
        rw [ha] at e2
        have w1 := Qa (↑(QH (d.zones.take k)) + 1) (by omega) (by simp at e1; omega)
        have w2 := Qa (↑(Qi (d.zones.take k)) + 1) (by omega) (by simp at e2; omega)
        refine ⟨k + 1, by omega, by omega, Mv.mk' 0 rfl trivial ⟨wkS.c (wkC.int (by rw [w0]; rfl)), wkS.c (wkC.int (by rw [w1, e1]; rfl)), wkS.c (wkC.int (by rw [w2, e2]; rfl)), wkS.imm rfl, wkS.imm rfl, trivial⟩ (Nat.le_refl _)⟩
      · try simp only [Int.toNat_natCast] at ho
        rw [ho] at e1
        refine Br.of (fun hc=>Go0 ?_) (fun hc=>Go0 ?_)
        · try simp only [Int.toNat_natCast] at hc
          have ha : QP (d.zones.getD k default).state = true := by simp only [QP, decide_eq_true_eq]; omega
          rw [ha] at e2
          have w2 := Qa (↑(Qi (d.zones.take k)) + 1) (by omega) (by simp at e2; omega)
          refine ⟨k + 1, by omega, by omega, Mv.mk' 0 rfl trivial ⟨wkS.c (wkC.int (by rw [w0]; rfl)), wkS.c (wkC.int (by rw [e1]; rfl)), wkS.c (wkC.int (by rw [w2, e2]; rfl)), wkS.imm rfl, wkS.imm rfl, trivial⟩ (Nat.le_refl _)⟩
        · try simp only [Int.toNat_natCast] at hc
          have ha : QP (d.zones.getD k default).state = false := by
            simp only [QF, decide_eq_false_iff_not] at ho
            simp only [QP, decide_eq_false_iff_not]; omega
          rw [ha] at e2
          refine ⟨k + 1, by omega, by omega, Mv.mk' 0 rfl trivial ⟨wkS.c (wkC.int (by rw [w0]; rfl)), wkS.c (wkC.int (by rw [e1]; rfl)), wkS.c (wkC.int (by rw [e2]; rfl)), wkS.imm rfl, wkS.imm rfl, trivial⟩ (Nat.le_refl _)⟩
    · have : k = d.zones.length := by omega
      subst this
      simp
theorem Qdu : HB 259 := hB Tryz.func259
theorem QpT (z : Zone) (size : Int) (hs : 3 ≤ size) : PS 258 [z.s, .c (.int .i64 size)] (.c (.bool (right z size))) := by
  have F : ∀ (b : Bool), right z size = b → (S.c (C.bool b) = S.c (.bool (right z size))) := fun b h => by rw [h]
  refine ov hΓ Tryz.func258 78 0 [.tmp 4] Tryz.ntmps258 Tryz.results258 ?_
  refine Go1 fun _h=>?_
  (first|refine Br.od (fun h1=>?_) (fun h1=>?_)|refine Br.mk (fun h1=>?_) (fun h1=>?_)<;>simp [-List.length_eq_zero_iff,-List.getD_eq_getElem?_getD] at h1)<;>(try simp only [Int.toNat_natCast] at h1)<;>(conv=>whnf)
  · refine Go0 ?_
    refine F _ ?_
    simp only [right, Bool.and_eq_false_iff, decide_eq_false_iff_not]; left; omega
  · refine Go0 ?_
    (first|refine Br.od (fun h2=>?_) (fun h2=>?_)|refine Br.mk (fun h2=>?_) (fun h2=>?_)<;>simp [-List.length_eq_zero_iff,-List.getD_eq_getElem?_getD] at h2)<;>(try simp only [Int.toNat_natCast] at h2)<;>(conv=>whnf)
    · refine Go0 ?_
      refine F _ ?_
      simp only [right, Bool.and_eq_false_iff, decide_eq_false_iff_not]; left; omega
    · refine Go0 ?_
      (first|refine Br.od (fun h3=>?_) (fun h3=>?_)|refine Br.mk (fun h3=>?_) (fun h3=>?_)<;>simp [-List.length_eq_zero_iff,-List.getD_eq_getElem?_getD] at h3)<;>(try simp only [Int.toNat_natCast] at h3)<;>(conv=>whnf)
      · refine Go0 ?_
        refine F _ ?_
        simp only [right, Bool.and_eq_false_iff, decide_eq_false_iff_not]; left; omega
      · refine Go0 ?_
        (first|refine Br.od (fun h4=>?_) (fun h4=>?_)|refine Br.mk (fun h4=>?_) (fun h4=>?_)<;>simp [-List.length_eq_zero_iff,-List.getD_eq_getElem?_getD] at h4)<;>(try simp only [Int.toNat_natCast] at h4)<;>(conv=>whnf)
        · refine Go0 ?_
          refine F _ ?_
          simp only [right, Bool.and_eq_false_iff, decide_eq_false_iff_not]; left; omega
        · refine Go0 ?_
          (first|refine Br.od (fun h5=>?_) (fun h5=>?_)|refine Br.mk (fun h5=>?_) (fun h5=>?_)<;>simp [-List.length_eq_zero_iff,-List.getD_eq_getElem?_getD] at h5)<;>(try simp only [Int.toNat_natCast] at h5)<;>(conv=>whnf)
          · refine Go0 ?_
            refine F _ ?_
            simp only [right, Bool.and_eq_false_iff, decide_eq_false_iff_not]; left; omega
          · refine Go1 fun _h=>?_
            have hP : right z size = QbX z.sectors := by
              have : decide (0 ≤ z.state ∧ z.state ≤ 5 ∧ (z.sectors.length : Int) ≤ size ∧ 0 ≤ z.durable ∧ z.durable ≤ z.sectors.length ∧ (z.state = 0 ∨ z.state = 5 → z.sectors.length = 0) ∧ (z.state = 4 → z.durable = z.sectors.length) ∧
    (z.state ≠ 0 → z.state ≠ 4 → z.state ≠ 5 → (z.sectors.length : Int) < size)) = true := by simp only [decide_eq_true_eq]; omega
              simp only [right, this, Bool.true_and]
            refine Lp.mk hΓ (ι := Nat) (fun k => [(70, .c (.int .i64 k)), (69, .c (.int .i64 z.sectors.length)), (68, .c (Qay z.sectors))]) (fun _ => []) (fun k => k ≤ z.sectors.length ∧ QbX (z.sectors.take k) = true) (fun k => z.sectors.length - k) 0 ⟨Nat.zero_le _, rfl⟩ ?_ ?_
            · exact Mv.mk' 0 rfl trivial ⟨wkS.imm rfl, wkS.imm rfl, wkS.imm rfl, trivial⟩ (Nat.le_refl _)
            · rintro k ⟨hk, hk2⟩
              refine Go0 ?_
              refine Br.of (fun h=>Go1 fun _h=>?_) (fun h=>Go0 ?_)
              · have hlt : k < z.sectors.length := by omega
                (first|refine Br.od (fun h6=>?_) (fun h6=>?_)|refine Br.mk (fun h6=>?_) (fun h6=>?_)<;>simp [-List.length_eq_zero_iff,-List.getD_eq_getElem?_getD] at h6)<;>(try simp only [Int.toNat_natCast] at h6)<;>(conv=>whnf)
                · refine Go0 ?_
                  refine F _ ?_
                  rw [hP]
                  exact Qiu _ k hlt (by simp at h6 ⊢; omega)
                · refine Go0 ?_
                  have w0 := Qa (↑k + 1) (by omega) (by omega)
                  refine ⟨k + 1, ⟨by omega, ?_⟩, by omega, Mv.mk' 0 rfl trivial ⟨wkS.c (wkC.int (by rw [w0]; rfl)), wkS.imm rfl, wkS.imm rfl, trivial⟩ (Nat.le_refl _)⟩
                  rw [QhO _ _ hlt, hk2]
                  simp at h6 ⊢; omega
              · have : k = z.sectors.length := by omega
                subst this
                refine F _ ?_
                rw [hP]
                simpa using hk2
theorem Qpq : HB 258 := hB Tryz.func258
theorem Qd8 (d : Dev) : PS 195 [d.s] (.c (.int .i64 (check d))) := by
  refine ov hΓ Tryz.func195 75 0 [.tmp 2] Tryz.ntmps195 Tryz.results195 ?_
  refine Go1 fun _h=>?_
  (first|refine Br.od (fun h1=>?_) (fun h1=>?_)|refine Br.mk (fun h1=>?_) (fun h1=>?_)<;>simp [-List.length_eq_zero_iff,-List.getD_eq_getElem?_getD] at h1)<;>(try simp only [Int.toNat_natCast] at h1)<;>(conv=>whnf)
  · refine Go0 ?_
    have : Qbg d = false := by simp only [Qbg, decide_eq_false_iff_not]; omega
    simp only [check, this]; rfl
  · refine Go1 fun _h=>?_
    have hc : Qbg d = true := by simp only [Qbg, decide_eq_true_eq]; omega
    refine Lp.mk hΓ (ι := Nat) (fun k => [(50, .c (.int .i64 k)), (49, .c (.int .i64 d.zones.length)), (48, .c (Qca d.zones)), (1, .c (.ptr 0 0))])
      (fun _ => [.vr [.int .i64 d.size, .int .i64 d.maxOpen, .int .i64 d.maxActive, Qca d.zones]]) (fun k => k ≤ d.zones.length ∧ (d.zones.take k).all (fun z => Am.right z d.size) = true) (fun k => d.zones.length - k) 0 ⟨Nat.zero_le _, rfl⟩ ?_ ?_
    · exact Mv.mk' 1 rfl ⟨O.wk.vr (Qv rfl), trivial⟩ ⟨wkS.imm rfl, wkS.imm rfl, wkS.imm rfl, wkS.c (wkC.ptr (by decide)), trivial⟩ (Nat.zero_le _)
    · rintro k ⟨hk, hk2⟩
      refine Go0 ?_
      refine Br.of (fun h=>Go0 ?_) (fun h=>Go0 ?_)
      · have hlt : k < d.zones.length := by omega
        refine CallN.pure Qpq (QpT (d.zones.getD k default) d.size (by omega) ) (leA.refl rfl) rfl (Go0 ?_)
        refine Br.of (fun h2=>Go0 ?_) (fun h2=>Go0 ?_)
        · have : d.zones.all (fun z => Am.right z d.size) = false := Qgc _ _ k hlt h2
          simp only [check, hc, this]; rfl
        · have w0 := Qa (↑k + 1) (by omega) (by omega)
          refine ⟨k + 1, ⟨by omega, ?_⟩, by omega, Mv.mk' 1 rfl ⟨O.wk.vr (Qv rfl), trivial⟩ ⟨wkS.c (wkC.int (by rw [w0]; rfl)), wkS.imm rfl, wkS.imm rfl, wkS.c (wkC.ptr (by decide)), trivial⟩ (Nat.zero_le _)⟩
          rw [Qmd _ _ k hlt, hk2, h2]; rfl
      · have : k = d.zones.length := by omega
        subst this
        have hall : d.zones.all (fun z => Am.right z d.size) = true := by simpa using hk2
        refine CallN.pure Qdu (QdE d ) (leA.refl rfl) rfl (Go0 ?_)
        (first|refine Br.od (fun h3=>?_) (fun h3=>?_)|refine Br.mk (fun h3=>?_) (fun h3=>?_)<;>simp [-List.length_eq_zero_iff,-List.getD_eq_getElem?_getD] at h3)<;>(try simp only [Int.toNat_natCast] at h3)<;>(conv=>whnf)
        · refine Go0 ?_
          have : decide ((QH d.zones : Int) ≤ d.maxOpen ∧ (Qi d.zones : Int) ≤ d.maxActive) = false := by simp only [decide_eq_false_iff_not]; omega
          simp only [check, hc, hall, this]; rfl
        · refine Go0 ?_
          have : decide ((QH d.zones : Int) ≤ d.maxOpen ∧ (Qi d.zones : Int) ≤ d.maxActive) = true := by simp only [decide_eq_true_eq]; omega
          simp only [check, hc, hall, this]; rfl
theorem Qef : HB 195 := hB Tryz.func195
theorem Qbn (n : Int) : PS 216 [.c (.int .i64 n)] (.c (.bool (QF n))) := by
 refine ov0 hΓ Tryz.func216 9 0 [.tmp 2] Tryz.ntmps216 Tryz.results216 ?_
 simp only [S.c.injEq, C.bool.injEq, QF]
 rw [Bool.eq_iff_iff]
 simp
theorem Qbm : HB 216 := hB Tryz.func216
theorem Qb6 (n : Int) : PS 264 [.c (.int .i64 n)] (.c (.bool (QP n))) := by
 refine ov hΓ Tryz.func264 9 0 [.tmp 2] Tryz.ntmps264 Tryz.results264 ?_
 conv=>whnf
 refine CallN.pure Qbm (Qbn _ ) (leA.refl rfl) rfl (Go0 ?_)
 simp only [S.c.injEq, C.bool.injEq, QF, QP]
 rw [Bool.eq_iff_iff]
 simp [or_assoc]
theorem Qb1 : HB 264 := hB Tryz.func264
theorem Qb3 (d : Dev) : PS 210 [d.s] (.t [.inl (.int .i64 (QH d.zones)), .inl (.int .i64 (Qi d.zones))]) := by
 refine ov0 hΓ Tryz.func210 34 0 [.tmp 2, .tmp 3] Tryz.ntmps210 Tryz.results210 ?_
 refine Lp.mk hΓ (ι := Nat) (fun k => [(6, .c (.int .i64 k)), (4, .c (.int .i64 (QH (d.zones.take k)))), (5, .c (.int .i64 (Qi (d.zones.take k)))), (1, .c (.ptr 0 0))])
  (fun _ => [.vr [.int .i64 d.size, .int .i64 d.maxOpen, .int .i64 d.maxActive, Qca d.zones]]) (fun k => k ≤ d.zones.length) (fun k => d.zones.length - k) 0 (Nat.zero_le _) ?_ ?_
 ·exact Mv.mk' 1 rfl ⟨O.wk.vr (Qv rfl), trivial⟩ ⟨wkS.imm rfl, wkS.imm rfl, wkS.imm rfl, wkS.c (wkC.ptr (by decide)), trivial⟩ (Nat.zero_le _)
 ·intro k hk
  refine Go1 fun _h=>?_
  refine Br.of (fun h=>Go0 ?_) (fun h=>Go0 ?_)
  ·refine CallN.pure Qbm (Qbn _ ) (leA.refl rfl) rfl (Go0 ?_)
   have hlt : k < d.zones.length := by omega
   have e1 := QgH d.zones k hlt
   have e2 := Qft d.zones k hlt
   have l1 := Qjx (d.zones.take (k + 1))
   have l2 := Qgq (d.zones.take (k + 1))
   have l3 : (d.zones.take (k + 1)).length ≤ d.zones.length := by simp; omega
   have w0 := Qa (↑k + 1) (by omega) (by omega)
   refine Br.of (fun ho=>Go0 ?_) (fun ho=>Go0 ?_)
   ·refine CallN.pure Qb1 (Qb6 _ ) (leA.refl rfl) rfl (Go0 ?_)
    try simp only [Int.toNat_natCast] at ho
    rw [ho] at e1
    have w1 := Qa (↑(QH (d.zones.take k)) + 1) (by omega) (by simp at e1; omega)
    refine Br.of (fun ha=>Go0 ?_) (fun ha=>Go0 ?_)
    ·try simp only [Int.toNat_natCast] at ha
     rw [ha] at e2
     have w2 := Qa (↑(Qi (d.zones.take k)) + 1) (by omega) (by simp at e2; omega)
     refine ⟨k + 1, by omega, by omega, Mv.mk' 1 rfl ⟨O.wk.vr (Qv rfl), trivial⟩ ⟨wkS.c (wkC.int (by rw [w0]; rfl)), wkS.c (wkC.int (by rw [w1, e1]; rfl)), wkS.c (wkC.int (by rw [w2, e2]; rfl)), wkS.c (wkC.ptr (by decide)), trivial⟩ (Nat.zero_le _)⟩
    ·try simp only [Int.toNat_natCast] at ha
     rw [ha] at e2
     refine ⟨k + 1, by omega, by omega, Mv.mk' 1 rfl ⟨O.wk.vr (Qv rfl), trivial⟩ ⟨wkS.c (wkC.int (by rw [w0]; rfl)), wkS.c (wkC.int (by rw [w1, e1]; rfl)), wkS.c (wkC.int (by rw [e2]; rfl)), wkS.c (wkC.ptr (by decide)), trivial⟩ (Nat.zero_le _)⟩
   ·refine CallN.pure Qb1 (Qb6 _ ) (leA.refl rfl) rfl (Go0 ?_)
    try simp only [Int.toNat_natCast] at ho
    rw [ho] at e1
    refine Br.of (fun ha=>Go0 ?_) (fun ha=>Go0 ?_)
    ·try simp only [Int.toNat_natCast] at ha
     rw [ha] at e2
     have w2 := Qa (↑(Qi (d.zones.take k)) + 1) (by omega) (by simp at e2; omega)
     refine ⟨k + 1, by omega, by omega, Mv.mk' 1 rfl ⟨O.wk.vr (Qv rfl), trivial⟩ ⟨wkS.c (wkC.int (by rw [w0]; rfl)), wkS.c (wkC.int (by rw [e1]; rfl)), wkS.c (wkC.int (by rw [w2, e2]; rfl)), wkS.c (wkC.ptr (by decide)), trivial⟩ (Nat.zero_le _)⟩
    ·try simp only [Int.toNat_natCast] at ha
     rw [ha] at e2
     refine ⟨k + 1, by omega, by omega, Mv.mk' 1 rfl ⟨O.wk.vr (Qv rfl), trivial⟩ ⟨wkS.c (wkC.int (by rw [w0]; rfl)), wkS.c (wkC.int (by rw [e1]; rfl)), wkS.c (wkC.int (by rw [e2]; rfl)), wkS.c (wkC.ptr (by decide)), trivial⟩ (Nat.zero_le _)⟩
  ·have : k = d.zones.length := by omega
   subst this
   simp
theorem Qb2 : HB 210 := hB Tryz.func210
theorem QjL (z : Zone) (size : Int) : PS 209 [z.s, .c (.int .i64 size)] (.c (.bool (Am.right z size))) := by
 have F : ∀ (b : Bool), Am.right z size = b → (S.c (C.bool b) = S.c (.bool (Am.right z size))) := fun b h => by rw [h]
 refine ov hΓ Tryz.func209 62 0 [.tmp 4] Tryz.ntmps209 Tryz.results209 ?_
 refine Go1 fun _h=>?_
 (first|refine Br.od (fun h1=>?_) (fun h1=>?_)|refine Br.mk (fun h1=>?_) (fun h1=>?_)<;>simp [-List.length_eq_zero_iff,-List.getD_eq_getElem?_getD] at h1)<;>(try simp only [Int.toNat_natCast] at h1)<;>(conv=>whnf)
 ·refine Go0 ?_
  refine F _ ?_
  simp only [Am.right, Bool.and_eq_false_iff, decide_eq_false_iff_not]; left; omega
 ·refine Go0 ?_
  refine Lp.mk hΓ (ι := Nat) (fun k => [(6, .c (.int .i64 k)), (5, .c (.int .i64 z.sectors.length)), (2, .c (.ptr 0 0)), (1, .c (.int .i64 size))]) (fun _ => [.vr [.int .i64 z.state, .int .i64 z.durable, Qay z.sectors]]) (fun k => k ≤ z.sectors.length ∧ QbX (z.sectors.take k) = true) (fun k => z.sectors.length - k) 0 ⟨Nat.zero_le _, rfl⟩ ?_ ?_
  ·exact Mv.mk' 1 rfl ⟨O.wk.vr (Qv rfl), trivial⟩ ⟨wkS.imm rfl, wkS.imm rfl, wkS.c (wkC.ptr (by decide)), wkS.imm rfl, trivial⟩ (Nat.zero_le _)
  ·rintro k ⟨hk, hk2⟩
   refine Go0 ?_
   refine Br.of (fun h=>Go1 fun _h=>?_) (fun h=>Go0 ?_)
   ·have hlt : k < z.sectors.length := by omega
    refine Br.of (fun h6=>Go0 ?_) (fun h6=>Go0 ?_)
    ·refine F _ ?_
     rw [Am.right, Qiu _ k hlt (by simp at h6 ⊢; omega), Bool.and_false]
    ·have w0 := Qa (↑k + 1) (by omega) (by omega)
     refine ⟨k + 1, ⟨by omega, ?_⟩, by omega, Mv.mk' 1 rfl ⟨O.wk.vr (Qv rfl), trivial⟩ ⟨wkS.c (wkC.int (by rw [w0]; rfl)), wkS.imm rfl, wkS.c (wkC.ptr (by decide)), wkS.imm rfl, trivial⟩ (Nat.zero_le _)⟩
     rw [QhO _ _ hlt, hk2]
     simp at h6 ⊢; omega
   ·have : k = z.sectors.length := by omega
    subst this
    have hs : QbX z.sectors = true := by simpa using hk2
    have G : ∀ (b : Bool) (p : Prop) [Decidable p], b = decide p → ((0 ≤ z.state ∧ z.state ≤ 5 ∧ (z.sectors.length : Int) ≤ size ∧ 0 ≤ z.durable ∧ z.durable ≤ z.sectors.length ∧ (z.state = 0 ∨ z.state = 5 → z.sectors.length = 0) ∧ (z.state = 4 → z.durable = z.sectors.length) ∧
  (z.state ≠ 0 → z.state ≠ 4 → z.state ≠ 5 → (z.sectors.length : Int) < size)) ↔ p) → (S.c (C.bool b) = S.c (.bool (Am.right z size))) := by
     intro b p _ hb hp
     rw [hb]
     simp only [S.c.injEq, C.bool.injEq, Am.right, hs, Bool.and_true, hp]
    refine Br.of (fun h2=>Go0 ?_) (fun h2=>Go0 ?_)
    ·refine Br.of (fun h3=>Go0 ?_) (fun h3=>Go0 ?_)
     ·refine G _ ((z.sectors.length : Int) = 0) (by rw [Bool.eq_iff_iff]; simp) (by omega)
     ·exact absurd h2 h3
    ·refine Br.of (fun h3=>Go0 ?_) (fun h3=>Go0 ?_)
     ·refine G _ ((z.sectors.length : Int) = 0) (by rw [Bool.eq_iff_iff]; simp) (by omega)
     ·refine Br.of (fun h4=>Go0 ?_) (fun h4=>Go0 ?_)
      ·refine G _ (z.durable = (z.sectors.length : Int)) (by rw [Bool.eq_iff_iff]; simp) (by omega)
      ·refine G _ ((z.sectors.length : Int) < size) rfl (by omega)
theorem Qj0 : HB 209 := hB Tryz.func209
theorem Qcr (d : Dev) : PS 126 [d.s] (.c (.int .i64 (check d))) := by
 refine ov hΓ Tryz.func126 82 0 [.tmp 2] Tryz.ntmps126 Tryz.results126 ?_
 refine Go1 fun _h=>?_
 (first|refine Br.od (fun h1=>?_) (fun h1=>?_)|refine Br.mk (fun h1=>?_) (fun h1=>?_)<;>simp [-List.length_eq_zero_iff,-List.getD_eq_getElem?_getD] at h1)<;>(try simp only [Int.toNat_natCast] at h1)<;>(conv=>whnf)
 ·refine Go0 ?_
  have : Qbg d = false := by simp only [Qbg, decide_eq_false_iff_not]; omega
  simp only [check, this]; rfl
 ·refine Go0 ?_
  have hc : Qbg d = true := by simp only [Qbg, decide_eq_true_eq]; omega
  refine Lp.mk hΓ (ι := Nat) (fun k => [(3, .c (.int .i64 k)), (1, .c (.ptr 0 0))])
   (fun _ => [.vr [.int .i64 d.size, .int .i64 d.maxOpen, .int .i64 d.maxActive, Qca d.zones]]) (fun k => k ≤ d.zones.length ∧ (d.zones.take k).all (fun z => Am.right z d.size) = true) (fun k => d.zones.length - k) 0 ⟨Nat.zero_le _, rfl⟩ ?_ ?_
  ·exact Mv.mk' 1 rfl ⟨O.wk.vr (Qv rfl), trivial⟩ ⟨wkS.imm rfl, wkS.c (wkC.ptr (by decide)), trivial⟩ (Nat.zero_le _)
  ·rintro k ⟨hk, hk2⟩
   refine Go1 fun _h=>?_
   refine Br.of (fun h=>Go0 ?_) (fun h=>Go0 ?_)
   ·have hlt : k < d.zones.length := by omega
    refine Dr.mk hΓ hMix (by kernel_rfl) (Go0 ?_)
    refine CallP.mk Qj0 (QjL (d.zones.getD k default) d.size ) (leA.refl rfl) rfl (Go0 ?_)
    refine Br.of (fun h2=>Go0 ?_) (fun h2=>Go0 ?_)
    ·have : d.zones.all (fun z => Am.right z d.size) = false := Qgc _ _ k hlt h2
     simp only [check, hc, this]; rfl
    ·have w0 := Qa (↑k + 1) (by omega) (by omega)
     refine ⟨k + 1, ⟨by omega, ?_⟩, by omega, Mv.mk' 1 rfl ⟨O.wk.vr (Qv rfl), trivial⟩ ⟨wkS.c (wkC.int (by rw [w0]; rfl)), wkS.c (wkC.ptr (by decide)), trivial⟩ (Nat.zero_le _)⟩
     rw [Qmd _ _ k hlt, hk2, h2]; rfl
   ·have : k = d.zones.length := by omega
    subst this
    have hall : d.zones.all (fun z => Am.right z d.size) = true := by simpa using hk2
    refine CallN.pure Qb2 (Qb3 d ) (leA.refl rfl) rfl (Go0 ?_)
    (first|refine Br.od (fun h3=>?_) (fun h3=>?_)|refine Br.mk (fun h3=>?_) (fun h3=>?_)<;>simp [-List.length_eq_zero_iff,-List.getD_eq_getElem?_getD] at h3)<;>(try simp only [Int.toNat_natCast] at h3)<;>(conv=>whnf)
    ·refine Go0 ?_
     have : decide ((QH d.zones : Int) ≤ d.maxOpen ∧ (Qi d.zones : Int) ≤ d.maxActive) = false := by simp only [decide_eq_false_iff_not]; omega
     simp only [check, hc, hall, this]; rfl
    ·refine Go0 ?_
     have : decide ((QH d.zones : Int) ≤ d.maxOpen ∧ (Qi d.zones : Int) ≤ d.maxActive) = true := by simp only [decide_eq_true_eq]; omega
     simp only [check, hc, hall, this]; rfl
theorem Qcq : HB 126 := hB Tryz.func126
theorem QgG (zones size open_ act : Int) (hz : -9223372036854775808 ≤ zones ∧ zones ≤ 9223372036854775807) : PS 138 [.c (.int .i64 zones), .c (.int .i64 size), .c (.int .i64 open_), .c (.int .i64 act)] (.t [.inr (newD zones size open_ act).cells, .inl (.int .i64 (newE zones size open_ act))]) := by
 refine PSpec.rm ?_
 refine ov0 hΓ Tryz.func138 32 0 [.cell 8 29, .tmp 9] Tryz.ntmps138 Tryz.results138 ?_
 (first|refine Br.od (fun h1=>?_) (fun h1=>?_)|refine Br.mk (fun h1=>?_) (fun h1=>?_)<;>simp [-List.length_eq_zero_iff,-List.getD_eq_getElem?_getD] at h1)<;>(try simp only [Int.toNat_natCast] at h1)<;>(conv=>whnf)
 ·refine Go0 ?_
  have he : newE zones size open_ act = 11 := by
   have : decide (1 ≤ zones ∧ zones ≤ 32) = false := by simp only [decide_eq_false_iff_not]; omega
   simp only [newE, this]; rfl
  have hd : newD zones size open_ act = dev0 := by simp only [newD, he]; rfl
  rw [he, hd]
  exact RM.imm rfl (wkS.t ⟨⟨wkC.imm rfl, wkC.imm rfl, wkC.imm rfl, wkC.nil rfl, trivial⟩, wkC.imm rfl, trivial⟩)
 ·refine Go0 ?_
  have hh : decide (1 ≤ zones ∧ zones ≤ 32) = true := by simp only [decide_eq_true_eq]; omega
  have hlen : zones.toNat = (List.replicate zones.toNat QbP).length := by simp
  have hfz : ∀ (x : Bool), leF (.isl 3 zones.toNat (Qbx [.int .i64 0, .int .i64 0, .nils]) x) (Qca (List.replicate zones.toNat QbP)) := fun x => leF.isl hlen (fun i hi j hj => QhT _ rfl _ i j hi hj) (fun e => by cases e)
  have hcells := fun i hi j hj => QhT _ rfl zones.toNat i j hi hj
  refine CallN.fzTo 1 rfl (Nat.zero_le _) (Qrx _ rfl _) (ts' := [(8, .c (.ptr 0 0)), (10, .c (.ptr 2 0))]) (args' := [(newX zones size open_ act).s]) (H' := [.vr [.int .i64 0, .int .i64 0, .int .i64 0, .nils], .dead, .vr (newX zones size open_ act).cells]) 3 rfl
   ⟨O.wk.vr (Qv rfl), trivial, O.wk.vr ⟨wkC.imm rfl, wkC.imm rfl, wkC.imm rfl, wkC.fz rfl hlen hcells (fun e => by cases e), trivial⟩, trivial⟩
   ⟨wkS.c (wkC.ptr (by decide)), wkS.c (wkC.ptr (by decide)), trivial⟩
   ⟨wkS.a ⟨wkC.imm rfl, wkC.imm rfl, wkC.imm rfl, wkC.fz rfl hlen hcells (fun e => by cases e), trivial⟩, trivial⟩ (Nat.zero_le _) ?_
  refine CallN.pure Qcq (Qcr (newX zones size open_ act) ) (leA.refl rfl) rfl (Go0 ?_)
  refine Br.of (fun h2=>Go0 ?_) (fun h2=>Go0 ?_)
  ·have he : newE zones size open_ act = check (newX zones size open_ act) := by simp only [newE, hh]; rfl
   have hd : newD zones size open_ act = dev0 := by simp only [newD, he]; rw [if_neg h2]
   rw [he, hd]
   exact RM.imm rfl (wkS.t ⟨⟨wkC.imm rfl, wkC.imm rfl, wkC.imm rfl, wkC.nil rfl, trivial⟩, wkC.imm rfl, trivial⟩)
  ·have he : newE zones size open_ act = 0 := by simp only [newE, hh]; exact h2
   have hd : newD zones size open_ act = newX zones size open_ act := by simp only [newD, he]; rfl
   rw [he, hd]
   exact RM.imm rfl (wkS.imm rfl)
theorem Qgt : HB 138 := hB Tryz.func138
theorem Qo0 (v : Int) (n : Nat) (i : Nat) (hi : i < n) (j : Nat) : QaK .i64 (List.replicate n v) i j = .int .i64 v := by
 simp [QaK, rowG, intC, List.getD, hi]
theorem Qni {n : Nat} {i : Nat} (hi : i < n) {j : Nat} (hj : j < 1) {z : List C} (hz : z = [.int .i64 0]) : Qbx z i j = QaK .i64 (List.replicate n 0) i j := by
 rw [Qo0 0 n i hi j]
 subst hz
 have : j = 0 := by omega
 subst this
 rfl
theorem Qg9 {α : Type} (x : α) (n : Int) : n.toNat = (List.replicate n.toNat x).length := by simp
theorem Qt5 {n : Nat} {i : Nat} : ((List.replicate n ([] : List Ent)).getD i default).length = 0 := by
 by_cases h : i < n
 ·simp [List.getD, h]
 ·simp [List.getD, h, Nat.le_of_not_lt h]; rfl
theorem Qkx (n : Int) (h1 : 1 ≤ n) (h2 : n ≤ 8) : PS 211 [.c (.int .i64 n)] (.t [.inr [QC (List.replicate n.toNat [])], .inl (.int .i64 0)]) := by
 refine PSpec.rm ?_
 refine ov0 hΓ Tryz.func211 14 0 [.cell 2 32, .tmp 3] Tryz.ntmps211 Tryz.results211 ?_
 (first|refine Br.od (fun h=>?_) (fun h=>?_)|refine Br.mk (fun h=>?_) (fun h=>?_)<;>simp [-List.length_eq_zero_iff,-List.getD_eq_getElem?_getD] at h)<;>(try simp only [Int.toNat_natCast] at h)<;>(conv=>whnf)
 ·omega
 ·refine Go0 ?_
  refine RM.fz 1 rfl (Nat.zero_le _) (fun i _ j hj => ?_) ?_
  ·have hj' : j < 1 := hj
   have : j = 0 := by omega
   subst this
   rfl
  refine RM.wkW ?_ ?_ (Nat.zero_le _)
  ·exact WH.nil
  ·refine WS.t (WTL.consL (WL.cons (WC.fz rfl (Qg9 _ _) (fun i _ j hj => ?_) (fun e => by cases e)) WL.nil) (WTL.consC (WC.imm rfl) WTL.nil))
   have hj' : j < 1 := hj
   have : j = 0 := by omega
   subst this
   exact leF.nil Qt5
theorem Qky : HB 211 := hB Tryz.func211
theorem Qi9 (n : Int) (h1 : 1 ≤ n) (h2 : n ≤ 32) : PS 212 [.c (.int .i64 n)] (.t [.inr [Qh (List.replicate n.toNat 0), Qh (List.replicate n.toNat 0)], .inl (.int .i64 0)]) := by
 refine PSpec.rm ?_
 refine ov0 hΓ Tryz.func212 16 0 [.cell 2 34, .tmp 3] Tryz.ntmps212 Tryz.results212 ?_
 (first|refine Br.od (fun h=>?_) (fun h=>?_)|refine Br.mk (fun h=>?_) (fun h=>?_)<;>simp [-List.length_eq_zero_iff,-List.getD_eq_getElem?_getD] at h)<;>(try simp only [Int.toNat_natCast] at h)<;>(conv=>whnf)
 ·omega
 ·refine Go0 ?_
  refine Dr.mkE hΓ hMix [4294967296] [] (by kernel_rfl) (Go0 ?_)
  refine RM.immW rfl ?_
  refine WS.t (WTL.consL (WL.cons (WC.leF rfl (leF.isl (Qg9 _ _) (fun i hi j hj => leF.of_eq (Qni hi hj rfl)) (fun e => by cases e))) (WL.cons (WC.leF rfl (leF.isl (Qg9 _ _) (fun i hi j hj => leF.of_eq (Qni hi hj rfl)) (fun e => by cases e))) WL.nil)) (WTL.consC (WC.imm rfl) WTL.nil))
theorem QiQ : HB 212 := hB Tryz.func212
def minG (k : Nat) : Nat → Nat → C := fun i _ => .int .i64 (if i < k then -1 else 0)
theorem QmR {i j : Nat} {z : List C} (hz : z = [.int .i64 0]) (hj : j < 1) : Qbx z i j = minG 0 i j := by
 subst hz
 have : j = 0 := by omega
 subst this
 rfl
theorem Qoz {k : Nat} {i j : Nat} (hj : j < 1) : updG (minG k) k 0 [.int .i64 (-1)] i j = minG (k + 1) i j := by
 rw [QX]
 unfold minG
 by_cases c : i = k
 ·subst c
  rw [if_pos ⟨rfl, by omega⟩, if_pos (by omega)]
 ·rw [if_neg (fun e => c e.1)]
  by_cases h : i < k
  ·rw [if_pos h, if_pos (by omega)]
  ·rw [if_neg h, if_neg (by omega)]
theorem QoY {n : Nat} {i j : Nat} (hi : i < n) : minG n i j = QaK .i64 (List.replicate n (-1)) i j := by
 rw [Qo0 (-1) n i hi j]
 unfold minG
 rw [if_pos hi]
theorem Qji (n : Int) (h1 : 1 ≤ n) (h2 : n ≤ 8) : PS 213 [.c (.int .i64 n)] (.t [.inr [Qh (List.replicate n.toNat (-1))], .inl (.int .i64 0)]) := by
 refine PSpec.rm ?_
 refine ov0 hΓ Tryz.func213 26 0 [.cell 2 36, .tmp 3] Tryz.ntmps213 Tryz.results213 ?_
 (first|refine Br.od (fun h=>?_) (fun h=>?_)|refine Br.mk (fun h=>?_) (fun h=>?_)<;>simp [-List.length_eq_zero_iff,-List.getD_eq_getElem?_getD] at h)<;>(try simp only [Int.toNat_natCast] at h)<;>(conv=>whnf)
 ·omega
 ·refine Go0 ?_
  refine Lp.mkK hΓ (ι := Nat) [0, 2, 4] (fun i => [(5, .c (.int .i64 i))]) (fun k => [.vr [.nils], .arr 3 1 n.toNat (minG k), .vr [.sl 1 1 n.toNat n.toNat true]]) (fun i => i ≤ n.toNat) (fun i => n.toNat - i) 0 (Nat.zero_le _) ?_ ?_
  ·refine Mv.k1 ?_
   exact fun i _ j hj => WC.eq (QmR rfl hj) rfl
  ·intro k hk
   refine Go0 ?_
   refine Br.of (fun h3=>Go0 ?_) (fun h3=>Go0 ?_)
   ·have w0 := Qa (↑k + 1) (by omega) (by omega)
    refine ⟨k + 1, by omega, by omega, ?_⟩
    refine Mv.k1 ?_
    exact fun i _ j hj => WC.eq (Qoz hj) rfl
   ·have : k = n.toNat := by omega
    subst this
    refine RM.rg 1 (g' := QaK .i64 (List.replicate n.toNat (-1))) rfl (fun i hi j hj => QoY hi) rfl ?_
    refine RM.fz 1 rfl (Nat.zero_le _) (fun _ _ _ _ => rfl) ?_
    refine RM.wkW ?_ ?_ (Nat.zero_le _)
    ·exact WH.nil
    ·refine WS.t (WTL.consL (WL.cons (WC.fz rfl (Qg9 _ _) (fun i hi j hj => leF.refl) (fun e => by cases e)) WL.nil) (WTL.consC (WC.imm rfl) WTL.nil))
theorem QiY : HB 213 := hB Tryz.func213
theorem QiR (n : Int) (h1 : 1 ≤ n) (h2 : n ≤ 4) : PS 214 [.c (.int .i64 n)] (.t [.inr [.int .i64 0, Qh (List.replicate n.toNat (-1)), retC []], .inl (.int .i64 0)]) := by
 refine PSpec.rm ?_
 refine ov0 hΓ Tryz.func214 26 0 [.cell 2 39, .tmp 3] Tryz.ntmps214 Tryz.results214 ?_
 (first|refine Br.od (fun h=>?_) (fun h=>?_)|refine Br.mk (fun h=>?_) (fun h=>?_)<;>simp [-List.length_eq_zero_iff,-List.getD_eq_getElem?_getD] at h)<;>(try simp only [Int.toNat_natCast] at h)<;>(conv=>whnf)
 ·omega
 ·refine Go0 ?_
  refine Lp.mkK hΓ (ι := Nat) [0, 2, 4] (fun i => [(5, .c (.int .i64 i))]) (fun k => [.vr [.int .i64 0, .nils, .nils], .arr 3 1 n.toNat (minG k), .vr [.int .i64 0, .sl 1 1 n.toNat n.toNat true, .nils]]) (fun i => i ≤ n.toNat) (fun i => n.toNat - i) 0 (Nat.zero_le _) ?_ ?_
  ·refine Mv.k1 ?_
   exact fun i _ j hj => WC.eq (QmR rfl hj) rfl
  ·intro k hk
   refine Go0 ?_
   refine Br.of (fun h3=>Go0 ?_) (fun h3=>Go0 ?_)
   ·have w0 := Qa (↑k + 1) (by omega) (by omega)
    refine ⟨k + 1, by omega, by omega, ?_⟩
    refine Mv.k1 ?_
    exact fun i _ j hj => WC.eq (Qoz hj) rfl
   ·have : k = n.toNat := by omega
    subst this
    refine RM.rg 1 (g' := QaK .i64 (List.replicate n.toNat (-1))) rfl (fun i hi j hj => QoY hi) rfl ?_
    refine RM.fz 1 rfl (Nat.zero_le _) (fun _ _ _ _ => rfl) ?_
    refine RM.wkW ?_ ?_ (Nat.zero_le _)
    ·exact WH.nil
    ·refine WS.t (WTL.consL (WL.cons (WC.imm rfl) (WL.cons (WC.fz rfl (Qg9 _ _) (fun i hi j hj => leF.refl) (fun e => by cases e)) (WL.cons (WC.nil rfl) WL.nil))) (WTL.consC (WC.imm rfl) WTL.nil))
theorem QjB : HB 214 := hB Tryz.func214
theorem Qh3 {l : List Int} {x : Int} {t : List C} {n i j : Nat} (hn : n = l.length) (hi : i < l.length + 1) (hj : j < 1) : appG (QaK .i64 l) n (QaE 1 (C.int .i64 x :: t)) i j = QaK .i64 (l ++ [x]) i j :=
 QeY (f := intC .i64) hn (fun j hj => by
  have : j = 0 := by omega
  subst this; rfl) hi hj
theorem Qjz (n : Int) (h1 : 1 ≤ n) (h2 : n ≤ 8) : PS 215 [.c (.int .i64 n)] (.t [.inr [.int .i64 n, reqC []], .inl (.int .i64 0)]) := by
 refine PSpec.rm ?_
 refine ov0 hΓ Tryz.func215 13 0 [.cell 2 164, .tmp 3] Tryz.ntmps215 Tryz.results215 ?_
 (first|refine Br.od (fun h=>?_) (fun h=>?_)|refine Br.mk (fun h=>?_) (fun h=>?_)<;>simp [-List.length_eq_zero_iff,-List.getD_eq_getElem?_getD] at h)<;>(try simp only [Int.toNat_natCast] at h)<;>(conv=>whnf)
 ·omega
 ·refine Go0 ?_
  exact RM.i0
theorem Qi3 : HB 215 := hB Tryz.func215
def QcU (l : List Req) (k : Nat) : Prop := ∀ i, i < k → 0 ≤ (l.getD i default).serial ∧ (0 < i → (l.getD (i - 1) default).serial < (l.getD i default).serial)
def QfJ (l : List Req) (k : Nat) : Int := if k = 0 then -1 else (l.getD (k - 1) default).serial
theorem ringOk_iff {r : Rng} : QbH r = true ↔ (1 ≤ r.depth ∧ r.depth ≤ 8 ∧ (r.items.length : Int) ≤ r.depth) ∧ QcU r.items r.items.length := by
 unfold QbH QcU
 rw [Bool.and_eq_true, decide_eq_true_eq, decide_eq_true_eq]
theorem Qq {b : Bool} (h : ¬ b = true) : b = false := by cases b; rfl; exact absurd rfl h
theorem QsM {l : List Req} {k : Nat} (h : QcU l k) : -1 ≤ QfJ l k := by
 unfold QfJ
 split
 ·omega
 ·have := (h (k - 1) (by omega)).1; omega
theorem Qoa {l : List Req} {k : Nat} (h : QcU l k) (hk : QfJ l k < (l.getD k default).serial) : QcU l (k + 1) := by
 refine Q0 h ⟨?_, fun h0 => ?_⟩
 ·have := QsM h; omega
 ·unfold QfJ at hk
  rw [if_neg (by omega)] at hk
  exact hk
theorem QrD {l : List Req} {k : Nat} (hk : k < l.length) (h : (l.getD k default).serial ≤ QfJ l k) : ¬ QcU l l.length := fun e => by
 have := e k hk
 unfold QfJ at h
 split at h
 ·omega
 ·have := this.2 (by omega); omega
theorem QjZ (r : Rng) (hr : r.items.length ≤ 1000000) : PS 221 [.a r.cells] (.c (.bool (QbH r))) := by
 refine PSpec.rm ?_
 refine ov0 hΓ Tryz.func221 36 0 [.tmp 2] Tryz.ntmps221 Tryz.results221 ?_
 (first|refine Br.od (fun h=>?_) (fun h=>?_)|refine Br.mk (fun h=>?_) (fun h=>?_)<;>simp [-List.length_eq_zero_iff,-List.getD_eq_getElem?_getD] at h)<;>(try simp only [Int.toNat_natCast] at h)<;>(conv=>whnf)
 ·rw [Qq (fun e => by have := (ringOk_iff.1 e).1; omega : ¬ QbH r = true)]
  exact RM.i0
 ·refine Go1 fun _h=>?_
  refine Lp.mkK hΓ (ι := Nat) [23, 24] (fun k => [(25, .c (.int .i64 k)), (3, .c (.int .i64 (QfJ r.items k)))]) (fun _ => [.vr r.cells]) (fun k => k ≤ r.items.length ∧ QcU r.items k) (fun k => r.items.length - k) 0 ⟨Nat.zero_le _, fun i hi => absurd hi (Nat.not_lt_zero _)⟩ ?_ ?_
  ·exact Mv.k0
  ·rintro k ⟨hk, hk2⟩
   refine Go0 ?_
   refine Br.of (fun h2=>?_) (fun h2=>?_)<;>(try simp only [Int.toNat_natCast] at h2)<;>refine Go0 ?_
   ·refine Br.of (fun h3=>?_) (fun h3=>?_)<;>(try simp only [Int.toNat_natCast] at h3)<;>refine Go0 ?_
    ·rw [Qq (fun e => QrD (by omega) h3 (ringOk_iff.1 e).2 : ¬ QbH r = true)]
     exact RM.i0
    ·have w0 := Qa (↑k + 1) (by omega) (by omega)
     refine ⟨k + 1, ⟨by omega, Qoa hk2 (by omega)⟩, by omega, ?_⟩
     exact Mv.k0
   ·have : k = r.items.length := by omega
    subst this
    rw [ringOk_iff.2 ⟨by omega, hk2⟩]
    exact RM.i0
theorem Qj4 : HB 221 := hB Tryz.func221
def QbC (c : Conf) (k : Nat) : List Int := (List.range k).map fun i => 2 * Qz c + (i : Nat)
theorem QbT (c : Conf) (k : Nat) : (QbC c k).length = k := by simp [QbC]
theorem Qhw (c : Conf) (k : Nat) : QbC c (k + 1) = QbC c k ++ [2 * Qz c + (k : Nat)] := by simp [QbC, List.range_succ]
def Qs (c : Conf) : St := ⟨c, newD c.zones c.size 3 3, List.replicate c.shards.toNat [], List.replicate c.zones.toNat 0, List.replicate c.zones.toNat 0, List.replicate c.shards.toNat (-1), 0, List.replicate c.queues.toNat (-1), [], QbC c (Qp c).toNat, -1, -1,
 List.replicate c.queues.toNat ⟨c.depth, []⟩, List.replicate c.queues.toNat default, default, default, 1, 0, 0, -1, false, false, []⟩
theorem Qhk {c : Conf} (h : QB c = 0) : newE c.zones c.size 3 3 = 0 := by
 obtain ⟨hr, hd, _⟩ := QR h
 have hs := Qak hr
 rw [confR_iff] at hr
 unfold Qp at hd
 unfold newE
 rw [if_pos (by simp; omega)]
 refine check_ok.2 ⟨?_, ?_, ?_, ?_⟩
 ·simp only [Qbg, newX, decide_eq_true_eq, List.length_replicate]
  omega
 ·intro z hz
  simp only [newX, List.mem_replicate] at hz
  rw [hz.2]
  simp only [right, newX, QbP, QbX, Bool.and_eq_true, decide_eq_true_eq]
  refine ⟨?_, rfl⟩
  simp
  omega
 ·have : QH (newX c.zones c.size 3 3).zones = 0 := by simp [QH, newX, QbP, QF]
  rw [this]; simp [newX]
 ·have : Qi (newX c.zones c.size 3 3).zones = 0 := by simp [Qi, newX, QbP, QP]
  rw [this]; simp [newX]
theorem Qs5 {α : Type} (n i : Nat) (d : α) : (List.replicate n d).getD i d = d := by
 by_cases h : i < n
 ·simp [List.getD, h]
 ·simp [List.getD, h, Nat.le_of_not_lt h]
theorem QoN {n : Nat} {z : List C} (hz : z = (default : Wrk).cells) {i j : Nat} (hj : j < 12) : Qbx z i j = wrkG (List.replicate n default) i j := by
 subst hz
 simp only [wrkG, rowG, Qs5, Qbx]
 match j, hj with
 | 0, _ => rfl
 | 1, _ => rfl
 | 2, _ => rfl
 | 3, _ => rfl
 | 4, _ => rfl
 | 5, _ => rfl
 | 6, _ => rfl
 | 7, _ => rfl
 | 8, _ => rfl
 | 9, _ => rfl
 | 10, _ => rfl
 | 11, _ => rfl
theorem QsR {ρ : Nat → Nat} {m : Nat} {n : Nat} {z : List C} {t : Bool} (hz : z = (default : Wrk).cells) : WC ρ m (.isl 12 n (Qbx z) t) (wrkC (List.replicate n default)) :=
 WC.leF rfl (leF.isl (by simp) (fun i _ j hj => leF.of_eq (QoN hz hj)) (fun e => by cases e))
theorem Qot {l : List Rng} {x : Rng} {t : List C} {n i j : Nat} (hn : n = l.length) (hi : i < l.length + 1) (hj : j < 2) : appG (rngG l) n (QaE 2 (C.int .i64 x.depth :: reqC x.items :: t)) i j = rngG (l ++ [x]) i j :=
 QeY (f := Rng.cell) hn (fun j hj => by
  match j, hj with
  | 0, _ => rfl
  | 1, _ => rfl) hi hj
end Go.Proofs
end
