/- Contracts, lemmas; no condition. -/
import Derived.Test.YtkelkepdcfogaaaGreatP17D
import Derived.Test.YtkelkepdcfogaaaGreatEnvD
import Derived.Test.YtkelkepdcfogaaaGreatP16D
import Derived.Test.YtkelkepdcfogaaaGreatP11D
set_option linter.all false
section
open Go Go.Am
namespace Go.Proofs
set_option maxRecDepth 20000
theorem Qrn {x y a b : Int} (h1 : -a ≤ x) (h2 : x ≤ a) (h3 : 0 ≤ y) (h4 : y ≤ b) : -(a * b) ≤ x * y ∧ x * y ≤ a * b := by
 have ha : 0 ≤ a := by omega
 have e1 : x * y ≤ a * y := Int.mul_le_mul_of_nonneg_right h2 h3
 have e2 : a * y ≤ a * b := Int.mul_le_mul_of_nonneg_left h4 ha
 have e3 : (-a) * y ≤ x * y := Int.mul_le_mul_of_nonneg_right h1 h3
 have e4 : -(a * b) ≤ -a * y := by rw [Int.neg_mul]; omega
 exact ⟨by omega, by omega⟩
theorem Qgj {c : Conf} (h : Qbr c = true) : -300 ≤ Qan c ∧ Qan c ≤ 32 := by
 have := Qav h
 rw [confR_iff] at h
 unfold Qan
 omega
theorem Qk7 {c : Conf} (h : Qbr c = true) : -20000 ≤ (Qan c - 3) * (c.size - 1) ∧ (Qan c - 3) * (c.size - 1) ≤ 20000 := by
 have h1 := Qgj h
 rw [confR_iff] at h
 have := Qrn (x := Qan c - 3) (y := c.size - 1) (a := 303) (b := 63) (by omega) (by omega) (by omega) (by omega)
 omega
def Lay.cells (c : Conf) : List C := [.int .i64 (Qi c), .int .i64 (2 * Qi c), .int .i64 (Qan c), .int .i64 (capN c)]
theorem QkJ {c : Conf} (h : Qbr c = true) : IntKind.i64.wrap ((IntKind.i64.wrap (IntKind.i64.wrap (IntKind.i64.wrap (c.blocks + 2) + c.size) - 1)).tdiv c.size) = Qi c := by
 have hr := confR_iff.1 h
 have hs := Qav h
 rw [Qa (c.blocks + 2) (by omega) (by omega), Qa (c.blocks + 2 + c.size) (by omega) (by omega), Qa (c.blocks + 2 + c.size - 1) (by omega) (by omega)]
 exact Qa _ (by unfold Qi at hs; omega) (by unfold Qi at hs; omega)
theorem QeV {c : Conf} (h : Qbr c = true) : IntKind.i64.wrap (c.zones - IntKind.i64.wrap (2 * Qi c)) = Qan c := by
 have hr := confR_iff.1 h
 have hs := Qav h
 rw [Qa (2 * Qi c) (by omega) (by omega)]
 exact Qa _ (by omega) (by omega)
theorem Qni {c : Conf} (h : Qbr c = true) : IntKind.i64.wrap (IntKind.i64.wrap (IntKind.i64.wrap (IntKind.i64.wrap (Qan c - 3) * IntKind.i64.wrap (c.size - 1)) - c.queues) - 1) = capN c := by
 have hr := confR_iff.1 h
 have hd := Qgj h
 have hc := Qk7 h
 rw [Qa (Qan c - 3) (by omega) (by omega), Qa (c.size - 1) (by omega) (by omega), Qa ((Qan c - 3) * (c.size - 1)) (by omega) (by omega), Qa ((Qan c - 3) * (c.size - 1) - c.queues) (by omega) (by omega)]
 exact Qa ((Qan c - 3) * (c.size - 1) - c.queues - 1) (by omega) (by omega)
theorem Qjn (c : Conf) (h : Qbr c = true) : PS 80 [.a c.cells] (.a (Lay.cells c)) := by
 refine PSpec.rm ?_
 have hr := confR_iff.1 h
 have hs := Qav h
 have hd := Qgj h
 have hc := Qk7 h
 refine ov0 hΓ Tryz.func80 37 0 [.cell 2 85] Tryz.ntmps80 Tryz.results80 ?_
 refine RM.immW rfl ?_;(first|exact wb0|refine wb1 ?_|refine wb2 ?_ ?_|refine wb3 ?_ ?_ ?_|refine wb4 ?_ ?_ ?_ ?_)
 all_goals rw [QkJ h]
 ·have hs := Qav h
  exact Qa _ (by omega) (by omega)
 ·exact QeV h
 ·rw [QeV h]; exact Qni h
theorem Qjp : HB 80 := hB Tryz.func80
theorem QfV (c : Conf) (h : Qbr c = true) : PS 67 [.a c.cells] (.a (Lay.cells c)) := by
 refine PSpec.rm ?_
 have hr := confR_iff.1 h
 refine ov0 hΓ Tryz.func67 35 0 [.cell 2 85] Tryz.ntmps67 Tryz.results67 ?_
 refine RM.immW rfl ?_;(first|exact wb0|refine wb1 ?_|refine wb2 ?_ ?_|refine wb3 ?_ ?_ ?_|refine wb4 ?_ ?_ ?_ ?_)
 all_goals rw [QkJ h]
 ·have hs := Qav h
  exact Qa _ (by omega) (by omega)
 ·exact QeV h
 ·rw [QeV h]; exact Qni h
theorem Qf7 : HB 67 := hB Tryz.func67
theorem QcS (c : Conf) : PS 52 [.a c.cells] (.c (.int .i64 (Qn c))) := by
 refine PSpec.rm ?_
 refine ov0 hΓ Tryz.func52 72 0 [.tmp 2] Tryz.ntmps52 Tryz.results52 ?_
 (first|refine Br.od (fun h=>?_) (fun h=>?_)|refine Br.mk (fun h=>?_) (fun h=>?_)<;>simp [-List.length_eq_zero_iff,-List.getD_eq_getElem?_getD] at h)<;>(try simp only [Int.toNat_natCast] at h)<;>(conv=>whnf)
 ·have hn : Qn c = 1 := by
   unfold Qn
   rw [if_neg]
   intro e
   have := confR_iff.1 e
   omega
  rw [hn]
  exact RM.i0
 ·have hr : Qbr c = true := confR_iff.2 (by omega)
  refine CallN.pureA Qf7 (QfV c hr ) (Go0 ?_)
  (first|refine Br.od (fun h2=>?_) (fun h2=>?_)|refine Br.mk (fun h2=>?_) (fun h2=>?_)<;>simp [-List.length_eq_zero_iff,-List.getD_eq_getElem?_getD] at h2)<;>(try simp only [Int.toNat_natCast] at h2)<;>(conv=>whnf)
  ·refine Go0 ?_
   rw [show Qn c = 11 by unfold Qn; rw [if_pos hr, if_pos h2]]
   exact RM.i0
  ·refine Go0 ?_
   rw [show Qn c = 0 by unfold Qn; rw [if_pos hr, if_neg (by omega)]]
   exact RM.i0
theorem QcR : HB 52 := hB Tryz.func52
theorem Qfo (c : Conf) : PS 41 [.a c.cells] (.c (.int .i64 (Qn c))) := by
 refine PSpec.rm ?_
 refine ov hΓ Tryz.func41 55 0 [.tmp 2] Tryz.ntmps41 Tryz.results41 ?_
 have bad : ¬ Qbr c = true → Qn c = 1 := fun e => by unfold Qn; rw [if_neg e]
 refine Go0 ?_
 refine Lp.roll hΓ 7 (Go0 ?_)
 refine Br.yes rfl (Go0 ?_)
 (first|refine Br.od (fun h0=>?_) (fun h0=>?_)|refine Br.mk (fun h0=>?_) (fun h0=>?_)<;>simp [-List.length_eq_zero_iff,-List.getD_eq_getElem?_getD] at h0)<;>(try simp only [Int.toNat_natCast] at h0)<;>(conv=>whnf)
 ·refine Go0 ?_
  rw [bad (fun e => by have := confR_iff.1 e; omega)]
  exact RM.i0
 ·refine Go0 ?_
  refine Br.yes rfl (Go0 ?_)
  (first|refine Br.od (fun h1=>?_) (fun h1=>?_)|refine Br.mk (fun h1=>?_) (fun h1=>?_)<;>simp [-List.length_eq_zero_iff,-List.getD_eq_getElem?_getD] at h1)<;>(try simp only [Int.toNat_natCast] at h1)<;>(conv=>whnf)
  ·refine Go0 ?_
   rw [bad (fun e => by have := confR_iff.1 e; omega)]
   exact RM.i0
  ·refine Go0 ?_
   refine Br.yes rfl (Go0 ?_)
   (first|refine Br.od (fun h2=>?_) (fun h2=>?_)|refine Br.mk (fun h2=>?_) (fun h2=>?_)<;>simp [-List.length_eq_zero_iff,-List.getD_eq_getElem?_getD] at h2)<;>(try simp only [Int.toNat_natCast] at h2)<;>(conv=>whnf)
   ·refine Go0 ?_
    rw [bad (fun e => by have := confR_iff.1 e; omega)]
    exact RM.i0
   ·refine Go0 ?_
    refine Br.yes rfl (Go0 ?_)
    (first|refine Br.od (fun h3=>?_) (fun h3=>?_)|refine Br.mk (fun h3=>?_) (fun h3=>?_)<;>simp [-List.length_eq_zero_iff,-List.getD_eq_getElem?_getD] at h3)<;>(try simp only [Int.toNat_natCast] at h3)<;>(conv=>whnf)
    ·refine Go0 ?_
     rw [bad (fun e => by have := confR_iff.1 e; omega)]
     exact RM.i0
    ·refine Go0 ?_
     refine Br.yes rfl (Go0 ?_)
     (first|refine Br.od (fun h4=>?_) (fun h4=>?_)|refine Br.mk (fun h4=>?_) (fun h4=>?_)<;>simp [-List.length_eq_zero_iff,-List.getD_eq_getElem?_getD] at h4)<;>(try simp only [Int.toNat_natCast] at h4)<;>(conv=>whnf)
     ·refine Go0 ?_
      rw [bad (fun e => by have := confR_iff.1 e; omega)]
      exact RM.i0
     ·refine Go0 ?_
      refine Br.yes rfl (Go0 ?_)
      (first|refine Br.od (fun h5=>?_) (fun h5=>?_)|refine Br.mk (fun h5=>?_) (fun h5=>?_)<;>simp [-List.length_eq_zero_iff,-List.getD_eq_getElem?_getD] at h5)<;>(try simp only [Int.toNat_natCast] at h5)<;>(conv=>whnf)
      ·refine Go0 ?_
       rw [bad (fun e => by have := confR_iff.1 e; omega)]
       exact RM.i0
      ·refine Go0 ?_
       refine Br.no rfl (Go0 ?_)
       have hr : Qbr c = true := confR_iff.2 (by omega)
       refine CallN.pureA Qjp (Qjn c hr ) (Go0 ?_)
       (first|refine Br.od (fun h9=>?_) (fun h9=>?_)|refine Br.mk (fun h9=>?_) (fun h9=>?_)<;>simp [-List.length_eq_zero_iff,-List.getD_eq_getElem?_getD] at h9)<;>(try simp only [Int.toNat_natCast] at h9)<;>(conv=>whnf)
       ·refine Go0 ?_
        rw [show Qn c = 11 by unfold Qn; rw [if_pos hr, if_pos h9]]
        exact RM.i0
       ·refine Go0 ?_
        rw [show Qn c = 0 by unfold Qn; rw [if_pos hr, if_neg (by omega)]]
        exact RM.i0
theorem Qfl : HB 41 := hB Tryz.func41
def layM (c : Conf) : List C := if Qn c = 0 then Lay.cells c else [.int .i64 0, .int .i64 0, .int .i64 0, .int .i64 0]
theorem QiF {c : Conf} (h : Qn c = 0) : layM c = Lay.cells c := if_pos h
theorem QnP {c : Conf} (h : Qn c ≠ 0) : layM c = [.int .i64 0, .int .i64 0, .int .i64 0, .int .i64 0] := if_neg h
theorem Qnb (c : Conf) : PS 115 [.a c.cells] (.t [.inr (layM c), .inl (.int .i64 (Qn c))]) := by
 refine PSpec.rm ?_
 refine ov0 hΓ Tryz.func115 13 0 [.cell 2 85, .tmp 3] Tryz.ntmps115 Tryz.results115 ?_
 refine CallN.pureA Qfl (Qfo c ) (Go0 ?_)
 refine Br.of (fun h=>Go0 ?_) (fun h=>Go0 ?_)
 ·rw [QnP h]
  exact RM.i0
 ·have h0 : Qn c = 0 := by omega
  refine CallN.pureA Qjp (Qjn c (Qay h0).1 ) (Go0 ?_)
  rw [QiF h0, h0]
  exact RM.i0
theorem Qtr (c : Conf) : PS 30 [.a c.cells] (.t [.inr (layM c), .inl (.int .i64 (Qn c))]) := by
 refine PSpec.rm ?_
 refine ov0 hΓ Tryz.func30 13 0 [.cell 2 85, .tmp 3] Tryz.ntmps30 Tryz.results30 ?_
 refine CallN.pureA QcR (QcS c ) (Go0 ?_)
 refine Br.of (fun h=>Go0 ?_) (fun h=>Go0 ?_)
 ·rw [QnP h]
  exact RM.i0
 ·have h0 : Qn c = 0 := by omega
  refine CallN.pureA Qf7 (QfV c (Qay h0).1 ) (Go0 ?_)
  rw [QiF h0, h0]
  exact RM.i0
theorem Qjl (c : Conf) (h : Qn c = 0) : PS 115 [.a c.cells] (.t [.inr (Lay.cells c), .inl (.int .i64 0)]) := by
 have := Qnb c
 rwa [QiF h, h] at this
theorem QjC : HB 115 := hB Tryz.func115
theorem QqA (c : Conf) (h : Qn c ≠ 0) : PS 115 [.a c.cells] (.t [.inr [.int .i64 0, .int .i64 0, .int .i64 0, .int .i64 0], .inl (.int .i64 (Qn c))]) := by
 have := Qnb c
 rwa [QnP h] at this
theorem Qrj : HB 115 := hB Tryz.func115
theorem QqG (c : Conf) (h : Qn c = 0) : PS 30 [.a c.cells] (.t [.inr (Lay.cells c), .inl (.int .i64 0)]) := by
 have := Qtr c
 rwa [QiF h, h] at this
theorem Qqk : HB 30 := hB Tryz.func30
theorem QnL (c : Conf) (z : Int) : PS 83 [.a c.cells, .c (.int .i64 z)] (.c (.bool (QaS c z))) := by
 refine PSpec.rm ?_
 refine ov0 hΓ Tryz.func83 26 0 [.tmp 4] Tryz.ntmps83 Tryz.results83 ?_
 by_cases h : Qn c = 0
 ·refine CallN.pureA QjC (Qjl c h ) (Go0 ?_)
  refine RM.i1 ?_
  unfold QaS
  by_cases h1 : 2 * Qi c ≤ z <;> simp [h, h1]
 ·refine CallN.pureA Qrj (QqA c h ) (Go0 ?_)
  refine RM.i1 ?_
  unfold QaS
  simp [h]
theorem Qmk : HB 83 := hB Tryz.func83
theorem QmI (c : Conf) (z : Int) : PS 61 [.a c.cells, .c (.int .i64 z)] (.c (.bool (QaS c z))) := by
 refine PSpec.rm ?_
 refine ov0 hΓ Tryz.func61 21 0 [.tmp 4] Tryz.ntmps61 Tryz.results61 ?_
 refine CallN.pureA QcR (QcS c ) (Go0 ?_)
 refine CallG.auto Qf7 (fun hg => QfV c (Qay (of_decide_eq_true hg)).1) (Go0 ?_)
 refine RM.i1 ?_
 unfold QaS
 by_cases h : Qn c = 0
 ·by_cases h1 : 2 * Qi c ≤ z <;> simp [h, h1]
 ·simp [h]
theorem QnC : HB 61 := hB Tryz.func61
theorem QoF (n : Int) : PS 114 [.c (.int .i64 n)] (.c (.bool (Qt n))) := by
  refine ov0 hΓ Tryz.func114 9 0 [.tmp 2] Tryz.ntmps114 Tryz.results114 ?_
  simp only [S.c.injEq, C.bool.injEq, Qt]
  rw [Bool.eq_iff_iff]
  simp
theorem Qpg : HB 114 := hB Tryz.func114
theorem Qpk (d : Dev) : PS 82 [d.s] (.t [.inl (.int .i64 (QL d.zones)), .inl (.int .i64 (Qm d.zones))]) := by
  refine ov hΓ Tryz.func82 30 0 [.tmp 2, .tmp 3] Tryz.ntmps82 Tryz.results82 ?_
  refine Go1 fun _h=>?_
  refine Lp.mk hΓ (ι := Nat) (fun k => [(9, .c (.int .i64 k)), (2, .c (.int .i64 (QL (d.zones.take k)))), (3, .c (.int .i64 (Qm (d.zones.take k)))), (7, .c (Qdl d.zones)), (8, .c (.int .i64 d.zones.length))])
    (fun _ => []) (fun k => k ≤ d.zones.length) (fun k => d.zones.length - k) 0 (Nat.zero_le _) ?_ ?_
  · refine Mv.mk' 0 rfl trivial ?_ (Nat.le_refl _)
    exact ⟨wkS.imm rfl, wkS.imm rfl, wkS.imm rfl, wkS.imm rfl, wkS.imm rfl, trivial⟩
  · intro k hk
    refine Go0 ?_
    refine Br.of (fun h=>Go0 ?_) (fun h=>Go0 ?_)
    · refine CallN.pure Qpg (QoF _ ) (leA.refl rfl) rfl (Go0 ?_)
      have hlt : k < d.zones.length := by omega
      have e1 := Qg4 d.zones k hlt
      have e2 := QfL d.zones k hlt
      have l1 := Qi8 (d.zones.take (k + 1))
      have l2 := Qg8 (d.zones.take (k + 1))
      have l3 : (d.zones.take (k + 1)).length ≤ d.zones.length := by simp; omega
      have w0 := Qa (↑k + 1) (by omega) (by omega)
      refine Br.of (fun ho=>Go0 ?_) (fun ho=>Go0 ?_)
      · have ha : QN (d.zones.getD k default).state = true := by
          try simp only [Int.toNat_natCast] at ho
          simp only [Qt, QN, decide_eq_true_eq] at ho ⊢; omega
        try simp only [Int.toNat_natCast] at ho
        rw [ho] at e1
        rw [ha] at e2
        have w1 := Qa (↑(QL (d.zones.take k)) + 1) (by omega) (by simp at e1; omega)
        have w2 := Qa (↑(Qm (d.zones.take k)) + 1) (by omega) (by simp at e2; omega)
        refine ⟨k + 1, by omega, by omega, Mv.mk' 0 rfl trivial ⟨wkS.c (wkC.int (by rw [w0]; rfl)), wkS.c (wkC.int (by rw [w1, e1]; rfl)), wkS.c (wkC.int (by rw [w2, e2]; rfl)), wkS.imm rfl, wkS.imm rfl, trivial⟩ (Nat.le_refl _)⟩
      · try simp only [Int.toNat_natCast] at ho
        rw [ho] at e1
        refine Br.of (fun hc=>Go0 ?_) (fun hc=>Go0 ?_)
        · try simp only [Int.toNat_natCast] at hc
          have ha : QN (d.zones.getD k default).state = true := by simp only [QN, decide_eq_true_eq]; omega
          rw [ha] at e2
          have w2 := Qa (↑(Qm (d.zones.take k)) + 1) (by omega) (by simp at e2; omega)
          refine ⟨k + 1, by omega, by omega, Mv.mk' 0 rfl trivial ⟨wkS.c (wkC.int (by rw [w0]; rfl)), wkS.c (wkC.int (by rw [e1]; rfl)), wkS.c (wkC.int (by rw [w2, e2]; rfl)), wkS.imm rfl, wkS.imm rfl, trivial⟩ (Nat.le_refl _)⟩
        · try simp only [Int.toNat_natCast] at hc
          have ha : QN (d.zones.getD k default).state = false := by
            simp only [Qt, decide_eq_false_iff_not] at ho
            simp only [QN, decide_eq_false_iff_not]; omega
          rw [ha] at e2
          refine ⟨k + 1, by omega, by omega, Mv.mk' 0 rfl trivial ⟨wkS.c (wkC.int (by rw [w0]; rfl)), wkS.c (wkC.int (by rw [e1]; rfl)), wkS.c (wkC.int (by rw [e2]; rfl)), wkS.imm rfl, wkS.imm rfl, trivial⟩ (Nat.le_refl _)⟩
    · have : k = d.zones.length := by omega
      subst this
      simp
theorem Qoq : HB 82 := hB Tryz.func82
theorem QqT (z : Zone) (size : Int) (hs : 3 ≤ size) : PS 81 [z.s, .c (.int .i64 size)] (.c (.bool (right z size))) := by
  have F : ∀ (b : Bool), right z size = b → (S.c (C.bool b) = S.c (.bool (right z size))) := fun b h => by rw [h]
  refine ov hΓ Tryz.func81 78 0 [.tmp 4] Tryz.ntmps81 Tryz.results81 ?_
  refine Go1 fun _h=>?_
  (first|refine Br.od (fun h1=>?_) (fun h1=>?_)|refine Br.mk (fun h1=>?_) (fun h1=>?_)<;>simp [-List.length_eq_zero_iff,-List.getD_eq_getElem?_getD] at h1)<;>(try simp only [Int.toNat_natCast] at h1)<;>(conv=>whnf)
  · refine Go0 ?_
    refine F _ ?_
    simp only [right, Bool.and_eq_false_iff, decide_eq_false_iff_not]; left; omega
  · refine Go0 ?_
    (first|refine Br.od (fun h2=>?_) (fun h2=>?_)|refine Br.mk (fun h2=>?_) (fun h2=>?_)<;>simp [-List.length_eq_zero_iff,-List.getD_eq_getElem?_getD] at h2)<;>(try simp only [Int.toNat_natCast] at h2)<;>(conv=>whnf)
    · refine Go0 ?_
      refine F _ ?_
      simp only [right, Bool.and_eq_false_iff, decide_eq_false_iff_not]; left; omega
    · refine Go0 ?_
      (first|refine Br.od (fun h3=>?_) (fun h3=>?_)|refine Br.mk (fun h3=>?_) (fun h3=>?_)<;>simp [-List.length_eq_zero_iff,-List.getD_eq_getElem?_getD] at h3)<;>(try simp only [Int.toNat_natCast] at h3)<;>(conv=>whnf)
      · refine Go0 ?_
        refine F _ ?_
        simp only [right, Bool.and_eq_false_iff, decide_eq_false_iff_not]; left; omega
      · refine Go0 ?_
        (first|refine Br.od (fun h4=>?_) (fun h4=>?_)|refine Br.mk (fun h4=>?_) (fun h4=>?_)<;>simp [-List.length_eq_zero_iff,-List.getD_eq_getElem?_getD] at h4)<;>(try simp only [Int.toNat_natCast] at h4)<;>(conv=>whnf)
        · refine Go0 ?_
          refine F _ ?_
          simp only [right, Bool.and_eq_false_iff, decide_eq_false_iff_not]; left; omega
        · refine Go0 ?_
          (first|refine Br.od (fun h5=>?_) (fun h5=>?_)|refine Br.mk (fun h5=>?_) (fun h5=>?_)<;>simp [-List.length_eq_zero_iff,-List.getD_eq_getElem?_getD] at h5)<;>(try simp only [Int.toNat_natCast] at h5)<;>(conv=>whnf)
          · refine Go0 ?_
            refine F _ ?_
            simp only [right, Bool.and_eq_false_iff, decide_eq_false_iff_not]; left; omega
          · refine Go1 fun _h=>?_
            have hP : right z size = Qcv z.sectors := by
              have : decide (0 ≤ z.state ∧ z.state ≤ 5 ∧ (z.sectors.length : Int) ≤ size ∧ 0 ≤ z.durable ∧ z.durable ≤ z.sectors.length ∧ (z.state = 0 ∨ z.state = 5 → z.sectors.length = 0) ∧ (z.state = 4 → z.durable = z.sectors.length) ∧
    (z.state ≠ 0 → z.state ≠ 4 → z.state ≠ 5 → (z.sectors.length : Int) < size)) = true := by simp only [decide_eq_true_eq]; omega
              simp only [right, this, Bool.true_and]
            refine Lp.mk hΓ (ι := Nat) (fun k => [(70, .c (.int .i64 k)), (69, .c (.int .i64 z.sectors.length)), (68, .c (Qbq z.sectors))]) (fun _ => []) (fun k => k ≤ z.sectors.length ∧ Qcv (z.sectors.take k) = true) (fun k => z.sectors.length - k) 0 ⟨Nat.zero_le _, rfl⟩ ?_ ?_
            · exact Mv.mk' 0 rfl trivial ⟨wkS.imm rfl, wkS.imm rfl, wkS.imm rfl, trivial⟩ (Nat.le_refl _)
            · rintro k ⟨hk, hk2⟩
              refine Go0 ?_
              refine Br.of (fun h=>Go1 fun _h=>?_) (fun h=>Go0 ?_)
              · have hlt : k < z.sectors.length := by omega
                (first|refine Br.od (fun h6=>?_) (fun h6=>?_)|refine Br.mk (fun h6=>?_) (fun h6=>?_)<;>simp [-List.length_eq_zero_iff,-List.getD_eq_getElem?_getD] at h6)<;>(try simp only [Int.toNat_natCast] at h6)<;>(conv=>whnf)
                · refine Go0 ?_
                  refine F _ ?_
                  rw [hP]
                  exact QiN _ k hlt (by simp at h6 ⊢; omega)
                · refine Go0 ?_
                  have w0 := Qa (↑k + 1) (by omega) (by omega)
                  refine ⟨k + 1, ⟨by omega, ?_⟩, by omega, Mv.mk' 0 rfl trivial ⟨wkS.c (wkC.int (by rw [w0]; rfl)), wkS.imm rfl, wkS.imm rfl, trivial⟩ (Nat.le_refl _)⟩
                  rw [Qh7 _ _ hlt, hk2]
                  simp at h6 ⊢; omega
              · have : k = z.sectors.length := by omega
                subst this
                refine F _ ?_
                rw [hP]
                simpa using hk2
theorem Qq7 : HB 81 := hB Tryz.func81
theorem Qrl (d : Dev) : PS 42 [d.s] (.c (.int .i64 (check d))) := by
  refine ov hΓ Tryz.func42 75 0 [.tmp 2] Tryz.ntmps42 Tryz.results42 ?_
  refine Go1 fun _h=>?_
  (first|refine Br.od (fun h1=>?_) (fun h1=>?_)|refine Br.mk (fun h1=>?_) (fun h1=>?_)<;>simp [-List.length_eq_zero_iff,-List.getD_eq_getElem?_getD] at h1)<;>(try simp only [Int.toNat_natCast] at h1)<;>(conv=>whnf)
  · refine Go0 ?_
    have : Qb1 d = false := by simp only [Qb1, decide_eq_false_iff_not]; omega
    simp only [check, this]; rfl
  · refine Go1 fun _h=>?_
    have hc : Qb1 d = true := by simp only [Qb1, decide_eq_true_eq]; omega
    refine Lp.mk hΓ (ι := Nat) (fun k => [(50, .c (.int .i64 k)), (49, .c (.int .i64 d.zones.length)), (48, .c (Qdl d.zones)), (1, .c (.ptr 0 0))])
      (fun _ => [.vr [.int .i64 d.size, .int .i64 d.maxOpen, .int .i64 d.maxActive, Qdl d.zones]]) (fun k => k ≤ d.zones.length ∧ (d.zones.take k).all (fun z => Am.right z d.size) = true) (fun k => d.zones.length - k) 0 ⟨Nat.zero_le _, rfl⟩ ?_ ?_
    · exact Mv.mk' 1 rfl ⟨O.wk.vr (Qs rfl), trivial⟩ ⟨wkS.imm rfl, wkS.imm rfl, wkS.imm rfl, wkS.c (wkC.ptr (by decide)), trivial⟩ (Nat.zero_le _)
    · rintro k ⟨hk, hk2⟩
      refine Go0 ?_
      refine Br.of (fun h=>Go0 ?_) (fun h=>Go0 ?_)
      · have hlt : k < d.zones.length := by omega
        refine CallN.pure Qq7 (QqT (d.zones.getD k default) d.size (by omega) ) (leA.refl rfl) rfl (Go0 ?_)
        refine Br.of (fun h2=>Go0 ?_) (fun h2=>Go0 ?_)
        · have : d.zones.all (fun z => Am.right z d.size) = false := QgH _ _ k hlt h2
          simp only [check, hc, this]; rfl
        · have w0 := Qa (↑k + 1) (by omega) (by omega)
          refine ⟨k + 1, ⟨by omega, ?_⟩, by omega, Mv.mk' 1 rfl ⟨O.wk.vr (Qs rfl), trivial⟩ ⟨wkS.c (wkC.int (by rw [w0]; rfl)), wkS.imm rfl, wkS.imm rfl, wkS.c (wkC.ptr (by decide)), trivial⟩ (Nat.zero_le _)⟩
          rw [Qnh _ _ k hlt, hk2, h2]; rfl
      · have : k = d.zones.length := by omega
        subst this
        have hall : d.zones.all (fun z => Am.right z d.size) = true := by simpa using hk2
        refine CallN.pure Qoq (Qpk d ) (leA.refl rfl) rfl (Go0 ?_)
        (first|refine Br.od (fun h3=>?_) (fun h3=>?_)|refine Br.mk (fun h3=>?_) (fun h3=>?_)<;>simp [-List.length_eq_zero_iff,-List.getD_eq_getElem?_getD] at h3)<;>(try simp only [Int.toNat_natCast] at h3)<;>(conv=>whnf)
        · refine Go0 ?_
          have : decide ((QL d.zones : Int) ≤ d.maxOpen ∧ (Qm d.zones : Int) ≤ d.maxActive) = false := by simp only [decide_eq_false_iff_not]; omega
          simp only [check, hc, hall, this]; rfl
        · refine Go0 ?_
          have : decide ((QL d.zones : Int) ≤ d.maxOpen ∧ (Qm d.zones : Int) ≤ d.maxActive) = true := by simp only [decide_eq_true_eq]; omega
          simp only [check, hc, hall, this]; rfl
theorem QqL : HB 42 := hB Tryz.func42
theorem Qa0 (n : Int) : PS 64 [.c (.int .i64 n)] (.c (.bool (Qt n))) := by
 refine ov0 hΓ Tryz.func64 9 0 [.tmp 2] Tryz.ntmps64 Tryz.results64 ?_
 simp only [S.c.injEq, C.bool.injEq, Qt]
 rw [Bool.eq_iff_iff]
 simp
theorem QaX : HB 64 := hB Tryz.func64
theorem Qcn (n : Int) : PS 106 [.c (.int .i64 n)] (.c (.bool (QN n))) := by
 refine ov hΓ Tryz.func106 9 0 [.tmp 2] Tryz.ntmps106 Tryz.results106 ?_
 conv=>whnf
 refine CallN.pure QaX (Qa0 _ ) (leA.refl rfl) rfl (Go0 ?_)
 simp only [S.c.injEq, C.bool.injEq, Qt, QN]
 rw [Bool.eq_iff_iff]
 simp [or_assoc]
theorem Qcr : HB 106 := hB Tryz.func106
theorem Qcq (d : Dev) : PS 96 [d.s] (.t [.inl (.int .i64 (QL d.zones)), .inl (.int .i64 (Qm d.zones))]) := by
 refine ov0 hΓ Tryz.func96 34 0 [.tmp 2, .tmp 3] Tryz.ntmps96 Tryz.results96 ?_
 refine Lp.mk hΓ (ι := Nat) (fun k => [(6, .c (.int .i64 k)), (4, .c (.int .i64 (QL (d.zones.take k)))), (5, .c (.int .i64 (Qm (d.zones.take k)))), (1, .c (.ptr 0 0))])
  (fun _ => [.vr [.int .i64 d.size, .int .i64 d.maxOpen, .int .i64 d.maxActive, Qdl d.zones]]) (fun k => k ≤ d.zones.length) (fun k => d.zones.length - k) 0 (Nat.zero_le _) ?_ ?_
 ·exact Mv.mk' 1 rfl ⟨O.wk.vr (Qs rfl), trivial⟩ ⟨wkS.imm rfl, wkS.imm rfl, wkS.imm rfl, wkS.c (wkC.ptr (by decide)), trivial⟩ (Nat.zero_le _)
 ·intro k hk
  refine Go1 fun _h=>?_
  refine Br.of (fun h=>Go0 ?_) (fun h=>Go0 ?_)
  ·refine CallN.pure QaX (Qa0 _ ) (leA.refl rfl) rfl (Go0 ?_)
   have hlt : k < d.zones.length := by omega
   have e1 := Qg4 d.zones k hlt
   have e2 := QfL d.zones k hlt
   have l1 := Qi8 (d.zones.take (k + 1))
   have l2 := Qg8 (d.zones.take (k + 1))
   have l3 : (d.zones.take (k + 1)).length ≤ d.zones.length := by simp; omega
   have w0 := Qa (↑k + 1) (by omega) (by omega)
   refine Br.of (fun ho=>Go0 ?_) (fun ho=>Go0 ?_)
   ·refine CallN.pure Qcr (Qcn _ ) (leA.refl rfl) rfl (Go0 ?_)
    try simp only [Int.toNat_natCast] at ho
    rw [ho] at e1
    have w1 := Qa (↑(QL (d.zones.take k)) + 1) (by omega) (by simp at e1; omega)
    refine Br.of (fun ha=>Go0 ?_) (fun ha=>Go0 ?_)
    ·try simp only [Int.toNat_natCast] at ha
     rw [ha] at e2
     have w2 := Qa (↑(Qm (d.zones.take k)) + 1) (by omega) (by simp at e2; omega)
     refine ⟨k + 1, by omega, by omega, Mv.mk' 1 rfl ⟨O.wk.vr (Qs rfl), trivial⟩ ⟨wkS.c (wkC.int (by rw [w0]; rfl)), wkS.c (wkC.int (by rw [w1, e1]; rfl)), wkS.c (wkC.int (by rw [w2, e2]; rfl)), wkS.c (wkC.ptr (by decide)), trivial⟩ (Nat.zero_le _)⟩
    ·try simp only [Int.toNat_natCast] at ha
     rw [ha] at e2
     refine ⟨k + 1, by omega, by omega, Mv.mk' 1 rfl ⟨O.wk.vr (Qs rfl), trivial⟩ ⟨wkS.c (wkC.int (by rw [w0]; rfl)), wkS.c (wkC.int (by rw [w1, e1]; rfl)), wkS.c (wkC.int (by rw [e2]; rfl)), wkS.c (wkC.ptr (by decide)), trivial⟩ (Nat.zero_le _)⟩
   ·refine CallN.pure Qcr (Qcn _ ) (leA.refl rfl) rfl (Go0 ?_)
    try simp only [Int.toNat_natCast] at ho
    rw [ho] at e1
    refine Br.of (fun ha=>Go0 ?_) (fun ha=>Go0 ?_)
    ·try simp only [Int.toNat_natCast] at ha
     rw [ha] at e2
     have w2 := Qa (↑(Qm (d.zones.take k)) + 1) (by omega) (by simp at e2; omega)
     refine ⟨k + 1, by omega, by omega, Mv.mk' 1 rfl ⟨O.wk.vr (Qs rfl), trivial⟩ ⟨wkS.c (wkC.int (by rw [w0]; rfl)), wkS.c (wkC.int (by rw [e1]; rfl)), wkS.c (wkC.int (by rw [w2, e2]; rfl)), wkS.c (wkC.ptr (by decide)), trivial⟩ (Nat.zero_le _)⟩
    ·try simp only [Int.toNat_natCast] at ha
     rw [ha] at e2
     refine ⟨k + 1, by omega, by omega, Mv.mk' 1 rfl ⟨O.wk.vr (Qs rfl), trivial⟩ ⟨wkS.c (wkC.int (by rw [w0]; rfl)), wkS.c (wkC.int (by rw [e1]; rfl)), wkS.c (wkC.int (by rw [e2]; rfl)), wkS.c (wkC.ptr (by decide)), trivial⟩ (Nat.zero_le _)⟩
  ·have : k = d.zones.length := by omega
   subst this
   simp
theorem Qcl : HB 96 := hB Tryz.func96
theorem QjY (z : Zone) (size : Int) : PS 95 [z.s, .c (.int .i64 size)] (.c (.bool (Am.right z size))) := by
 have F : ∀ (b : Bool), Am.right z size = b → (S.c (C.bool b) = S.c (.bool (Am.right z size))) := fun b h => by rw [h]
 refine ov hΓ Tryz.func95 62 0 [.tmp 4] Tryz.ntmps95 Tryz.results95 ?_
 refine Go1 fun _h=>?_
 (first|refine Br.od (fun h1=>?_) (fun h1=>?_)|refine Br.mk (fun h1=>?_) (fun h1=>?_)<;>simp [-List.length_eq_zero_iff,-List.getD_eq_getElem?_getD] at h1)<;>(try simp only [Int.toNat_natCast] at h1)<;>(conv=>whnf)
 ·refine Go0 ?_
  refine F _ ?_
  simp only [Am.right, Bool.and_eq_false_iff, decide_eq_false_iff_not]; left; omega
 ·refine Go0 ?_
  refine Lp.mk hΓ (ι := Nat) (fun k => [(6, .c (.int .i64 k)), (5, .c (.int .i64 z.sectors.length)), (2, .c (.ptr 0 0)), (1, .c (.int .i64 size))]) (fun _ => [.vr [.int .i64 z.state, .int .i64 z.durable, Qbq z.sectors]]) (fun k => k ≤ z.sectors.length ∧ Qcv (z.sectors.take k) = true) (fun k => z.sectors.length - k) 0 ⟨Nat.zero_le _, rfl⟩ ?_ ?_
  ·exact Mv.mk' 1 rfl ⟨O.wk.vr (Qs rfl), trivial⟩ ⟨wkS.imm rfl, wkS.imm rfl, wkS.c (wkC.ptr (by decide)), wkS.imm rfl, trivial⟩ (Nat.zero_le _)
  ·rintro k ⟨hk, hk2⟩
   refine Go0 ?_
   refine Br.of (fun h=>Go1 fun _h=>?_) (fun h=>Go0 ?_)
   ·have hlt : k < z.sectors.length := by omega
    refine Br.of (fun h6=>Go0 ?_) (fun h6=>Go0 ?_)
    ·refine F _ ?_
     rw [Am.right, QiN _ k hlt (by simp at h6 ⊢; omega), Bool.and_false]
    ·have w0 := Qa (↑k + 1) (by omega) (by omega)
     refine ⟨k + 1, ⟨by omega, ?_⟩, by omega, Mv.mk' 1 rfl ⟨O.wk.vr (Qs rfl), trivial⟩ ⟨wkS.c (wkC.int (by rw [w0]; rfl)), wkS.imm rfl, wkS.c (wkC.ptr (by decide)), wkS.imm rfl, trivial⟩ (Nat.zero_le _)⟩
     rw [Qh7 _ _ hlt, hk2]
     simp at h6 ⊢; omega
   ·have : k = z.sectors.length := by omega
    subst this
    have hs : Qcv z.sectors = true := by simpa using hk2
    have G : ∀ (b : Bool) (p : Prop) [Decidable p], b = decide p → ((0 ≤ z.state ∧ z.state ≤ 5 ∧ (z.sectors.length : Int) ≤ size ∧ 0 ≤ z.durable ∧ z.durable ≤ z.sectors.length ∧ (z.state = 0 ∨ z.state = 5 → z.sectors.length = 0) ∧ (z.state = 4 → z.durable = z.sectors.length) ∧
  (z.state ≠ 0 → z.state ≠ 4 → z.state ≠ 5 → (z.sectors.length : Int) < size)) ↔ p) → (S.c (C.bool b) = S.c (.bool (Am.right z size))) := by
     intro b p _ hb hp
     rw [hb]
     simp only [S.c.injEq, C.bool.injEq, Am.right, hs, Bool.and_true, hp]
    refine Br.of (fun h2=>Go0 ?_) (fun h2=>Go0 ?_)
    ·refine Br.of (fun h3=>Go0 ?_) (fun h3=>Go0 ?_)
     ·refine G _ ((z.sectors.length : Int) = 0) (by rw [Bool.eq_iff_iff]; simp) (by omega)
     ·exact absurd h2 h3
    ·refine Br.of (fun h3=>Go0 ?_) (fun h3=>Go0 ?_)
     ·refine G _ ((z.sectors.length : Int) = 0) (by rw [Bool.eq_iff_iff]; simp) (by omega)
     ·refine Br.of (fun h4=>Go0 ?_) (fun h4=>Go0 ?_)
      ·refine G _ (z.durable = (z.sectors.length : Int)) (by rw [Bool.eq_iff_iff]; simp) (by omega)
      ·refine G _ ((z.sectors.length : Int) < size) rfl (by omega)
theorem QjX : HB 95 := hB Tryz.func95
theorem Qby (d : Dev) : PS 53 [d.s] (.c (.int .i64 (check d))) := by
 refine ov hΓ Tryz.func53 82 0 [.tmp 2] Tryz.ntmps53 Tryz.results53 ?_
 refine Go1 fun _h=>?_
 (first|refine Br.od (fun h1=>?_) (fun h1=>?_)|refine Br.mk (fun h1=>?_) (fun h1=>?_)<;>simp [-List.length_eq_zero_iff,-List.getD_eq_getElem?_getD] at h1)<;>(try simp only [Int.toNat_natCast] at h1)<;>(conv=>whnf)
 ·refine Go0 ?_
  have : Qb1 d = false := by simp only [Qb1, decide_eq_false_iff_not]; omega
  simp only [check, this]; rfl
 ·refine Go0 ?_
  have hc : Qb1 d = true := by simp only [Qb1, decide_eq_true_eq]; omega
  refine Lp.mk hΓ (ι := Nat) (fun k => [(3, .c (.int .i64 k)), (1, .c (.ptr 0 0))])
   (fun _ => [.vr [.int .i64 d.size, .int .i64 d.maxOpen, .int .i64 d.maxActive, Qdl d.zones]]) (fun k => k ≤ d.zones.length ∧ (d.zones.take k).all (fun z => Am.right z d.size) = true) (fun k => d.zones.length - k) 0 ⟨Nat.zero_le _, rfl⟩ ?_ ?_
  ·exact Mv.mk' 1 rfl ⟨O.wk.vr (Qs rfl), trivial⟩ ⟨wkS.imm rfl, wkS.c (wkC.ptr (by decide)), trivial⟩ (Nat.zero_le _)
  ·rintro k ⟨hk, hk2⟩
   refine Go1 fun _h=>?_
   refine Br.of (fun h=>Go0 ?_) (fun h=>Go0 ?_)
   ·have hlt : k < d.zones.length := by omega
    refine Dr.mk hΓ hMix (by kernel_rfl) (Go0 ?_)
    refine CallP.mk QjX (QjY (d.zones.getD k default) d.size ) (leA.refl rfl) rfl (Go0 ?_)
    refine Br.of (fun h2=>Go0 ?_) (fun h2=>Go0 ?_)
    ·have : d.zones.all (fun z => Am.right z d.size) = false := QgH _ _ k hlt h2
     simp only [check, hc, this]; rfl
    ·have w0 := Qa (↑k + 1) (by omega) (by omega)
     refine ⟨k + 1, ⟨by omega, ?_⟩, by omega, Mv.mk' 1 rfl ⟨O.wk.vr (Qs rfl), trivial⟩ ⟨wkS.c (wkC.int (by rw [w0]; rfl)), wkS.c (wkC.ptr (by decide)), trivial⟩ (Nat.zero_le _)⟩
     rw [Qnh _ _ k hlt, hk2, h2]; rfl
   ·have : k = d.zones.length := by omega
    subst this
    have hall : d.zones.all (fun z => Am.right z d.size) = true := by simpa using hk2
    refine CallN.pure Qcl (Qcq d ) (leA.refl rfl) rfl (Go0 ?_)
    (first|refine Br.od (fun h3=>?_) (fun h3=>?_)|refine Br.mk (fun h3=>?_) (fun h3=>?_)<;>simp [-List.length_eq_zero_iff,-List.getD_eq_getElem?_getD] at h3)<;>(try simp only [Int.toNat_natCast] at h3)<;>(conv=>whnf)
    ·refine Go0 ?_
     have : decide ((QL d.zones : Int) ≤ d.maxOpen ∧ (Qm d.zones : Int) ≤ d.maxActive) = false := by simp only [decide_eq_false_iff_not]; omega
     simp only [check, hc, hall, this]; rfl
    ·refine Go0 ?_
     have : decide ((QL d.zones : Int) ≤ d.maxOpen ∧ (Qm d.zones : Int) ≤ d.maxActive) = true := by simp only [decide_eq_true_eq]; omega
     simp only [check, hc, hall, this]; rfl
theorem Qbx : HB 53 := hB Tryz.func53
theorem Qmm (zones size open_ act : Int) (hz : -9223372036854775808 ≤ zones ∧ zones ≤ 9223372036854775807) : PS 28 [.c (.int .i64 zones), .c (.int .i64 size), .c (.int .i64 open_), .c (.int .i64 act)] (.t [.inr (newD zones size open_ act).cells, .inl (.int .i64 (newE zones size open_ act))]) := by
 refine PSpec.rm ?_
 refine ov0 hΓ Tryz.func28 32 0 [.cell 8 29, .tmp 9] Tryz.ntmps28 Tryz.results28 ?_
 (first|refine Br.od (fun h1=>?_) (fun h1=>?_)|refine Br.mk (fun h1=>?_) (fun h1=>?_)<;>simp [-List.length_eq_zero_iff,-List.getD_eq_getElem?_getD] at h1)<;>(try simp only [Int.toNat_natCast] at h1)<;>(conv=>whnf)
 ·refine Go0 ?_
  have he : newE zones size open_ act = 11 := by
   have : decide (1 ≤ zones ∧ zones ≤ 32) = false := by simp only [decide_eq_false_iff_not]; omega
   simp only [newE, this]; rfl
  have hd : newD zones size open_ act = dev0 := by simp only [newD, he]; rfl
  rw [he, hd]
  exact RM.imm rfl (wkS.t ⟨⟨wkC.imm rfl, wkC.imm rfl, wkC.imm rfl, wkC.nil rfl, trivial⟩, wkC.imm rfl, trivial⟩)
 ·refine Go0 ?_
  have hh : decide (1 ≤ zones ∧ zones ≤ 32) = true := by simp only [decide_eq_true_eq]; omega
  have hlen : zones.toNat = (List.replicate zones.toNat zone0).length := by simp
  have hfz : ∀ (x : Bool), leF (.isl 3 zones.toNat (QcK [.int .i64 0, .int .i64 0, .nils]) x) (Qdl (List.replicate zones.toNat zone0)) := fun x => leF.isl hlen (fun i hi j hj => Qfs _ rfl _ i j hi hj) (fun e => by cases e)
  have hcells := fun i hi j hj => Qfs _ rfl zones.toNat i j hi hj
  refine CallN.fzTo 1 rfl (Nat.zero_le _) (Qg1 _ rfl _) (ts' := [(8, .c (.ptr 0 0)), (10, .c (.ptr 2 0))]) (args' := [(newX zones size open_ act).s]) (H' := [.vr [.int .i64 0, .int .i64 0, .int .i64 0, .nils], .dead, .vr (newX zones size open_ act).cells]) 3 rfl
   ⟨O.wk.vr (Qs rfl), trivial, O.wk.vr ⟨wkC.imm rfl, wkC.imm rfl, wkC.imm rfl, wkC.fz rfl hlen hcells (fun e => by cases e), trivial⟩, trivial⟩
   ⟨wkS.c (wkC.ptr (by decide)), wkS.c (wkC.ptr (by decide)), trivial⟩
   ⟨wkS.a ⟨wkC.imm rfl, wkC.imm rfl, wkC.imm rfl, wkC.fz rfl hlen hcells (fun e => by cases e), trivial⟩, trivial⟩ (Nat.zero_le _) ?_
  refine CallN.pure Qbx (Qby (newX zones size open_ act) ) (leA.refl rfl) rfl (Go0 ?_)
  refine Br.of (fun h2=>Go0 ?_) (fun h2=>Go0 ?_)
  ·have he : newE zones size open_ act = check (newX zones size open_ act) := by simp only [newE, hh]; rfl
   have hd : newD zones size open_ act = dev0 := by simp only [newD, he]; rw [if_neg h2]
   rw [he, hd]
   exact RM.imm rfl (wkS.t ⟨⟨wkC.imm rfl, wkC.imm rfl, wkC.imm rfl, wkC.nil rfl, trivial⟩, wkC.imm rfl, trivial⟩)
  ·have he : newE zones size open_ act = 0 := by simp only [newE, hh]; exact h2
   have hd : newD zones size open_ act = newX zones size open_ act := by simp only [newD, he]; rfl
   rw [he, hd]
   exact RM.imm rfl (wkS.imm rfl)
theorem Ql5 : HB 28 := hB Tryz.func28
theorem Qsb {α : Type} (x : α) (n : Int) : n.toNat = (List.replicate n.toNat x).length := by simp
theorem QsN {n : Nat} {i : Nat} : ((List.replicate n ([] : List Ent)).getD i default).length = 0 := by
 by_cases h : i < n
 ·simp [List.getD, h]
 ·simp [List.getD, h, Nat.le_of_not_lt h]; rfl
theorem QoO (n : Int) (h1 : 1 ≤ n) (h2 : n ≤ 8) : PS 49 [.c (.int .i64 n)] (.t [.inr [Qh (List.replicate n.toNat [])], .inl (.int .i64 0)]) := by
 refine PSpec.rm ?_
 refine ov0 hΓ Tryz.func49 14 0 [.cell 2 34, .tmp 3] Tryz.ntmps49 Tryz.results49 ?_
 (first|refine Br.od (fun h=>?_) (fun h=>?_)|refine Br.mk (fun h=>?_) (fun h=>?_)<;>simp [-List.length_eq_zero_iff,-List.getD_eq_getElem?_getD] at h)<;>(try simp only [Int.toNat_natCast] at h)<;>(conv=>whnf)
 ·omega
 ·refine Go0 ?_
  refine RM.fz 1 rfl (Nat.zero_le _) (fun i _ j hj => ?_) ?_
  ·have hj' : j < 1 := hj
   have : j = 0 := by omega
   subst this
   rfl
  refine RM.wkW ?_ ?_ (Nat.zero_le _)
  ·exact WH.nil
  ·refine WS.t (WTL.consL (WL.cons (WC.fz rfl (Qsb _ _) (fun i _ j hj => ?_) (fun e => by cases e)) WL.nil) (WTL.consC (WC.imm rfl) WTL.nil))
   have hj' : j < 1 := hj
   have : j = 0 := by omega
   subst this
   exact leF.nil QsN
theorem Qpj : HB 49 := hB Tryz.func49
theorem Qhd (n : Int) (h1 : 1 ≤ n) (h2 : n ≤ 8) : PS 31 [.c (.int .i64 n)] (.t [.inr [Qh (List.replicate n.toNat [])], .inl (.int .i64 0)]) := by
 refine PSpec.rm ?_
 refine ov0 hΓ Tryz.func31 14 0 [.cell 2 34, .tmp 3] Tryz.ntmps31 Tryz.results31 ?_
 (first|refine Br.od (fun h=>?_) (fun h=>?_)|refine Br.mk (fun h=>?_) (fun h=>?_)<;>simp [-List.length_eq_zero_iff,-List.getD_eq_getElem?_getD] at h)<;>(try simp only [Int.toNat_natCast] at h)<;>(conv=>whnf)
 ·omega
 ·refine Go0 ?_
  refine RM.fz 1 rfl (Nat.zero_le _) (fun i _ j hj => ?_) ?_
  ·have hj' : j < 1 := hj
   have : j = 0 := by omega
   subst this
   rfl
  refine RM.wkW ?_ ?_ (Nat.zero_le _)
  ·exact WH.nil
  ·refine WS.t (WTL.consL (WL.cons (WC.fz rfl (Qsb _ _) (fun i _ j hj => ?_) (fun e => by cases e)) WL.nil) (WTL.consC (WC.imm rfl) WTL.nil))
   have hj' : j < 1 := hj
   have : j = 0 := by omega
   subst this
   exact leF.nil QsN
theorem QgV : HB 31 := hB Tryz.func31
def minG (k : Nat) : Nat → Nat → C := fun i _ => .int .i64 (if i < k then -1 else 0)
theorem Ql8 {l : List Int} {x : Int} {t : List C} {n i j : Nat} (hn : n = l.length) (hi : i < l.length + 1) (hj : j < 1) : appG (QcT .i64 l) n (Q4 1 (C.int .i64 x :: t)) i j = QcT .i64 (l ++ [x]) i j :=
 Qd7 (f := intC .i64) hn (fun j hj => by
  have : j = 0 := by omega
  subst this; rfl) hi hj
def ringTo (l : List Req) (k : Nat) : Prop := ∀ i, i < k → 0 ≤ (l.getD i default).serial ∧ (0 < i → (l.getD (i - 1) default).serial < (l.getD i default).serial)
def lastM (l : List Req) (k : Nat) : Int := if k = 0 then -1 else (l.getD (k - 1) default).serial
theorem Qa3 {b : Bool} (h : ¬ b = true) : b = false := by cases b; rfl; exact absurd rfl h
def QvU (c : Conf) (k : Nat) : List Int := (List.range k).map fun i => 2 * Qi c + (i : Nat)
def QuO (c : Conf) : St := ⟨c, newD c.zones c.size 3 3, List.replicate c.shards.toNat [], List.replicate c.zones.toNat 0, List.replicate c.zones.toNat 0, List.replicate c.shards.toNat (-1), 0, List.replicate c.queues.toNat (-1), [], QvU c (Qan c).toNat, -1, -1,
 List.replicate c.queues.toNat ⟨c.depth, []⟩, List.replicate c.queues.toNat default, default, default, 1, 0, 0, -1, false, false, []⟩
def newSE (c : Conf) : St := if Qn c = 0 then QuO c else default
def baseSt (c : Conf) (d : Dev) : St := { QuO c with dev := d }
theorem Qpx {α : Type} [Inhabited α] {a b : List α} (hl : a.length = b.length) (h : ∀ i, i < a.length → a.getD i default = b.getD i default) : a = b := by
 refine List.ext_getElem hl fun i h1 h2 => ?_
 have := h i h1
 simpa [List.getD, h1, h2] using this
theorem Qpw {α : Type} [Inhabited α] {a b : List α} {k : Nat} (h : a.getD k default ≠ b.getD k default) : a ≠ b := fun e => h (by rw [e])
theorem QuN (x y : Ent) : ((decide (x.block = y.block) && (decide (x.kind = y.kind) && (decide (x.version = y.version) && (decide (x.move = y.move) && (decide (x.zone = y.zone) && (decide (x.offset = y.offset) && true)))))) == false) = !decide (x = y) := by
 rw [show (∀ b : Bool, (b == false) = !b) from fun b => by cases b <;> rfl]
 congr 1
 rw [Bool.eq_iff_iff]
 cases x; cases y
 simp [Ent.mk.injEq]
theorem Qpd (a b : List Ent) (ha : a.length ≤ 1000000) : PS 18 [.c (QQ a), .c (QQ b)] (.c (.bool (decide (a = b)))) := by
 refine PSpec.rm ?_
 refine ov hΓ Tryz.func18 26 0 [.tmp 4] Tryz.ntmps18 Tryz.results18 ?_
 refine Go2 fun _h _h=>?_
 (first|refine Br.od (fun h1=>?_) (fun h1=>?_)|refine Br.mk (fun h1=>?_) (fun h1=>?_)<;>simp [-List.length_eq_zero_iff,-List.getD_eq_getElem?_getD] at h1)<;>(try simp only [Int.toNat_natCast] at h1)<;>(conv=>whnf)
 ·refine Go0 ?_
  rw [show decide (a = b) = false from decide_eq_false (fun e => h1 (by rw [e]))]
  exact RM.i0
 ·refine Go0 ?_
  refine Lp.mkK hΓ (ι := Nat) [0, 1] (fun i => [(5, .c (.int .i64 i))]) (fun _ => []) (fun i => i ≤ a.length ∧ ∀ j, j < i → a.getD j default = b.getD j default) (fun i => a.length - i) 0 ⟨Nat.zero_le _, fun j hj => absurd hj (Nat.not_lt_zero _)⟩ ?_ ?_
  ·exact Mv.k0
  ·rintro k ⟨hk, hk2⟩
   refine Go1 fun _h=>?_
   refine Br.of (fun h2=>Go0 ?_) (fun h2=>Go0 ?_)
   ·refine Dr.mk hΓ hMix (by kernel_rfl) (Go0 ?_)
    by_cases e : a.getD k default = b.getD k default
    ·refine Br.no ((QuN (a.getD k default) (b.getD k default)).trans (by simp only [e, decide_true, Bool.not_true])) (Go0 ?_)
     have w0 := Qa (↑k + 1) (by omega) (by omega)
     refine ⟨k + 1, ⟨by omega, QbA hk2 e⟩, by omega, ?_⟩
     exact Mv.k0
    ·refine Br.yes ((QuN (a.getD k default) (b.getD k default)).trans (by simp only [e, decide_false, Bool.not_false])) (Go0 ?_)
     rw [decide_eq_false (Qpw e)]
     exact RM.i0
   ·have e : a = b := Qpx (by omega) (fun i hi => hk2 i (by omega))
    rw [decide_eq_true e]
    exact RM.i0
theorem Qo3 : HB 18 := hB Tryz.func18
theorem Qoc (a b : List (List Ent)) (ha : a.length ≤ 1000000) (hs : ∀ i, (a.getD i default).length ≤ 1000000) : PS 57 [.a [Qh a], .a [Qh b]] (.c (.bool (decide (a = b)))) := by
 refine PSpec.rm ?_
 refine ov hΓ Tryz.func57 32 0 [.tmp 4] Tryz.ntmps57 Tryz.results57 ?_
 refine Go2 fun _h _h=>?_
 (first|refine Br.od (fun h1=>?_) (fun h1=>?_)|refine Br.mk (fun h1=>?_) (fun h1=>?_)<;>simp [-List.length_eq_zero_iff,-List.getD_eq_getElem?_getD] at h1)<;>(try simp only [Int.toNat_natCast] at h1)<;>(conv=>whnf)
 ·refine Go0 ?_
  rw [show decide (a = b) = false from decide_eq_false (fun e => h1 (by rw [e]))]
  exact RM.i0
 ·refine Go0 ?_
  refine Lp.mkK hΓ (ι := Nat) [2, 3] (fun i => [(5, .c (.int .i64 i))]) (fun _ => [.vr [Qh a], .vr [Qh b]]) (fun i => i ≤ a.length ∧ ∀ j, j < i → a.getD j default = b.getD j default) (fun i => a.length - i) 0 ⟨Nat.zero_le _, fun j hj => absurd hj (Nat.not_lt_zero _)⟩ ?_ ?_
  ·exact Mv.k0
  ·rintro k ⟨hk, hk2⟩
   have hsk := hs k
   refine Go1 fun _h=>?_
   refine Br.of (fun h2=>Go0 ?_) (fun h2=>Go0 ?_)
   ·refine Dr.mk hΓ hMix (by kernel_rfl) (Go0 ?_)
    refine CallP.auto Qo3 (Qpd (a.getD k default) (b.getD k default) hsk ) (Go0 ?_)
    by_cases e : a.getD k default = b.getD k default
    ·refine Br.no (by simp only [e, decide_true, Bool.not_true]) (Go0 ?_)
     have w0 := Qa (↑k + 1) (by omega) (by omega)
     refine ⟨k + 1, ⟨by omega, QbA hk2 e⟩, by omega, ?_⟩
     exact Mv.k0
    ·refine Br.yes (by simp only [e, decide_false, Bool.not_false]) (Go0 ?_)
     rw [decide_eq_false (Qpw e)]
     exact RM.i0
   ·have e : a = b := Qpx (by omega) (fun i hi => hk2 i (by omega))
    rw [decide_eq_true e]
    exact RM.i0
theorem Qpi : HB 57 := hB Tryz.func57
def Sav.cells (s : Sav) : List C := [.int .i64 s.state, .int .i64 s.done, .int .i64 s.slot, .int .i64 s.seq, .int .i64 s.next, .int .i64 s.cut, QQ s.ents, Qck s.recs]
theorem QoQ (a b : Zone) : QeL a b = decide (a = b) := by
 unfold QeL
 rw [Bool.eq_iff_iff]
 cases a; cases b
 simp only [Bool.and_eq_true, decide_eq_true_eq, Zone.mk.injEq]
 constructor
 ·rintro ⟨⟨h1, h2, -⟩, h3⟩; exact ⟨h1, h2, h3⟩
 ·rintro ⟨rfl, rfl, rfl⟩; exact ⟨⟨rfl, rfl, rfl⟩, rfl⟩
theorem QqR : ∀ a b : List Zone, Qbk a b = decide (a = b)
 | [], [] => by simp [Qbk]
 | x :: r, y :: r' => by
  rw [Bool.eq_iff_iff]
  simp [Qbk, QoQ, QqR r r']
 | [], _ :: _ => by simp [Qbk]
 | _ :: _, [] => by simp [Qbk]
end Go.Proofs
end
