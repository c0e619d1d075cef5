/- Contracts, lemmas; no condition. -/
import Derived.Test.YtkelkepdcfogaaaGreatP18B
import Derived.Test.YtkelkepdcfogaaaGreatP11B
import Derived.Test.YtkelkepdcfogaaaGreatP15B
import Derived.Test.YtkelkepdcfogaaaGreatEnvB
import Derived.Test.YtkelkepdcfogaaaGreatP17B
set_option linter.all false
section
open Go Go.Am
namespace Go.Proofs
set_option maxRecDepth 20000
def Qav (c : Conf) (slot : Int) : List Int := if Qq c = 0 ∧ 0 ≤ slot ∧ slot ≤ 1 then tabL (fun k => slot * Qg c + (k : Nat)) (Qg c).toNat else []
theorem Qhz (c : Conf) (slot : Int) : PS 77 [.a c.cells, .c (.int .i64 slot)] (.c (QbH (Qav c slot))) := by
 refine PSpec.rm ?_
 refine ov hΓ Tryz.func77 36 0 [.tmp 4] Tryz.ntmps77 Tryz.results77 ?_
 ((conv=>whnf);(repeat' ((first|refine Nd ?_|refine Hv fun _h=>?_);conv=>whnf)))
 refine CallN.pureA Qdu (Qdm c ) ?_
 ((conv=>whnf);(repeat' ((first|refine Nd ?_|refine Hv fun _h=>?_);conv=>whnf)))
 by_cases h : Qq c = 0 ∧ 0 ≤ slot ∧ slot ≤ 1
 ·have hr := (QaR h.1).1
  have hs := Qao hr
  refine Br.no (Bool.eq_false_iff.2 fun ebye => by simp [-List.getD_eq_getElem?_getD, -Int.default_eq_zero, h.1,h.2.1,h.2.2] at ebye <;> grind) ?_; conv=>whnf
  ((conv=>whnf);(repeat' ((first|refine Nd ?_|refine Hv fun _h=>?_);conv=>whnf)))
  refine CallN.pureA Qf3 (QfS c hr ) ?_
  ((conv=>whnf);(repeat' ((first|refine Nd ?_|refine Hv fun _h=>?_);conv=>whnf)))
  refine Lp.reserve 3 1 (QcD .i64 []) 5 rfl ?_
  refine Lp.mkK hΓ (ι := Nat) [1, 4, 6] (fun k => [(7, .c (.int .i64 k)), (5, .c (.sl 1 1 k k false))]) (fun k => [.vr c.cells, .arr 3 1 k (QcD .i64 (tabL (fun k => slot * Qg c + (k : Nat)) k))]) (fun k => k ≤ (Qg c).toNat) (fun k => (Qg c).toNat - k) 0 (Nat.zero_le _) ?_ ?_
  ·exact Mv.k0
  ·intro k hk
   ((conv=>whnf);(repeat' ((first|refine Nd ?_|refine Hv fun _h=>?_);conv=>whnf)))
   have hsl : slot = 0 ∨ slot = 1 := by omega
   refine Br.of (fun h1=>?_) (fun h1=>?_)<;>(try simp only [Int.toNat_natCast] at h1)<;>(conv=>whnf)
   ·((conv=>whnf);(repeat' ((first|refine Nd ?_|refine Hv fun _h=>?_);conv=>whnf)))
    have w0 := Qa (↑k + 1) (by omega) (by omega)
    refine ⟨k + 1, by omega, by omega, ?_⟩
    refine Mv.k1 ?_
    intro i hi j hj
    have e1 : IntKind.i64.wrap (IntKind.i64.wrap (slot * Qg c) + (k : Int)) = slot * Qg c + (k : Nat) := by
     rcases hsl with rfl | rfl
     ·rw [Qa (0 * Qg c) (by omega) (by omega), Qa _ (by omega) (by omega)]
     ·rw [Qa (1 * Qg c) (by omega) (by omega), Qa _ (by omega) (by omega)]
    rw [e1, Qj7]
    exact WC.eq (QlV (by simp) (by simp; omega) hj) rfl
   ·((conv=>whnf);(repeat' ((first|refine Nd ?_|refine Hv fun _h=>?_);conv=>whnf)))
    have : k = (Qg c).toNat := by omega
    subst this
    rw [show Qav c slot = tabL (fun k => slot * Qg c + (k : Nat)) (Qg c).toNat from if_pos h]
    exact RM.allC (Fw.ints rfl rfl (by simp) (fun _ _ _ _ => rfl))
 ·refine Br.yes (Decidable.byContradiction fun ebye => h (by simp [-List.getD_eq_getElem?_getD, -Int.default_eq_zero] at ebye <;> grind)) ?_; conv=>whnf
  ((conv=>whnf);(repeat' ((first|refine Nd ?_|refine Hv fun _h=>?_);conv=>whnf)))
  rw [show Qav c slot = [] from if_neg h]
  exact RM.i0
theorem Qhe : HB 77 := hB Tryz.func77
theorem Qr4 (n : Int) (hn : 0 ≤ n ∧ n < 256) : PS 147 [.c (.int .i64 n), .c (.int .i64 1)] (.t [.inl (.str (putS n 1)), .inl (.int .i64 0)]) := by
 refine PSpec.rm ?_
 refine ov hΓ Tryz.func147 44 0 [.tmp 4, .tmp 5] Tryz.ntmps147 Tryz.results147 ?_
 ((conv=>whnf);(repeat' ((first|refine Nd ?_|refine Hv fun _h=>?_);conv=>whnf)))
 have e : IntKind.i64.wrap (1 * 2 ^ min (IntKind.u64.wrap (IntKind.i64.wrap (8 * 1))).toNat IntKind.i64.bits) = 256 := by decide
 refine Br.no (by rw [e]; simp; omega) ?_
 ((conv=>whnf);(repeat' ((first|refine Nd ?_|refine Hv fun _h=>?_);conv=>whnf)))
 refine Lp.mk hΓ (ι := Nat) (fun k => [(7, .c (.int .i64 k)), (6, .c (.sl 0 1 1 1 true)), (0, .c (.int .i64 n)), (1, .c (.int .i64 1))]) (fun k => [.arr 5 1 1 (putG n k)]) (fun k => k ≤ 1) (fun k => 1 - k) 0 (Nat.zero_le _) ?_ ?_
 ·exact Mv.mk' 1 rfl ⟨O.wk.arr rfl (fun i hi j hj => by
   have hj : j < 1 := hj
   have : j = 0 := by omega
   subst this
   exact wkC.imm rfl), trivial⟩ ⟨wkS.imm rfl, wkS.c (wkC.sl (by decide) rfl rfl (fun _ => rfl)), wkS.imm rfl, wkS.imm rfl, trivial⟩ (Nat.zero_le _)
 ·intro k hk
  ((conv=>whnf);(repeat' ((first|refine Nd ?_|refine Hv fun _h=>?_);conv=>whnf)))
  refine Br.of (fun h=>?_) (fun h=>?_)<;>(try simp only [Int.toNat_natCast] at h)<;>(conv=>whnf)
  ·((conv=>whnf);(repeat' ((first|refine Nd ?_|refine Hv fun _h=>?_);conv=>whnf)))
   refine Need.mk (by rw [IntKind.wrap_u64]; omega) ?_
   ((conv=>whnf);(repeat' ((first|refine Nd ?_|refine Hv fun _h=>?_);conv=>whnf)))
   have w0 := Qa (↑k + 1) (by omega) (by omega)
   refine ⟨k + 1, by omega, by omega, Mv.mk' 1 rfl ⟨O.wk.arr rfl (fun i hi j hj => wkC.of_eq (Qf7 _ _ _ _) ?_), trivial⟩ ⟨wkS.c (wkC.int (by rw [w0]; rfl)), wkS.c (wkC.sl (by decide) rfl rfl (fun e => e)), wkS.imm rfl, wkS.imm rfl, trivial⟩ (Nat.zero_le _)⟩
   have hj : j = 0 := by omega
   subst hj
   rw [Qel]
   simp only [putG, putB, Int.toNat_natCast]
   by_cases c : i = k
   ·subst c
    simp
   ·rw [if_neg (by simp [c])]
    by_cases c2 : i < k
    ·rw [if_pos c2, if_pos (by omega)]
    ·rw [if_neg c2, if_neg (by omega)]
  ·((conv=>whnf);(repeat' ((first|refine Nd ?_|refine Hv fun _h=>?_);conv=>whnf)))
   have : k = 1 := by omega
   subst this
   refine Need.mk (fun i hi => ⟨putB n i, by simp only [putG]; rw [if_pos hi]⟩) ?_
   ((conv=>whnf);(repeat' ((first|refine Nd ?_|refine Hv fun _h=>?_);conv=>whnf)))
   exact RM.imm rfl (wkS.t ⟨wkC.str (QfG n 1), wkC.imm rfl, trivial⟩)
theorem Qke (n : Int) (hn : 0 ≤ n ∧ n < 4294967296) : PS 147 [.c (.int .i64 n), .c (.int .i64 4)] (.t [.inl (.str (putS n 4)), .inl (.int .i64 0)]) := by
 refine PSpec.rm ?_
 refine ov hΓ Tryz.func147 44 0 [.tmp 4, .tmp 5] Tryz.ntmps147 Tryz.results147 ?_
 ((conv=>whnf);(repeat' ((first|refine Nd ?_|refine Hv fun _h=>?_);conv=>whnf)))
 have e : IntKind.i64.wrap (1 * 2 ^ min (IntKind.u64.wrap (IntKind.i64.wrap (8 * 4))).toNat IntKind.i64.bits) = 4294967296 := by decide
 refine Br.no (by rw [e]; simp; omega) ?_
 ((conv=>whnf);(repeat' ((first|refine Nd ?_|refine Hv fun _h=>?_);conv=>whnf)))
 refine Lp.mk hΓ (ι := Nat) (fun k => [(7, .c (.int .i64 k)), (6, .c (.sl 0 1 4 4 true)), (0, .c (.int .i64 n)), (1, .c (.int .i64 4))]) (fun k => [.arr 5 1 4 (putG n k)]) (fun k => k ≤ 4) (fun k => 4 - k) 0 (Nat.zero_le _) ?_ ?_
 ·exact Mv.mk' 1 rfl ⟨O.wk.arr rfl (fun i hi j hj => by
   have hj : j < 1 := hj
   have : j = 0 := by omega
   subst this
   exact wkC.imm rfl), trivial⟩ ⟨wkS.imm rfl, wkS.c (wkC.sl (by decide) rfl rfl (fun _ => rfl)), wkS.imm rfl, wkS.imm rfl, trivial⟩ (Nat.zero_le _)
 ·intro k hk
  ((conv=>whnf);(repeat' ((first|refine Nd ?_|refine Hv fun _h=>?_);conv=>whnf)))
  refine Br.of (fun h=>?_) (fun h=>?_)<;>(try simp only [Int.toNat_natCast] at h)<;>(conv=>whnf)
  ·((conv=>whnf);(repeat' ((first|refine Nd ?_|refine Hv fun _h=>?_);conv=>whnf)))
   refine Need.mk (by rw [IntKind.wrap_u64]; omega) ?_
   ((conv=>whnf);(repeat' ((first|refine Nd ?_|refine Hv fun _h=>?_);conv=>whnf)))
   have w0 := Qa (↑k + 1) (by omega) (by omega)
   refine ⟨k + 1, by omega, by omega, Mv.mk' 1 rfl ⟨O.wk.arr rfl (fun i hi j hj => wkC.of_eq (Qf7 _ _ _ _) ?_), trivial⟩ ⟨wkS.c (wkC.int (by rw [w0]; rfl)), wkS.c (wkC.sl (by decide) rfl rfl (fun e => e)), wkS.imm rfl, wkS.imm rfl, trivial⟩ (Nat.zero_le _)⟩
   have hj : j = 0 := by omega
   subst hj
   rw [Qel]
   simp only [putG, putB, Int.toNat_natCast]
   by_cases c : i = k
   ·subst c
    simp
   ·rw [if_neg (by simp [c])]
    by_cases c2 : i < k
    ·rw [if_pos c2, if_pos (by omega)]
    ·rw [if_neg c2, if_neg (by omega)]
  ·((conv=>whnf);(repeat' ((first|refine Nd ?_|refine Hv fun _h=>?_);conv=>whnf)))
   have : k = 4 := by omega
   subst this
   refine Need.mk (fun i hi => ⟨putB n i, by simp only [putG]; rw [if_pos hi]⟩) ?_
   ((conv=>whnf);(repeat' ((first|refine Nd ?_|refine Hv fun _h=>?_);conv=>whnf)))
   exact RM.imm rfl (wkS.t ⟨wkC.str (QfG n 4), wkC.imm rfl, trivial⟩)
theorem QjX (n : Int) (hn : 0 ≤ n ∧ n < 281474976710656) : PS 147 [.c (.int .i64 n), .c (.int .i64 6)] (.t [.inl (.str (putS n 6)), .inl (.int .i64 0)]) := by
 refine PSpec.rm ?_
 refine ov hΓ Tryz.func147 44 0 [.tmp 4, .tmp 5] Tryz.ntmps147 Tryz.results147 ?_
 ((conv=>whnf);(repeat' ((first|refine Nd ?_|refine Hv fun _h=>?_);conv=>whnf)))
 have e : IntKind.i64.wrap (1 * 2 ^ min (IntKind.u64.wrap (IntKind.i64.wrap (8 * 6))).toNat IntKind.i64.bits) = 281474976710656 := by decide
 refine Br.no (by rw [e]; simp; omega) ?_
 ((conv=>whnf);(repeat' ((first|refine Nd ?_|refine Hv fun _h=>?_);conv=>whnf)))
 refine Lp.mk hΓ (ι := Nat) (fun k => [(7, .c (.int .i64 k)), (6, .c (.sl 0 1 6 6 true)), (0, .c (.int .i64 n)), (1, .c (.int .i64 6))]) (fun k => [.arr 5 1 6 (putG n k)]) (fun k => k ≤ 6) (fun k => 6 - k) 0 (Nat.zero_le _) ?_ ?_
 ·exact Mv.mk' 1 rfl ⟨O.wk.arr rfl (fun i hi j hj => by
   have hj : j < 1 := hj
   have : j = 0 := by omega
   subst this
   exact wkC.imm rfl), trivial⟩ ⟨wkS.imm rfl, wkS.c (wkC.sl (by decide) rfl rfl (fun _ => rfl)), wkS.imm rfl, wkS.imm rfl, trivial⟩ (Nat.zero_le _)
 ·intro k hk
  ((conv=>whnf);(repeat' ((first|refine Nd ?_|refine Hv fun _h=>?_);conv=>whnf)))
  refine Br.of (fun h=>?_) (fun h=>?_)<;>(try simp only [Int.toNat_natCast] at h)<;>(conv=>whnf)
  ·((conv=>whnf);(repeat' ((first|refine Nd ?_|refine Hv fun _h=>?_);conv=>whnf)))
   refine Need.mk (by rw [IntKind.wrap_u64]; omega) ?_
   ((conv=>whnf);(repeat' ((first|refine Nd ?_|refine Hv fun _h=>?_);conv=>whnf)))
   have w0 := Qa (↑k + 1) (by omega) (by omega)
   refine ⟨k + 1, by omega, by omega, Mv.mk' 1 rfl ⟨O.wk.arr rfl (fun i hi j hj => wkC.of_eq (Qf7 _ _ _ _) ?_), trivial⟩ ⟨wkS.c (wkC.int (by rw [w0]; rfl)), wkS.c (wkC.sl (by decide) rfl rfl (fun e => e)), wkS.imm rfl, wkS.imm rfl, trivial⟩ (Nat.zero_le _)⟩
   have hj : j = 0 := by omega
   subst hj
   rw [Qel]
   simp only [putG, putB, Int.toNat_natCast]
   by_cases c : i = k
   ·subst c
    simp
   ·rw [if_neg (by simp [c])]
    by_cases c2 : i < k
    ·rw [if_pos c2, if_pos (by omega)]
    ·rw [if_neg c2, if_neg (by omega)]
  ·((conv=>whnf);(repeat' ((first|refine Nd ?_|refine Hv fun _h=>?_);conv=>whnf)))
   have : k = 6 := by omega
   subst this
   refine Need.mk (fun i hi => ⟨putB n i, by simp only [putG]; rw [if_pos hi]⟩) ?_
   ((conv=>whnf);(repeat' ((first|refine Nd ?_|refine Hv fun _h=>?_);conv=>whnf)))
   exact RM.imm rfl (wkS.t ⟨wkC.str (QfG n 6), wkC.imm rfl, trivial⟩)
theorem Qe0 : HB 147 := hB Tryz.func147
theorem QjU : HB 147 := Qe0
theorem Qku : HB 147 := Qe0
theorem QeA (n : Int) (hn : 0 ≤ n ∧ n < 256) : PS 100 [.c (.int .i64 n), .c (.int .i64 1)] (.c (.str (putS n 1))) := by
 refine ov hΓ Tryz.func100 14 0 [.tmp 4] Tryz.ntmps100 Tryz.results100 ?_
 conv=>whnf
 refine CallN.pure Qe0 (Qr4 n hn ) (leA.refl rfl) rfl ?_
 ((conv=>whnf);(repeat' ((first|refine Nd ?_|refine Hv fun _h=>?_);conv=>whnf)))
theorem Qeh : HB 100 := hB Tryz.func100
theorem QgC (n : Int) (hn : 0 ≤ n ∧ n < 4294967296) : PS 100 [.c (.int .i64 n), .c (.int .i64 4)] (.c (.str (putS n 4))) := by
 refine ov hΓ Tryz.func100 14 0 [.tmp 4] Tryz.ntmps100 Tryz.results100 ?_
 conv=>whnf
 refine CallN.pure QjU (Qke n hn ) (leA.refl rfl) rfl ?_
 ((conv=>whnf);(repeat' ((first|refine Nd ?_|refine Hv fun _h=>?_);conv=>whnf)))
theorem QgA : HB 100 := hB Tryz.func100
theorem Qlp (n : Int) (hn : 0 ≤ n ∧ n < 281474976710656) : PS 100 [.c (.int .i64 n), .c (.int .i64 6)] (.c (.str (putS n 6))) := by
 refine ov hΓ Tryz.func100 14 0 [.tmp 4] Tryz.ntmps100 Tryz.results100 ?_
 conv=>whnf
 refine CallN.pure Qku (QjX n hn ) (leA.refl rfl) rfl ?_
 ((conv=>whnf);(repeat' ((first|refine Nd ?_|refine Hv fun _h=>?_);conv=>whnf)))
theorem QmA : HB 100 := hB Tryz.func100
theorem Qtg (sum : Int) (b : ByteArray) (hb : b.size ≤ 10000000) : PS 109 [.c (.int .u32 sum), .c (.str b)] (.c (.int .u32 (addU sum b))) := by
 refine ov hΓ Tryz.func109 37 0 [.tmp 4] Tryz.ntmps109 Tryz.results109 ?_
 ((conv=>whnf);(repeat' ((first|refine Nd ?_|refine Hv fun _h=>?_);conv=>whnf)))
 refine Lp.mk hΓ (ι := Nat) (fun k => [(6, .c (.int .i64 k)), (5, .c (.int .u32 (QW sum b k))), (1, .c (.str b))]) (fun _ => []) (fun k => k ≤ b.size) (fun k => b.size - k) 0 (Nat.zero_le _) ?_ ?_
 ·exact Mv.mk' 0 rfl trivial ⟨wkS.imm rfl, wkS.imm rfl, wkS.imm rfl, trivial⟩ (Nat.zero_le _)
 ·intro k hk
  ((conv=>whnf);(repeat' ((first|refine Nd ?_|refine Hv fun _h=>?_);conv=>whnf)))
  refine Br.of (fun h=>?_) (fun h=>?_)<;>(try simp only [Int.toNat_natCast] at h)<;>(conv=>whnf)
  ·((conv=>whnf);(repeat' ((first|refine Nd ?_|refine Hv fun _h=>?_);conv=>whnf)))
   refine Lp.mk hΓ (ι := Nat) (fun j => [(7, .c (.int .i64 j)), (5, .c (.int .u32 (QaV QaJ j (xorU (QW sum b k) (Qau b k))))), (6, .c (.int .i64 k)), (1, .c (.str b))]) (fun _ => []) (fun j => j ≤ 8) (fun j => 8 - j) 0 (Nat.zero_le _) ?_ ?_
   ·exact Mv.mk' 0 rfl trivial ⟨wkS.imm rfl, wkS.imm rfl, wkS.imm rfl, wkS.imm rfl, trivial⟩ (Nat.zero_le _)
   ·intro j hj
    ((conv=>whnf);(repeat' ((first|refine Nd ?_|refine Hv fun _h=>?_);conv=>whnf)))
    have w1 := Qa (↑j + 1) (by omega) (by omega)
    refine Br.of (fun h2=>?_) (fun h2=>?_)<;>(try simp only [Int.toNat_natCast] at h2)<;>(conv=>whnf)
    ·((conv=>whnf);(repeat' ((first|refine Nd ?_|refine Hv fun _h=>?_);conv=>whnf)))
     refine Br.of (fun h3=>?_) (fun h3=>?_)<;>(try simp only [Int.toNat_natCast] at h3)<;>(conv=>whnf)
     ·((conv=>whnf);(repeat' ((first|refine Nd ?_|refine Hv fun _h=>?_);conv=>whnf)))
      exact ⟨j + 1, by omega, by omega, Mv.mk' 0 rfl trivial ⟨wkS.c (wkC.int (by rw [w1]; rfl)), wkS.c (wkC.int (by simp only [QaV]; exact (if_pos h3).symm)), wkS.imm rfl, wkS.imm rfl, trivial⟩ (Nat.zero_le _)⟩
     ·((conv=>whnf);(repeat' ((first|refine Nd ?_|refine Hv fun _h=>?_);conv=>whnf)))
      exact ⟨j + 1, by omega, by omega, Mv.mk' 0 rfl trivial ⟨wkS.c (wkC.int (by rw [w1]; rfl)), wkS.c (wkC.int (by simp only [QaV]; exact (if_neg h3).symm)), wkS.imm rfl, wkS.imm rfl, trivial⟩ (Nat.zero_le _)⟩
    ·((conv=>whnf);(repeat' ((first|refine Nd ?_|refine Hv fun _h=>?_);conv=>whnf)))
     have : j = 8 := by omega
     subst this
     have w0 := Qa (↑k + 1) (by omega) (by omega)
     exact ⟨k + 1, by omega, by omega, Mv.mk' 0 rfl trivial ⟨wkS.c (wkC.int (by rw [w0]; rfl)), wkS.imm rfl, wkS.imm rfl, trivial⟩ (Nat.zero_le _)⟩
  ·((conv=>whnf);(repeat' ((first|refine Nd ?_|refine Hv fun _h=>?_);conv=>whnf)))
   have : k = b.size := by omega
   subst this
   rfl
theorem QsC : HB 109 := hB Tryz.func109
theorem QhJ (b : ByteArray) (hb : b.size ≤ 10000000) : PS 71 [.c (.str b)] (.c (.int .u32 (addU 0 b))) := by
 refine ov hΓ Tryz.func71 5 0 [.tmp 2] Tryz.ntmps71 Tryz.results71 ?_
 conv=>whnf
 refine CallN.pure QsC (Qtg 0 b hb ) (leA.refl rfl) rfl ?_
 ((conv=>whnf);(repeat' ((first|refine Nd ?_|refine Hv fun _h=>?_);conv=>whnf)))
theorem QhN : HB 71 := hB Tryz.func71
theorem Qrf (b : ByteArray) (hb : b.size ≤ 10000000) : PS 102 [.c (.str b)] (.c (.str (b ++ putS (IntKind.i64.wrap (addU 0 b)) 4))) := by
 refine ov hΓ Tryz.func102 9 0 [.tmp 2] Tryz.ntmps102 Tryz.results102 ?_
 conv=>whnf
 refine CallN.pure QhN (QhJ b hb ) (leA.refl rfl) rfl ?_
 conv=>whnf
 have hl := Qg1 0 b
 refine CallN.pure QgA (QgC _ (by rw [Qa _ (by omega) (by omega)]; exact hl) ) (leA.refl rfl) rfl ?_
 conv=>whnf
 refine Need.mk (by rw [Qn]; omega) ?_
 ((conv=>whnf);(repeat' ((first|refine Nd ?_|refine Hv fun _h=>?_);conv=>whnf)))
theorem QqR : HB 102 := hB Tryz.func102
theorem Qs1 (b : ByteArray) (hb : b.size ≤ 20) : PS 101 [.c (.str b), .c (.int .i64 20)] (.c (.str (padS b))) := by
 refine PSpec.rm ?_
 refine ov hΓ Tryz.func101 18 0 [.tmp 4] Tryz.ntmps101 Tryz.results101 ?_
 ((conv=>whnf);(repeat' ((first|refine Nd ?_|refine Hv fun _h=>?_);conv=>whnf)))
 refine Br.of (fun h=>?_) (fun h=>?_)<;>(try simp only [Int.toNat_natCast] at h)<;>(conv=>whnf)
 ·((conv=>whnf);(repeat' ((first|refine Nd ?_|refine Hv fun _h=>?_);conv=>whnf)))
  have : b.size = 20 := by omega
  exact RM.imm rfl (wkS.c (wkC.str (by simp [padS, this])))
 ·((conv=>whnf);(repeat' ((first|refine Nd ?_|refine Hv fun _h=>?_);conv=>whnf)))
  have w0 := Qa (20 - (b.size : Int)) (by omega) (by omega)
  have n0 : ((20 : Int) - (b.size : Int)).toNat = 20 - b.size := by omega
  rw [w0]
  ((conv=>whnf);(repeat' ((first|refine Nd ?_|refine Hv fun _h=>?_);conv=>whnf)))
  rw [n0]
  refine Need.mk (fun i hi => ⟨0, rfl⟩) ?_
  conv=>whnf
  refine Need.mk (by rw [QaZ]; omega) ?_
  ((conv=>whnf);(repeat' ((first|refine Nd ?_|refine Hv fun _h=>?_);conv=>whnf)))
  refine RM.imm rfl (wkS.c (wkC.str ?_))
  simp only [padS]
  rw [if_pos (by omega)]
  rfl
theorem Qtu : HB 101 := hB Tryz.func101
theorem Qhl (r : Rec) : PS 72 [r.s] (.c (.int .i64 (QB r))) := by
 refine ov hΓ Tryz.func72 67 0 [.tmp 2] Tryz.ntmps72 Tryz.results72 ?_
 ((conv=>whnf);(repeat' ((first|refine Nd ?_|refine Hv fun _h=>?_);conv=>whnf)))
 (first|refine Br.od (fun h1=>?_) (fun h1=>?_)|refine Br.mk (fun h1=>?_) (fun h1=>?_)<;>simp [-List.length_eq_zero_iff,-List.getD_eq_getElem?_getD] at h1)<;>(try simp only [Int.toNat_natCast] at h1)<;>(conv=>whnf)
 ·((conv=>whnf);(repeat' ((first|refine Nd ?_|refine Hv fun _h=>?_);conv=>whnf)))
  have : decide (1 ≤ r.kind ∧ r.kind ≤ 6) = false := by simp only [decide_eq_false_iff_not]; omega
  simp only [QB, this]; rfl
 ·((conv=>whnf);(repeat' ((first|refine Nd ?_|refine Hv fun _h=>?_);conv=>whnf)))
  have e1 : decide (1 ≤ r.kind ∧ r.kind ≤ 6) = true := by simp only [decide_eq_true_eq]; omega
  (first|refine Br.od (fun h2=>?_) (fun h2=>?_)|refine Br.mk (fun h2=>?_) (fun h2=>?_)<;>simp [-List.length_eq_zero_iff,-List.getD_eq_getElem?_getD] at h2)<;>(try simp only [Int.toNat_natCast] at h2)<;>(conv=>whnf)
  ·((conv=>whnf);(repeat' ((first|refine Nd ?_|refine Hv fun _h=>?_);conv=>whnf)))
   have : decide (0 ≤ r.block ∧ r.block ≤ 4294967295 ∧ 0 ≤ r.version ∧ r.version ≤ 1099511627776 ∧ 0 ≤ r.move ∧ r.move ≤ 255) = false := by simp only [decide_eq_false_iff_not]; omega
   simp only [QB, e1, this]; rfl
  ·((conv=>whnf);(repeat' ((first|refine Nd ?_|refine Hv fun _h=>?_);conv=>whnf)))
   have e2 : decide (0 ≤ r.block ∧ r.block ≤ 4294967295 ∧ 0 ≤ r.version ∧ r.version ≤ 1099511627776 ∧ 0 ≤ r.move ∧ r.move ≤ 255) = true := by simp only [decide_eq_true_eq]; omega
   have hz : r.payload = ⟨#[]⟩ ↔ r.payload.size = 0 := ⟨fun h => by rw [h]; rfl, Qu9⟩
   refine Br.of (fun h3=>?_) (fun h3=>?_)<;>(try simp only [Int.toNat_natCast] at h3)<;>(conv=>whnf)
   ·((conv=>whnf);(repeat' ((first|refine Nd ?_|refine Hv fun _h=>?_);conv=>whnf)))
    have : decide (r.payload.size ≤ 20 ∧ (r.kind = 1 → r.payload.size = 16) ∧ (r.kind = 2 → r.payload.size = 0)) = false := by
     simp [Bool.cond_eq_ite] at h3
     simp only [decide_eq_false_iff_not]
     rw [hz] at h3
     omega
    simp only [QB, e1, e2, this]; rfl
   ·((conv=>whnf);(repeat' ((first|refine Nd ?_|refine Hv fun _h=>?_);conv=>whnf)))
    have : decide (r.payload.size ≤ 20 ∧ (r.kind = 1 → r.payload.size = 16) ∧ (r.kind = 2 → r.payload.size = 0)) = true := by
     simp [Bool.cond_eq_ite] at h3
     simp only [decide_eq_true_eq]
     rw [hz] at h3
     omega
    simp only [QB, e1, e2, this]; rfl
theorem Qhx : HB 72 := hB Tryz.func72
theorem Qfc (r : Rec) : PS 58 [r.s] (.t [.inl (.str (encR r)), .inl (.int .i64 (QB r))]) := by
 refine PSpec.rm ?_
 refine ov hΓ Tryz.func58 39 0 [.tmp 2, .tmp 3] Tryz.ntmps58 Tryz.results58 ?_
 conv=>whnf
 refine CallN.pure Qhx (Qhl r ) (leA.refl rfl) rfl ?_
 ((conv=>whnf);(repeat' ((first|refine Nd ?_|refine Hv fun _h=>?_);conv=>whnf)))
 refine Br.of (fun h1=>?_) (fun h1=>?_)<;>(try simp only [Int.toNat_natCast] at h1)<;>(conv=>whnf)
 ·((conv=>whnf);(repeat' ((first|refine Nd ?_|refine Hv fun _h=>?_);conv=>whnf)))
  exact RM.imm rfl (wkS.t ⟨wkC.str (by rw [encR, if_neg h1]; rfl), wkC.imm rfl, trivial⟩)
 ·((conv=>whnf);(repeat' ((first|refine Nd ?_|refine Hv fun _h=>?_);conv=>whnf)))
  obtain ⟨hk, hr, hp⟩ := QaC h1
  refine Dr.mk hΓ hMix (by kernel_rfl) ?_; conv=>whnf
  ((conv=>whnf);(repeat' ((first|refine Nd ?_|refine Hv fun _h=>?_);conv=>whnf)))
  have lit2 : ({ data := #[90, 65] } : ByteArray).size = 2 := rfl
  have lit1 : ({ data := #[0] } : ByteArray).size = 1 := rfl
  refine CallP.mk Qeh (QeA r.kind (by omega) ) (leA.refl rfl) rfl ?_
  conv=>whnf
  refine Need.mk (by simp only [ByteArray.size_append, Qn, Qbg _ hp, lit2, lit1]; omega) ?_
  ((conv=>whnf);(repeat' ((first|refine Nd ?_|refine Hv fun _h=>?_);conv=>whnf)))
  refine CallP.mk Qeh (QeA r.payload.size (by omega) ) (leA.refl rfl) rfl ?_
  conv=>whnf
  refine Need.mk (by simp only [ByteArray.size_append, Qn, Qbg _ hp, lit2, lit1]; omega) ?_
  ((conv=>whnf);(repeat' ((first|refine Nd ?_|refine Hv fun _h=>?_);conv=>whnf)))
  refine CallP.mk QgA (QgC r.block (by omega) ) (leA.refl rfl) rfl ?_
  conv=>whnf
  refine Need.mk (by simp only [ByteArray.size_append, Qn, Qbg _ hp, lit2, lit1]; omega) ?_
  ((conv=>whnf);(repeat' ((first|refine Nd ?_|refine Hv fun _h=>?_);conv=>whnf)))
  refine CallP.mk QmA (Qlp r.version (by omega) ) (leA.refl rfl) rfl ?_
  conv=>whnf
  refine Need.mk (by simp only [ByteArray.size_append, Qn, Qbg _ hp, lit2, lit1]; omega) ?_
  ((conv=>whnf);(repeat' ((first|refine Nd ?_|refine Hv fun _h=>?_);conv=>whnf)))
  refine CallP.mk Qeh (QeA r.move (by omega) ) (leA.refl rfl) rfl ?_
  conv=>whnf
  refine Need.mk (by simp only [ByteArray.size_append, Qn, Qbg _ hp, lit2, lit1]; omega) ?_
  ((conv=>whnf);(repeat' ((first|refine Nd ?_|refine Hv fun _h=>?_);conv=>whnf)))
  refine Need.mk (by simp only [ByteArray.size_append, Qn, Qbg _ hp, lit2, lit1]; omega) ?_
  ((conv=>whnf);(repeat' ((first|refine Nd ?_|refine Hv fun _h=>?_);conv=>whnf)))
  refine CallP.mk Qtu (Qs1 r.payload hp ) (leA.refl rfl) rfl ?_
  conv=>whnf
  refine Need.mk (by simp only [ByteArray.size_append, Qn, Qbg _ hp, lit2, lit1]; omega) ?_
  ((conv=>whnf);(repeat' ((first|refine Nd ?_|refine Hv fun _h=>?_);conv=>whnf)))
  have hb := Qib hp
  refine CallN.pure QqR (Qrf (Qay r) (by omega) ) (leA.refl rfl) rfl ?_
  ((conv=>whnf);(repeat' ((first|refine Nd ?_|refine Hv fun _h=>?_);conv=>whnf)))
  exact RM.imm rfl (wkS.t ⟨wkC.str (by rw [encR, if_pos h1]), wkC.int h1.symm, trivial⟩)
theorem Qfb : HB 58 := hB Tryz.func58
theorem Qdp (r : Rec) : PS 15 [r.s] (.c (.str (encR r))) := by
 refine ov hΓ Tryz.func15 11 0 [.tmp 2] Tryz.ntmps15 Tryz.results15 ?_
 conv=>whnf
 refine CallN.pure Qfb (Qfc r ) (leA.refl rfl) rfl ?_
 ((conv=>whnf);(repeat' ((first|refine Nd ?_|refine Hv fun _h=>?_);conv=>whnf)))
theorem Qds : HB 15 := hB Tryz.func15
theorem Qc8 (d : Dev) (zone : Int) : PS 63 [d.s, .c (.int .i64 zone)] (.c (.int .i64 (Q0 d zone))) := by
 refine PSpec.rm ?_
 refine ov hΓ Tryz.func63 27 0 [.tmp 4] Tryz.ntmps63 Tryz.results63 ?_
 conv=>whnf
 refine CallN.pure Qde (Qdj d ) (leA.refl rfl) rfl ?_
 ((conv=>whnf);(repeat' ((first|refine Nd ?_|refine Hv fun _h=>?_);conv=>whnf)))
 refine Br.of (fun h1=>?_) (fun h1=>?_)<;>(try simp only [Int.toNat_natCast] at h1)<;>(conv=>whnf)
 ·((conv=>whnf);(repeat' ((first|refine Nd ?_|refine Hv fun _h=>?_);conv=>whnf)))
  exact RM.imm rfl (wkS.c (wkC.int (by simp only [Q0, if_neg h1])))
 ·((conv=>whnf);(repeat' ((first|refine Nd ?_|refine Hv fun _h=>?_);conv=>whnf)))
  (first|refine Br.od (fun h2=>?_) (fun h2=>?_)|refine Br.mk (fun h2=>?_) (fun h2=>?_)<;>simp [-List.length_eq_zero_iff,-List.getD_eq_getElem?_getD] at h2)<;>(try simp only [Int.toNat_natCast] at h2)<;>(conv=>whnf)
  ·((conv=>whnf);(repeat' ((first|refine Nd ?_|refine Hv fun _h=>?_);conv=>whnf)))
   have : decide (0 ≤ zone ∧ zone < d.zones.length) = false := by simp only [decide_eq_false_iff_not]; omega
   exact RM.imm rfl (wkS.c (wkC.int (by simp only [Q0, if_pos h1, this]; rfl)))
  ·((conv=>whnf);(repeat' ((first|refine Nd ?_|refine Hv fun _h=>?_);conv=>whnf)))
   have hr : decide (0 ≤ zone ∧ zone < d.zones.length) = true := by simp only [decide_eq_true_eq]; omega
   refine Br.of (fun h3=>?_) (fun h3=>?_)<;>(try simp only [Int.toNat_natCast] at h3)<;>(conv=>whnf)
   ·((conv=>whnf);(repeat' ((first|refine Nd ?_|refine Hv fun _h=>?_);conv=>whnf)))
    exact RM.imm rfl (wkS.c (wkC.int (by simp only [Q0, if_pos h1, hr, if_pos, if_pos h3])))
   ·((conv=>whnf);(repeat' ((first|refine Nd ?_|refine Hv fun _h=>?_);conv=>whnf)))
    exact RM.imm rfl (wkS.c (wkC.int (by simp only [Q0, if_pos h1, hr, if_pos, if_neg h3])))
theorem Qc9 : HB 63 := hB Tryz.func63
theorem QkD (z : Zone) : PS 105 [z.s] ((QaW z).s) := by
 refine PSpec.rm ?_
 refine ov hΓ Tryz.func105 10 0 [.cell 2 46] Tryz.ntmps105 Tryz.results105 ?_
 ((conv=>whnf);(repeat' ((first|refine Nd ?_|refine Hv fun _h=>?_);conv=>whnf)))
 refine Br.of (fun h=>?_) (fun h=>?_)<;>(try simp only [Int.toNat_natCast] at h)<;>(conv=>whnf)
 ·((conv=>whnf);(repeat' ((first|refine Nd ?_|refine Hv fun _h=>?_);conv=>whnf)))
  have : QaW z = ⟨0, z.durable, z.sectors⟩ := by simp only [QaW]; rw [if_pos (by omega)]
  rw [this]
  exact RM.imm rfl (wkS.imm rfl)
 ·((conv=>whnf);(repeat' ((first|refine Nd ?_|refine Hv fun _h=>?_);conv=>whnf)))
  have : QaW z = ⟨3, z.durable, z.sectors⟩ := by simp only [QaW]; rw [if_neg (by omega)]
  rw [this]
  exact RM.imm rfl (wkS.imm rfl)
theorem QkY : HB 105 := hB Tryz.func105
theorem Qci (d : Dev) (hd : d.zones.length ≤ 10000000) (zone : Int) (hz : 0 ≤ zone ∧ zone < d.zones.length) (z : Zone) : PS 66 [d.s, .c (.int .i64 zone), z.s] (({ d with zones := d.zones.set zone.toNat z } : Dev).s) := by
 refine PSpec.rm ?_
 refine ov hΓ Tryz.func66 18 0 [.cell 6 29] Tryz.ntmps66 Tryz.results66 ?_
 ((conv=>whnf);(repeat' ((first|refine Nd ?_|refine Hv fun _h=>?_);conv=>whnf)))
 have hk : zone.toNat < d.zones.length := by omega
 refine RM.devS 3 rfl (fun i hi j hj => ?_) rfl (by simp) (fun i hi j hj => ?_)
 ·exact (congrArg C.imm (Qkz hk rfl i j hj)).trans (Qqe _ _ _)
 ·exact leF.of_eq (Qkz hk rfl i j hj)
theorem Qco : HB 66 := hB Tryz.func66
theorem QkM (d : Dev) (hd : d.zones.length ≤ 10000000) (zone : Nat) (hz : zone < d.zones.length) (hno : Qw (d.zones.getD zone default).state = false) : PS 65 [d.s, .c (.int .i64 zone)] (Dev.out (QbN d zone) (Qh d zone).1) := by
 refine PSpec.rm ?_
 refine ov hΓ Tryz.func65 74 0 [.cell 4 29, .tmp 5] Tryz.ntmps65 Tryz.results65 ?_
 have hst : (d.zones.getD zone default).state ≠ 1 ∧ (d.zones.getD zone default).state ≠ 2 := by
  simp only [Qw, decide_eq_false_iff_not] at hno
  omega
 conv=>whnf
 refine CallN.pure Qca (Qb8 d ) (leA.refl rfl) rfl ?_
 ((conv=>whnf);(repeat' ((first|refine Nd ?_|refine Hv fun _h=>?_);conv=>whnf)))
 refine Br.of (fun h1=>?_) (fun h1=>?_)<;>(try simp only [Int.toNat_natCast] at h1)<;>(conv=>whnf)
 ·((conv=>whnf);(repeat' ((first|refine Nd ?_|refine Hv fun _h=>?_);conv=>whnf)))
  refine Lp.mk hΓ (ι := Nat) (fun k => [(9, .c (.int .i64 k)), (2, .c (.ptr 0 0)), (4, .c (.ptr 1 0)), (6, .c (.ptr 2 0)), (1, .c (.int .i64 zone))])
   (fun _ => [.vr d.cells, .vr [.int .i64 0, .int .i64 0, .int .i64 0, .nils], .vr d.cells]) (fun k => k ≤ d.zones.length ∧ ∀ i, i < k → (d.zones.getD i default).state ≠ 1) (fun k => d.zones.length - k) 0 ⟨Nat.zero_le _, fun i hi => by omega⟩ ?_ ?_
  ·exact Mv.mk' 3 rfl ⟨O.wk.vr (Qr rfl), O.wk.vr (Qr rfl), O.wk.vr (Qr rfl), trivial⟩ ⟨wkS.imm rfl, wkS.c (wkC.ptr (by decide)), wkS.c (wkC.ptr (by decide)), wkS.c (wkC.ptr (by decide)), wkS.imm rfl, trivial⟩ (Nat.zero_le _)
  ·rintro k ⟨hk, hka⟩
   ((conv=>whnf);(repeat' ((first|refine Nd ?_|refine Hv fun _h=>?_);conv=>whnf)))
   (first|refine Br.od (fun h=>?_) (fun h=>?_)|refine Br.mk (fun h=>?_) (fun h=>?_)<;>simp [-List.length_eq_zero_iff,-List.getD_eq_getElem?_getD] at h)<;>(try simp only [Int.toNat_natCast] at h)<;>(conv=>whnf)
   ·((conv=>whnf);(repeat' ((first|refine Nd ?_|refine Hv fun _h=>?_);conv=>whnf)))
    have w0 := Qa (↑k + 1) (by omega) (by omega)
    refine ⟨k + 1, ⟨by omega, fun i hi => ?_⟩, by omega, Mv.mk' 3 rfl ⟨O.wk.vr (Qr rfl), O.wk.vr (Qr rfl), O.wk.vr (Qr rfl), trivial⟩ ⟨wkS.c (wkC.int (by rw [w0]; rfl)), wkS.c (wkC.ptr (by decide)), wkS.c (wkC.ptr (by decide)), wkS.c (wkC.ptr (by decide)), wkS.imm rfl, trivial⟩ (Nat.zero_le _)⟩
    by_cases c : i = k
    ·subst c; simpa using h.2
    ·exact hka i (by omega)
   ·((conv=>whnf);(repeat' ((first|refine Nd ?_|refine Hv fun _h=>?_);conv=>whnf)))
    refine Br.of (fun h3=>?_) (fun h3=>?_)<;>(try simp only [Int.toNat_natCast] at h3)<;>(conv=>whnf)
    ·((conv=>whnf);(repeat' ((first|refine Nd ?_|refine Hv fun _h=>?_);conv=>whnf)))
     have : k = d.zones.length := by omega
     subst this
     have hr : Qh d zone = (8, d.zones) := by
      simp only [Qh]
      rw [if_pos (by omega), if_neg (by rw [Qfw _ hka]; omega)]
     rw [show QbN d zone = d by simp only [QbN, hr]; rfl, hr]
     exact RM.imm rfl (wkS.imm rfl)
    ·((conv=>whnf);(repeat' ((first|refine Nd ?_|refine Hv fun _h=>?_);conv=>whnf)))
     have hlt : k < d.zones.length := by omega
     have hk1 : (d.zones.getD k default).state = 1 := by simpa using h (by omega)
     have hfo : QV d.zones = k := Qfx _ _ hlt hka hk1
     have hr0 : Qh d zone = if ((QX d.zones k).getD zone default).state ≠ 3 ∧ d.maxActive ≤ Qk (QX d.zones k) then (9, QX d.zones k) else (0, QX d.zones k) := by
      simp only [Qh]
      rw [if_pos (by omega), if_pos (by omega), hfo]
     rw [QmH _ _ _ hz hk1 hno] at hr0
     refine Dr.mk hΓ hMix (by kernel_rfl) ?_; conv=>whnf
     ((conv=>whnf);(repeat' ((first|refine Nd ?_|refine Hv fun _h=>?_);conv=>whnf)))
     refine CallP.mk QkY (QkD (d.zones.getD k default) ) (leA.refl rfl) rfl ?_
     ((conv=>whnf);(repeat' ((first|refine Nd ?_|refine Hv fun _h=>?_);conv=>whnf)))
     refine CallP.mk Qco (Qci d hd k (by omega) (QaW (d.zones.getD k default)) ) (leA.refl rfl) rfl ?_
     ((conv=>whnf);(repeat' ((first|refine Nd ?_|refine Hv fun _h=>?_);conv=>whnf)))
     refine CallN.pure Qca (Qb8 ({ d with zones := (QX d.zones k) } : Dev) ) (leA.refl rfl) rfl ?_
     ((conv=>whnf);(repeat' ((first|refine Nd ?_|refine Hv fun _h=>?_);conv=>whnf)))
     refine CallN.pure Qb7 (Qb4 _ ) (leA.refl rfl) rfl ?_
     ((conv=>whnf);(repeat' ((first|refine Nd ?_|refine Hv fun _h=>?_);conv=>whnf)))
     (first|refine Br.od (fun h5=>?_) (fun h5=>?_)|refine Br.mk (fun h5=>?_) (fun h5=>?_)<;>simp [-List.length_eq_zero_iff,-List.getD_eq_getElem?_getD] at h5)<;>(try simp only [Int.toNat_natCast] at h5)<;>(conv=>whnf)
     ·((conv=>whnf);(repeat' ((first|refine Nd ?_|refine Hv fun _h=>?_);conv=>whnf)))
      have hr : Qh d zone = (9, (QX d.zones k)) := by
       rw [hr0]
       refine if_pos ?_
       have := hst
       simp only [QI, decide_eq_false_iff_not] at h5
       omega
      rw [show QbN d zone = d by simp only [QbN, hr]; rfl, hr]
      exact RM.imm rfl (wkS.imm rfl)
     ·((conv=>whnf);(repeat' ((first|refine Nd ?_|refine Hv fun _h=>?_);conv=>whnf)))
      have hr : Qh d zone = (0, (QX d.zones k)) := by
       rw [hr0]
       refine if_neg ?_
       simp only [QI, decide_eq_false_iff_not] at h5
       have := hst
       omega
      rw [show QbN d zone = { d with zones := (QX d.zones k) } by simp only [QbN, hr]; rfl, hr]
      exact RM.imm rfl (wkS.imm rfl)
 ·((conv=>whnf);(repeat' ((first|refine Nd ?_|refine Hv fun _h=>?_);conv=>whnf)))
  have hr0 : Qh d zone = if (d.zones.getD zone default).state ≠ 3 ∧ d.maxActive ≤ Qk d.zones then (9, d.zones) else (0, d.zones) := by
   simp only [Qh]
   rw [if_neg (by omega)]
  refine CallN.pure Qca (Qb8 ({ d with zones := d.zones } : Dev) ) (leA.refl rfl) rfl ?_
  ((conv=>whnf);(repeat' ((first|refine Nd ?_|refine Hv fun _h=>?_);conv=>whnf)))
  refine CallN.pure Qb7 (Qb4 _ ) (leA.refl rfl) rfl ?_
  ((conv=>whnf);(repeat' ((first|refine Nd ?_|refine Hv fun _h=>?_);conv=>whnf)))
  (first|refine Br.od (fun h5=>?_) (fun h5=>?_)|refine Br.mk (fun h5=>?_) (fun h5=>?_)<;>simp [-List.length_eq_zero_iff,-List.getD_eq_getElem?_getD] at h5)<;>(try simp only [Int.toNat_natCast] at h5)<;>(conv=>whnf)
  ·((conv=>whnf);(repeat' ((first|refine Nd ?_|refine Hv fun _h=>?_);conv=>whnf)))
   have hr : Qh d zone = (9, d.zones) := by
    rw [hr0]
    refine if_pos ?_
    have := hst
    simp only [QI, decide_eq_false_iff_not] at h5
    omega
   rw [show QbN d zone = d by simp only [QbN, hr]; rfl, hr]
   exact RM.imm rfl (wkS.imm rfl)
  ·((conv=>whnf);(repeat' ((first|refine Nd ?_|refine Hv fun _h=>?_);conv=>whnf)))
   have hr : Qh d zone = (0, d.zones) := by
    rw [hr0]
    refine if_neg ?_
    simp only [QI, decide_eq_false_iff_not] at h5
    have := hst
    omega
   rw [show QbN d zone = { d with zones := d.zones } by simp only [QbN, hr]; rfl, hr]
   exact RM.imm rfl (wkS.imm rfl)
theorem QkG : HB 65 := hB Tryz.func65
set_option maxRecDepth 100000 in
theorem Qcb (d : Dev) (hd : d.small) (zone : Int) (s : ByteArray) : PS 29 [d.s, .c (.int .i64 zone), .c (.str s)] (Dev.out3 (QN d zone s) (Qbj d zone s) (QT d zone s)) := by
 refine PSpec.rm ?_
 refine ov hΓ Tryz.func29 111 0 [.cell 6 29, .tmp 7, .tmp 8] Tryz.ntmps29 Tryz.results29 ?_
 have bad : ∀ e ts, QT d zone s = e → e ≠ 0 → RM 0 (.t [.inr d.cells, .inl (.int .i64 0), .inl (.int .i64 e)]) ts (Dev.out3 (QN d zone s) (Qbj d zone s) (QT d zone s)) [] := by
  intro e ts h1 h2
  have h3 : ¬ QT d zone s = 0 := by rw [h1]; exact h2
  rw [show QN d zone s = d by simp only [QN, if_neg h3], show Qbj d zone s = 0 by simp only [Qbj, if_neg h3], h1]
  exact RM.imm rfl (wkS.imm rfl)
 conv=>whnf
 refine CallN.pure Qde (Qdj d ) (leA.refl rfl) rfl ?_
 ((conv=>whnf);(repeat' ((first|refine Nd ?_|refine Hv fun _h=>?_);conv=>whnf)))
 refine Br.of (fun h1=>?_) (fun h1=>?_)<;>(try simp only [Int.toNat_natCast] at h1)<;>(conv=>whnf)
 ·((conv=>whnf);(repeat' ((first|refine Nd ?_|refine Hv fun _h=>?_);conv=>whnf)))
  exact bad _ _ (by simp only [QT, if_neg h1]) h1
 ·((conv=>whnf);(repeat' ((first|refine Nd ?_|refine Hv fun _h=>?_);conv=>whnf)))
  (first|refine Br.od (fun h2=>?_) (fun h2=>?_)|refine Br.mk (fun h2=>?_) (fun h2=>?_)<;>simp [-List.length_eq_zero_iff,-List.getD_eq_getElem?_getD] at h2)<;>(try simp only [Int.toNat_natCast] at h2)<;>(conv=>whnf)
  ·((conv=>whnf);(repeat' ((first|refine Nd ?_|refine Hv fun _h=>?_);conv=>whnf)))
   have : decide (0 ≤ zone ∧ zone < d.zones.length) = false := by simp only [decide_eq_false_iff_not]; omega
   exact bad _ _ (by simp only [QT, if_pos h1, this]; rfl) (by decide)
  ·((conv=>whnf);(repeat' ((first|refine Nd ?_|refine Hv fun _h=>?_);conv=>whnf)))
   have hrange : decide (0 ≤ zone ∧ zone < d.zones.length) = true := by simp only [decide_eq_true_eq]; omega
   have hk : zone.toNat < d.zones.length := by omega
   refine Br.of (fun h3=>?_) (fun h3=>?_)<;>(try simp only [Int.toNat_natCast] at h3)<;>(conv=>whnf)
   ·((conv=>whnf);(repeat' ((first|refine Nd ?_|refine Hv fun _h=>?_);conv=>whnf)))
    exact bad _ _ (by simp only [QT, if_pos h1, hrange, if_pos]; rw [if_neg (by omega)]) (by decide)
   ·((conv=>whnf);(repeat' ((first|refine Nd ?_|refine Hv fun _h=>?_);conv=>whnf)))
    have h40 : s.size = 40 := by omega
    refine Br.of (fun h5=>?_) (fun h5=>?_)<;>(try simp only [Int.toNat_natCast] at h5)<;>(conv=>whnf)
    ·((conv=>whnf);(repeat' ((first|refine Nd ?_|refine Hv fun _h=>?_);conv=>whnf)))
     exact bad _ _ (by simp only [QT, if_pos h1, hrange, if_pos, if_pos h40, if_pos h5]) (by decide)
    ·((conv=>whnf);(repeat' ((first|refine Nd ?_|refine Hv fun _h=>?_);conv=>whnf)))
     refine Br.of (fun h4=>?_) (fun h4=>?_)<;>(try simp only [Int.toNat_natCast] at h4)<;>(conv=>whnf)
     ·((conv=>whnf);(repeat' ((first|refine Nd ?_|refine Hv fun _h=>?_);conv=>whnf)))
      exact bad _ _ (by simp only [QT, if_pos h1, hrange, if_pos, if_pos h40, if_neg h5, if_pos h4]) (by decide)
     ·((conv=>whnf);(repeat' ((first|refine Nd ?_|refine Hv fun _h=>?_);conv=>whnf)))
      refine CallN.pure Qbv (Qby _ ) (leA.refl rfl) rfl ?_
      ((conv=>whnf);(repeat' ((first|refine Nd ?_|refine Hv fun _h=>?_);conv=>whnf)))
      have hm : (d.zones.getD zone.toNat default).sectors.length ≤ 10000000 := hd.s _
      have hz := hd.z
      refine Br.of (fun ho=>?_) (fun ho=>?_)<;>(try simp only [Int.toNat_natCast] at ho)<;>(conv=>whnf)
      ·((conv=>whnf);(repeat' ((first|refine Nd ?_|refine Hv fun _h=>?_);conv=>whnf)))
       have hE : QT d zone s = (Qh d zone.toNat).1 := by
        simp only [QT, if_pos h1, hrange, if_pos, if_pos h40, if_neg h5, if_neg h4]; rw [ho]; rfl
       have hL : Qax d zone.toNat = (Qh d zone.toNat).2 := by simp only [Qax]; rw [ho]; rfl
       have hlen := Qki d zone.toNat
       have hsec := Qgc d zone.toNat zone.toNat
       have hm' : ((Qh d zone.toNat).2.getD zone.toNat default).sectors.length ≤ 10000000 := by rw [hsec]; exact hm
       have hcl := Qmj d zone.toNat zone.toNat ho
       have hzz : zone = (zone.toNat : Int) := by omega
       refine CallN.pure QkG (QkM d hd.z zone.toNat hk ho) (leA.cons rfl (wkS.imm rfl) (leA.cons rfl (wkS.c (wkC.int hzz)) leA.nil)) rfl ?_
       by_cases hr0 : (Qh d zone.toNat).1 = 0
       ·have hE0 : QT d zone s = 0 := by rw [hE, hr0]
        have hI : Qbj d zone s = ((Qh d zone.toNat).2.getD zone.toNat default).sectors.length := by simp only [Qbj, if_pos hE0, hsec]
        rw [hr0, show QbN d zone.toNat = { d with zones := (Qh d zone.toNat).2 } by simp only [QbN, if_pos hr0]]
        ((conv=>whnf);(repeat' ((first|refine Nd ?_|refine Hv fun _h=>?_);conv=>whnf)))
        refine Br.no rfl ?_; conv=>whnf
        ((conv=>whnf);(repeat' ((first|refine Nd ?_|refine Hv fun _h=>?_);conv=>whnf)))
        have hk' : zone.toNat < (Qh d zone.toNat).2.length := by omega
        have himm : ∀ i, i < 0 + ((Qh d zone.toNat).2.getD zone.toNat default).sectors.length + 1 → ∀ j, j < 1 → (appG (appG (Qaf 1 []) 0 (fun i _ => .str (((Qh d zone.toNat).2.getD zone.toNat default).sectors.getD i ByteArray.empty))) (0 + ((Qh d zone.toNat).2.getD zone.toNat default).sectors.length) (Qaf 1 [.str s]) i j).imm = true := by
         intro i hi j hj
         have : j = 0 := by omega
         subst this
         rw [Nat.zero_add] at hi ⊢
         rw [QdW _ _ _ _ _ hi]
         rfl
        have hcel : ∀ i, i < 0 + ((Qh d zone.toNat).2.getD zone.toNat default).sectors.length + 1 → ∀ j, j < 1 → leF (appG (appG (Qaf 1 []) 0 (fun i _ => .str (((Qh d zone.toNat).2.getD zone.toNat default).sectors.getD i ByteArray.empty))) (0 + ((Qh d zone.toNat).2.getD zone.toNat default).sectors.length) (Qaf 1 [.str s]) i j) (.str ((((Qh d zone.toNat).2.getD zone.toNat default).sectors ++ [s]).getD i ByteArray.empty)) := by
         intro i hi j hj
         have : j = 0 := by omega
         subst this
         rw [Nat.zero_add] at hi ⊢
         exact leF.of_eq (QdW _ _ _ _ _ hi)
        refine CallN.pure Qbv (Qby _ ) (leA.refl rfl) rfl ?_
        ((conv=>whnf);(repeat' ((first|refine Nd ?_|refine Hv fun _h=>?_);conv=>whnf)))
        refine Br.yes (by rw [hcl]; rfl) ?_
        ((conv=>whnf);(repeat' ((first|refine Nd ?_|refine Hv fun _h=>?_);conv=>whnf)))
        refine Br.of (fun hs=>?_) (fun hs=>?_)<;>(try simp only [Int.toNat_natCast] at hs)<;>(conv=>whnf)
        ·((conv=>whnf);(repeat' ((first|refine Nd ?_|refine Hv fun _h=>?_);conv=>whnf)))
         try dsimp only at hs
         refine Dr.mkS hΓ hMix [(0,3),(1,3)] (by kernel_rfl) ?_; conv=>whnf
         ((conv=>whnf);(repeat' ((first|refine Nd ?_|refine Hv fun _h=>?_);conv=>whnf)))
         refine Dr.mv [(10, .c (.ptr 2 0)), (1, .c (.int .i64 zone)), (13, .c (.ptr 4 0)), (6, .c (.ptr 1 0))] [.vr d.cells, .vr [.int .i64 0, .int .i64 0, .int .i64 0, .nils], .vr ({ d with zones := (Qh d zone.toNat).2 } : Dev).cells, .vr ({ d with zones := (Qh d zone.toNat).2 } : Dev).cells, .vr [.int .i64 4, .int .i64 d.size, Qcs (((Qh d zone.toNat).2.getD zone.toNat default).sectors ++ [s])]] ((Mv.fz 5 rfl (Nat.zero_le _) himm).trans (Mv.mk' 5 rfl ⟨O.wk.vr (Qr rfl), O.wk.vr (Qr rfl), O.wk.vr (Qr rfl), O.wk.vr (Qr rfl), O.wk.vr ⟨wkC.imm rfl, wkC.imm rfl, wkC.fz (by simp) (by simp) hcel (fun e => by cases e), trivial⟩, trivial⟩
          ⟨wkS.c (wkC.ptr (by decide)), wkS.imm rfl, wkS.c (wkC.ptr (by decide)), wkS.c (wkC.ptr (by decide)), trivial⟩ (Nat.zero_le _))) ?_
         refine Dr.mkS hΓ hMix [(4,8),(5,8),(6,8),(7,8)] (by kernel_rfl) ?_; conv=>whnf
         ((conv=>whnf);(repeat' ((first|refine Nd ?_|refine Hv fun _h=>?_);conv=>whnf)))
         refine CallP.mk Qco (Qci ({ d with zones := (Qh d zone.toNat).2 } : Dev) (show (Qh d zone.toNat).2.length ≤ 10000000 by omega) zone (show 0 ≤ zone ∧ zone < ((Qh d zone.toNat).2.length : Int) by omega) ⟨4, d.size, ((Qh d zone.toNat).2.getD zone.toNat default).sectors ++ [s]⟩ ) (leA.refl rfl) rfl ?_
         ((conv=>whnf);(repeat' ((first|refine Nd ?_|refine Hv fun _h=>?_);conv=>whnf)))
         have hD : QN d zone s = { d with zones := (Qh d zone.toNat).2.set zone.toNat ⟨4, d.size, ((Qh d zone.toNat).2.getD zone.toNat default).sectors ++ [s]⟩ } := by
          simp only [QN, if_pos hE0, hL, grow]
          rw [if_pos (by omega)]
         rw [hD, hI, hE0]
         refine RM.imm rfl (wkS.t ⟨Qr rfl, wkC.int ?_, wkC.imm rfl, trivial⟩)
         simp only [List.length_append, List.length_cons, List.length_nil]
         rw [Qa _ (by omega) (by omega)]; omega
        ·((conv=>whnf);(repeat' ((first|refine Nd ?_|refine Hv fun _h=>?_);conv=>whnf)))
         try dsimp only at hs
         refine Dr.mv [(10, .c (.ptr 2 0)), (1, .c (.int .i64 zone)), (13, .c (.ptr 4 0)), (6, .c (.ptr 1 0))] [.vr d.cells, .vr [.int .i64 0, .int .i64 0, .int .i64 0, .nils], .vr ({ d with zones := (Qh d zone.toNat).2 } : Dev).cells, .vr ({ d with zones := (Qh d zone.toNat).2 } : Dev).cells, .vr [.int .i64 1, .int .i64 ((Qh d zone.toNat).2.getD zone.toNat default).durable, Qcs (((Qh d zone.toNat).2.getD zone.toNat default).sectors ++ [s])]] ((Mv.fz 5 rfl (Nat.zero_le _) himm).trans (Mv.mk' 5 rfl ⟨O.wk.vr (Qr rfl), O.wk.vr (Qr rfl), O.wk.vr (Qr rfl), O.wk.vr (Qr rfl), O.wk.vr ⟨wkC.imm rfl, wkC.imm rfl, wkC.fz (by simp) (by simp) hcel (fun e => by cases e), trivial⟩, trivial⟩
          ⟨wkS.c (wkC.ptr (by decide)), wkS.imm rfl, wkS.c (wkC.ptr (by decide)), wkS.c (wkC.ptr (by decide)), trivial⟩ (Nat.zero_le _))) ?_
         refine Dr.mkS hΓ hMix [(4,8),(5,8),(6,8),(7,8)] (by kernel_rfl) ?_; conv=>whnf
         ((conv=>whnf);(repeat' ((first|refine Nd ?_|refine Hv fun _h=>?_);conv=>whnf)))
         refine CallP.mk Qco (Qci ({ d with zones := (Qh d zone.toNat).2 } : Dev) (show (Qh d zone.toNat).2.length ≤ 10000000 by omega) zone (show 0 ≤ zone ∧ zone < ((Qh d zone.toNat).2.length : Int) by omega) ⟨1, ((Qh d zone.toNat).2.getD zone.toNat default).durable, ((Qh d zone.toNat).2.getD zone.toNat default).sectors ++ [s]⟩ ) (leA.refl rfl) rfl ?_
         ((conv=>whnf);(repeat' ((first|refine Nd ?_|refine Hv fun _h=>?_);conv=>whnf)))
         have hD : QN d zone s = { d with zones := (Qh d zone.toNat).2.set zone.toNat ⟨1, ((Qh d zone.toNat).2.getD zone.toNat default).durable, ((Qh d zone.toNat).2.getD zone.toNat default).sectors ++ [s]⟩ } := by
          simp only [QN, if_pos hE0, hL, grow]
          rw [if_neg (by omega), hcl]; rfl
         rw [hD, hI, hE0]
         refine RM.imm rfl (wkS.t ⟨Qr rfl, wkC.int ?_, wkC.imm rfl, trivial⟩)
         simp only [List.length_append, List.length_cons, List.length_nil]
         rw [Qa _ (by omega) (by omega)]; omega
       ·rw [show QbN d zone.toNat = d by simp only [QbN, if_neg hr0]]
        ((conv=>whnf);(repeat' ((first|refine Nd ?_|refine Hv fun _h=>?_);conv=>whnf)))
        refine Br.of (fun h6=>?_) (fun h6=>?_)<;>(try simp only [Int.toNat_natCast] at h6)<;>(conv=>whnf)
        ·((conv=>whnf);(repeat' ((first|refine Nd ?_|refine Hv fun _h=>?_);conv=>whnf)))
         try dsimp only at hs
         exact bad _ _ hE hr0
        ·exact absurd h6 hr0
      ·((conv=>whnf);(repeat' ((first|refine Nd ?_|refine Hv fun _h=>?_);conv=>whnf)))
       have hE0 : QT d zone s = 0 := by
        simp only [QT, if_pos h1, hrange, if_pos, if_pos h40, if_neg h5, if_neg h4]; rw [ho]; rfl
       have hL : Qax d zone.toNat = d.zones := by simp only [Qax]; rw [ho]; rfl
       have hI : Qbj d zone s = (d.zones.getD zone.toNat default).sectors.length := by simp only [Qbj, if_pos hE0]
       have hk' : zone.toNat < d.zones.length := by omega
       have himm : ∀ i, i < 0 + (d.zones.getD zone.toNat default).sectors.length + 1 → ∀ j, j < 1 → (appG (appG (Qaf 1 []) 0 (fun i _ => .str ((d.zones.getD zone.toNat default).sectors.getD i ByteArray.empty))) (0 + (d.zones.getD zone.toNat default).sectors.length) (Qaf 1 [.str s]) i j).imm = true := by
        intro i hi j hj
        have : j = 0 := by omega
        subst this
        rw [Nat.zero_add] at hi ⊢
        rw [QdW _ _ _ _ _ hi]
        rfl
       have hcel : ∀ i, i < 0 + (d.zones.getD zone.toNat default).sectors.length + 1 → ∀ j, j < 1 → leF (appG (appG (Qaf 1 []) 0 (fun i _ => .str ((d.zones.getD zone.toNat default).sectors.getD i ByteArray.empty))) (0 + (d.zones.getD zone.toNat default).sectors.length) (Qaf 1 [.str s]) i j) (.str (((d.zones.getD zone.toNat default).sectors ++ [s]).getD i ByteArray.empty)) := by
        intro i hi j hj
        have : j = 0 := by omega
        subst this
        rw [Nat.zero_add] at hi ⊢
        exact leF.of_eq (QdW _ _ _ _ _ hi)
       refine CallN.pure Qbv (Qby _ ) (leA.refl rfl) rfl ?_
       ((conv=>whnf);(repeat' ((first|refine Nd ?_|refine Hv fun _h=>?_);conv=>whnf)))
       refine Br.no (by rw [ho]; rfl) ?_
       ((conv=>whnf);(repeat' ((first|refine Nd ?_|refine Hv fun _h=>?_);conv=>whnf)))
       refine Br.of (fun hs=>?_) (fun hs=>?_)<;>(try simp only [Int.toNat_natCast] at hs)<;>(conv=>whnf)
       ·((conv=>whnf);(repeat' ((first|refine Nd ?_|refine Hv fun _h=>?_);conv=>whnf)))
        try dsimp only at hs
        refine Dr.mkS hΓ hMix [(0,3),(1,3)] (by kernel_rfl) ?_; conv=>whnf
        ((conv=>whnf);(repeat' ((first|refine Nd ?_|refine Hv fun _h=>?_);conv=>whnf)))
        refine Dr.mv [(10, .c (.ptr 2 0)), (1, .c (.int .i64 zone)), (13, .c (.ptr 3 0)), (6, .c (.ptr 1 0))] [.vr d.cells, .vr [.int .i64 0, .int .i64 0, .int .i64 0, .nils], .vr ({ d with zones := d.zones } : Dev).cells, .vr [.int .i64 4, .int .i64 d.size, Qcs ((d.zones.getD zone.toNat default).sectors ++ [s])]] ((Mv.fz 4 rfl (Nat.zero_le _) himm).trans (Mv.mk' 4 rfl ⟨O.wk.vr (Qr rfl), O.wk.vr (Qr rfl), O.wk.vr (Qr rfl), O.wk.vr ⟨wkC.imm rfl, wkC.imm rfl, wkC.fz (by simp) (by simp) hcel (fun e => by cases e), trivial⟩, trivial⟩
         ⟨wkS.c (wkC.ptr (by decide)), wkS.imm rfl, wkS.c (wkC.ptr (by decide)), wkS.c (wkC.ptr (by decide)), trivial⟩ (Nat.zero_le _))) ?_
        refine Dr.mkS hΓ hMix [(4,8),(5,8),(6,8),(7,8)] (by kernel_rfl) ?_; conv=>whnf
        ((conv=>whnf);(repeat' ((first|refine Nd ?_|refine Hv fun _h=>?_);conv=>whnf)))
        refine CallP.mk Qco (Qci ({ d with zones := d.zones } : Dev) (show d.zones.length ≤ 10000000 by omega) zone (show 0 ≤ zone ∧ zone < (d.zones.length : Int) by omega) ⟨4, d.size, (d.zones.getD zone.toNat default).sectors ++ [s]⟩ ) (leA.refl rfl) rfl ?_
        ((conv=>whnf);(repeat' ((first|refine Nd ?_|refine Hv fun _h=>?_);conv=>whnf)))
        have hD : QN d zone s = { d with zones := d.zones.set zone.toNat ⟨4, d.size, (d.zones.getD zone.toNat default).sectors ++ [s]⟩ } := by
         simp only [QN, if_pos hE0, hL, grow]
         rw [if_pos (by omega)]
        rw [hD, hI, hE0]
        refine RM.imm rfl (wkS.t ⟨Qr rfl, wkC.int ?_, wkC.imm rfl, trivial⟩)
        simp only [List.length_append, List.length_cons, List.length_nil]
        rw [Qa _ (by omega) (by omega)]; omega
       ·((conv=>whnf);(repeat' ((first|refine Nd ?_|refine Hv fun _h=>?_);conv=>whnf)))
        try dsimp only at hs
        refine Dr.mv [(10, .c (.ptr 2 0)), (1, .c (.int .i64 zone)), (13, .c (.ptr 3 0)), (6, .c (.ptr 1 0))] [.vr d.cells, .vr [.int .i64 0, .int .i64 0, .int .i64 0, .nils], .vr ({ d with zones := d.zones } : Dev).cells, .vr [.int .i64 (d.zones.getD zone.toNat default).state, .int .i64 (d.zones.getD zone.toNat default).durable, Qcs ((d.zones.getD zone.toNat default).sectors ++ [s])]] ((Mv.fz 4 rfl (Nat.zero_le _) himm).trans (Mv.mk' 4 rfl ⟨O.wk.vr (Qr rfl), O.wk.vr (Qr rfl), O.wk.vr (Qr rfl), O.wk.vr ⟨wkC.imm rfl, wkC.imm rfl, wkC.fz (by simp) (by simp) hcel (fun e => by cases e), trivial⟩, trivial⟩
         ⟨wkS.c (wkC.ptr (by decide)), wkS.imm rfl, wkS.c (wkC.ptr (by decide)), wkS.c (wkC.ptr (by decide)), trivial⟩ (Nat.zero_le _))) ?_
        refine Dr.mkS hΓ hMix [(4,8),(5,8),(6,8),(7,8)] (by kernel_rfl) ?_; conv=>whnf
        ((conv=>whnf);(repeat' ((first|refine Nd ?_|refine Hv fun _h=>?_);conv=>whnf)))
        refine CallP.mk Qco (Qci ({ d with zones := d.zones } : Dev) (show d.zones.length ≤ 10000000 by omega) zone (show 0 ≤ zone ∧ zone < (d.zones.length : Int) by omega) ⟨(d.zones.getD zone.toNat default).state, (d.zones.getD zone.toNat default).durable, (d.zones.getD zone.toNat default).sectors ++ [s]⟩ ) (leA.refl rfl) rfl ?_
        ((conv=>whnf);(repeat' ((first|refine Nd ?_|refine Hv fun _h=>?_);conv=>whnf)))
        have hD : QN d zone s = { d with zones := d.zones.set zone.toNat ⟨(d.zones.getD zone.toNat default).state, (d.zones.getD zone.toNat default).durable, (d.zones.getD zone.toNat default).sectors ++ [s]⟩ } := by
         simp only [QN, if_pos hE0, hL, grow]
         rw [if_neg (by omega), ho]; rfl
        rw [hD, hI, hE0]
        refine RM.imm rfl (wkS.t ⟨Qr rfl, wkC.int ?_, wkC.imm rfl, trivial⟩)
        simp only [List.length_append, List.length_cons, List.length_nil]
        rw [Qa _ (by omega) (by omega)]; omega
theorem Qb5 : HB 29 := hB Tryz.func29
end Go.Proofs
end
