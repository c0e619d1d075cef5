/- Contracts and plain lemmas of this seat; no condition. -/
import Derived.Test.YtmollgldghpbkaaGreatModA
import Derived.Test.YtmollgldghpbkaaGreatEnv
set_option linter.unusedSimpArgs false
set_option linter.unusedVariables false
section
open Go Go.Am
namespace Go.Proofs
theorem QsV (n : Int) (hn : 0 ≤ n ∧ n < 256) : PSpec Tryz.prog 207 [.c (.int .i64 n), .c (.int .i64 1)] (.t [.inl (.str (putS n 1)), .inl (.int .i64 0)]) := by
 refine PSpec.rm ?_
 refine ov hΓ Tryz.func207 44 0 [.tmp 4, .tmp 5] Tryz.ntmps207 Tryz.results207 ?_
 refine Go0 ?_
 have e : IntKind.i64.wrap (1 * 2 ^ min (IntKind.u64.wrap (IntKind.i64.wrap (8 * 1))).toNat IntKind.i64.bits) = 256 := by decide
 refine Br.no (by rw [e]; simp; omega) ?_
 refine Go0 ?_
 refine Lp.mk hΓ (ι := Nat) (fun k => [(7, .c (.int .i64 k)), (6, .c (.sl 0 1 1 1 true)), (0, .c (.int .i64 n)), (1, .c (.int .i64 1))]) (fun k => [.arr 5 1 1 (putG n k)]) (fun k => k ≤ 1) (fun k => 1 - k) 0 (Nat.zero_le _) ?_ ?_
 ·exact Mv.mk' 1 rfl ⟨O.wk.arr rfl (fun i hi j hj => by
   have hj : j < 1 := hj
   have : j = 0 := by omega
   subst this
   exact wkC.imm rfl), trivial⟩ ⟨wkS.imm rfl, wkS.c (wkC.sl (by decide) rfl rfl (fun _ => rfl)), wkS.imm rfl, wkS.imm rfl, trivial⟩ (Nat.zero_le _)
 ·intro k hk
  refine Go0 ?_
  refine Br.of (fun h=>?_) (fun h=>?_)<;>(try simp only [Int.toNat_natCast] at h)<;>(conv=>whnf)
  ·refine Go0 ?_
   refine Need.mk (by rw [IntKind.wrap_u64]; omega) ?_
   refine Go0 ?_
   have w0 := Qa (↑k + 1) (by omega) (by omega)
   refine ⟨k + 1, by omega, by omega, Mv.mk' 1 rfl ⟨O.wk.arr rfl (fun i hi j hj => wkC.of_eq (Qgo _ _ _ _) ?_), trivial⟩ ⟨wkS.c (wkC.int (by rw [w0]; rfl)), wkS.c (wkC.sl (by decide) rfl rfl (fun e => e)), wkS.imm rfl, wkS.imm rfl, trivial⟩ (Nat.zero_le _)⟩
   have hj : j = 0 := by omega
   subst hj
   rw [Qcb]
   simp only [putG, putB, Int.toNat_natCast]
   by_cases c : i = k
   ·subst c
    simp
   ·rw [if_neg (by simp [c])]
    by_cases c2 : i < k
    ·rw [if_pos c2, if_pos (by omega)]
    ·rw [if_neg c2, if_neg (by omega)]
  ·refine Go0 ?_
   have : k = 1 := by omega
   subst this
   refine Need.mk (fun i hi => ⟨putB n i, by simp only [putG]; rw [if_pos hi]⟩) ?_
   refine Go0 ?_
   exact RM.imm rfl (wkS.t ⟨wkC.str (Qgs n 1), wkC.imm rfl, trivial⟩)
theorem Qhk (n : Int) (hn : 0 ≤ n ∧ n < 4294967296) : PSpec Tryz.prog 207 [.c (.int .i64 n), .c (.int .i64 4)] (.t [.inl (.str (putS n 4)), .inl (.int .i64 0)]) := by
 refine PSpec.rm ?_
 refine ov hΓ Tryz.func207 44 0 [.tmp 4, .tmp 5] Tryz.ntmps207 Tryz.results207 ?_
 refine Go0 ?_
 have e : IntKind.i64.wrap (1 * 2 ^ min (IntKind.u64.wrap (IntKind.i64.wrap (8 * 4))).toNat IntKind.i64.bits) = 4294967296 := by decide
 refine Br.no (by rw [e]; simp; omega) ?_
 refine Go0 ?_
 refine Lp.mk hΓ (ι := Nat) (fun k => [(7, .c (.int .i64 k)), (6, .c (.sl 0 1 4 4 true)), (0, .c (.int .i64 n)), (1, .c (.int .i64 4))]) (fun k => [.arr 5 1 4 (putG n k)]) (fun k => k ≤ 4) (fun k => 4 - k) 0 (Nat.zero_le _) ?_ ?_
 ·exact Mv.mk' 1 rfl ⟨O.wk.arr rfl (fun i hi j hj => by
   have hj : j < 1 := hj
   have : j = 0 := by omega
   subst this
   exact wkC.imm rfl), trivial⟩ ⟨wkS.imm rfl, wkS.c (wkC.sl (by decide) rfl rfl (fun _ => rfl)), wkS.imm rfl, wkS.imm rfl, trivial⟩ (Nat.zero_le _)
 ·intro k hk
  refine Go0 ?_
  refine Br.of (fun h=>?_) (fun h=>?_)<;>(try simp only [Int.toNat_natCast] at h)<;>(conv=>whnf)
  ·refine Go0 ?_
   refine Need.mk (by rw [IntKind.wrap_u64]; omega) ?_
   refine Go0 ?_
   have w0 := Qa (↑k + 1) (by omega) (by omega)
   refine ⟨k + 1, by omega, by omega, Mv.mk' 1 rfl ⟨O.wk.arr rfl (fun i hi j hj => wkC.of_eq (Qgo _ _ _ _) ?_), trivial⟩ ⟨wkS.c (wkC.int (by rw [w0]; rfl)), wkS.c (wkC.sl (by decide) rfl rfl (fun e => e)), wkS.imm rfl, wkS.imm rfl, trivial⟩ (Nat.zero_le _)⟩
   have hj : j = 0 := by omega
   subst hj
   rw [Qcb]
   simp only [putG, putB, Int.toNat_natCast]
   by_cases c : i = k
   ·subst c
    simp
   ·rw [if_neg (by simp [c])]
    by_cases c2 : i < k
    ·rw [if_pos c2, if_pos (by omega)]
    ·rw [if_neg c2, if_neg (by omega)]
  ·refine Go0 ?_
   have : k = 4 := by omega
   subst this
   refine Need.mk (fun i hi => ⟨putB n i, by simp only [putG]; rw [if_pos hi]⟩) ?_
   refine Go0 ?_
   exact RM.imm rfl (wkS.t ⟨wkC.str (Qgs n 4), wkC.imm rfl, trivial⟩)
theorem QhF (n : Int) (hn : 0 ≤ n ∧ n < 281474976710656) : PSpec Tryz.prog 207 [.c (.int .i64 n), .c (.int .i64 6)] (.t [.inl (.str (putS n 6)), .inl (.int .i64 0)]) := by
 refine PSpec.rm ?_
 refine ov hΓ Tryz.func207 44 0 [.tmp 4, .tmp 5] Tryz.ntmps207 Tryz.results207 ?_
 refine Go0 ?_
 have e : IntKind.i64.wrap (1 * 2 ^ min (IntKind.u64.wrap (IntKind.i64.wrap (8 * 6))).toNat IntKind.i64.bits) = 281474976710656 := by decide
 refine Br.no (by rw [e]; simp; omega) ?_
 refine Go0 ?_
 refine Lp.mk hΓ (ι := Nat) (fun k => [(7, .c (.int .i64 k)), (6, .c (.sl 0 1 6 6 true)), (0, .c (.int .i64 n)), (1, .c (.int .i64 6))]) (fun k => [.arr 5 1 6 (putG n k)]) (fun k => k ≤ 6) (fun k => 6 - k) 0 (Nat.zero_le _) ?_ ?_
 ·exact Mv.mk' 1 rfl ⟨O.wk.arr rfl (fun i hi j hj => by
   have hj : j < 1 := hj
   have : j = 0 := by omega
   subst this
   exact wkC.imm rfl), trivial⟩ ⟨wkS.imm rfl, wkS.c (wkC.sl (by decide) rfl rfl (fun _ => rfl)), wkS.imm rfl, wkS.imm rfl, trivial⟩ (Nat.zero_le _)
 ·intro k hk
  refine Go0 ?_
  refine Br.of (fun h=>?_) (fun h=>?_)<;>(try simp only [Int.toNat_natCast] at h)<;>(conv=>whnf)
  ·refine Go0 ?_
   refine Need.mk (by rw [IntKind.wrap_u64]; omega) ?_
   refine Go0 ?_
   have w0 := Qa (↑k + 1) (by omega) (by omega)
   refine ⟨k + 1, by omega, by omega, Mv.mk' 1 rfl ⟨O.wk.arr rfl (fun i hi j hj => wkC.of_eq (Qgo _ _ _ _) ?_), trivial⟩ ⟨wkS.c (wkC.int (by rw [w0]; rfl)), wkS.c (wkC.sl (by decide) rfl rfl (fun e => e)), wkS.imm rfl, wkS.imm rfl, trivial⟩ (Nat.zero_le _)⟩
   have hj : j = 0 := by omega
   subst hj
   rw [Qcb]
   simp only [putG, putB, Int.toNat_natCast]
   by_cases c : i = k
   ·subst c
    simp
   ·rw [if_neg (by simp [c])]
    by_cases c2 : i < k
    ·rw [if_pos c2, if_pos (by omega)]
    ·rw [if_neg c2, if_neg (by omega)]
  ·refine Go0 ?_
   have : k = 6 := by omega
   subst this
   refine Need.mk (fun i hi => ⟨putB n i, by simp only [putG]; rw [if_pos hi]⟩) ?_
   refine Go0 ?_
   exact RM.imm rfl (wkS.t ⟨wkC.str (Qgs n 6), wkC.imm rfl, trivial⟩)
theorem Qfu : HasBody Tryz.prog 207 := hB Tryz.func207
theorem Qhs : HasBody Tryz.prog 207 := Qfu
theorem Qhr : HasBody Tryz.prog 207 := Qfu
theorem QeO (n : Int) (hn : 0 ≤ n ∧ n < 256) : PSpec Tryz.prog 242 [.c (.int .i64 n), .c (.int .i64 1)] (.c (.str (putS n 1))) := by
 refine ov hΓ Tryz.func242 14 0 [.tmp 4] Tryz.ntmps242 Tryz.results242 ?_
 conv=>whnf
 refine CallN.pure Qfu (QsV n hn ) (leA.refl rfl) rfl ?_
 ((conv=>whnf);(repeat' ((first|refine Nd ?_|refine Hv fun _h=>?_);conv=>whnf)))
theorem QeG : HasBody Tryz.prog 242 := hB Tryz.func242
theorem Qg5 (n : Int) (hn : 0 ≤ n ∧ n < 4294967296) : PSpec Tryz.prog 242 [.c (.int .i64 n), .c (.int .i64 4)] (.c (.str (putS n 4))) := by
 refine ov hΓ Tryz.func242 14 0 [.tmp 4] Tryz.ntmps242 Tryz.results242 ?_
 conv=>whnf
 refine CallN.pure Qhs (Qhk n hn ) (leA.refl rfl) rfl ?_
 ((conv=>whnf);(repeat' ((first|refine Nd ?_|refine Hv fun _h=>?_);conv=>whnf)))
theorem QhU : HasBody Tryz.prog 242 := hB Tryz.func242
theorem Qno (n : Int) (hn : 0 ≤ n ∧ n < 281474976710656) : PSpec Tryz.prog 242 [.c (.int .i64 n), .c (.int .i64 6)] (.c (.str (putS n 6))) := by
 refine ov hΓ Tryz.func242 14 0 [.tmp 4] Tryz.ntmps242 Tryz.results242 ?_
 conv=>whnf
 refine CallN.pure Qhr (QhF n hn ) (leA.refl rfl) rfl ?_
 ((conv=>whnf);(repeat' ((first|refine Nd ?_|refine Hv fun _h=>?_);conv=>whnf)))
theorem QmT : HasBody Tryz.prog 242 := hB Tryz.func242
end Go.Proofs
end

section
open Go Go.Am
namespace Go.Proofs
theorem Qug (sum : Int) (b : ByteArray) (hb : b.size ≤ 10000000) : PSpec Tryz.prog 240 [.c (.int .u32 sum), .c (.str b)] (.c (.int .u32 (addU sum b))) := by
 refine ov hΓ Tryz.func240 37 0 [.tmp 4] Tryz.ntmps240 Tryz.results240 ?_
 refine Go0 ?_
 refine Lp.mk hΓ (ι := Nat) (fun k => [(6, .c (.int .i64 k)), (5, .c (.int .u32 (Qms sum b k))), (1, .c (.str b))]) (fun _ => []) (fun k => k ≤ b.size) (fun k => b.size - k) 0 (Nat.zero_le _) ?_ ?_
 ·exact Mv.mk' 0 rfl trivial ⟨wkS.imm rfl, wkS.imm rfl, wkS.imm rfl, trivial⟩ (Nat.zero_le _)
 ·intro k hk
  refine Go1 fun _h=>?_
  refine Br.of (fun h=>?_) (fun h=>?_)<;>(try simp only [Int.toNat_natCast] at h)<;>(conv=>whnf)
  ·refine Go0 ?_
   refine Lp.mk hΓ (ι := Nat) (fun j => [(7, .c (.int .i64 j)), (5, .c (.int .u32 (Qj0 Qsw j (xorU (Qms sum b k) (Qs5 b k))))), (6, .c (.int .i64 k)), (1, .c (.str b))]) (fun _ => []) (fun j => j ≤ 8) (fun j => 8 - j) 0 (Nat.zero_le _) ?_ ?_
   ·exact Mv.mk' 0 rfl trivial ⟨wkS.imm rfl, wkS.imm rfl, wkS.imm rfl, wkS.imm rfl, trivial⟩ (Nat.zero_le _)
   ·intro j hj
    refine Go0 ?_
    have w1 := Qa (↑j + 1) (by omega) (by omega)
    refine Br.of (fun h2=>?_) (fun h2=>?_)<;>(try simp only [Int.toNat_natCast] at h2)<;>(conv=>whnf)
    ·refine Go0 ?_
     refine Br.of (fun h3=>?_) (fun h3=>?_)<;>(try simp only [Int.toNat_natCast] at h3)<;>(conv=>whnf)
     ·refine Go0 ?_
      exact ⟨j + 1, by omega, by omega, Mv.mk' 0 rfl trivial ⟨wkS.c (wkC.int (by rw [w1]; rfl)), wkS.c (wkC.int (by simp only [Qj0]; exact (if_pos h3).symm)), wkS.imm rfl, wkS.imm rfl, trivial⟩ (Nat.zero_le _)⟩
     ·refine Go0 ?_
      exact ⟨j + 1, by omega, by omega, Mv.mk' 0 rfl trivial ⟨wkS.c (wkC.int (by rw [w1]; rfl)), wkS.c (wkC.int (by simp only [Qj0]; exact (if_neg h3).symm)), wkS.imm rfl, wkS.imm rfl, trivial⟩ (Nat.zero_le _)⟩
    ·refine Go0 ?_
     have : j = 8 := by omega
     subst this
     have w0 := Qa (↑k + 1) (by omega) (by omega)
     exact ⟨k + 1, by omega, by omega, Mv.mk' 0 rfl trivial ⟨wkS.c (wkC.int (by rw [w0]; rfl)), wkS.imm rfl, wkS.imm rfl, trivial⟩ (Nat.zero_le _)⟩
  ·refine Go0 ?_
   have : k = b.size := by omega
   subst this
   rfl
theorem Quh : HasBody Tryz.prog 240 := hB Tryz.func240
theorem QgH (b : ByteArray) (hb : b.size ≤ 10000000) : PSpec Tryz.prog 208 [.c (.str b)] (.c (.int .u32 (addU 0 b))) := by
 refine ov hΓ Tryz.func208 5 0 [.tmp 2] Tryz.ntmps208 Tryz.results208 ?_
 conv=>whnf
 refine CallN.pure Quh (Qug 0 b hb ) (leA.refl rfl) rfl ?_
 ((conv=>whnf);(repeat' ((first|refine Nd ?_|refine Hv fun _h=>?_);conv=>whnf)))
theorem QgB : HasBody Tryz.prog 208 := hB Tryz.func208
theorem QsH (b : ByteArray) (hb : b.size ≤ 10000000) : PSpec Tryz.prog 244 [.c (.str b)] (.c (.str (b ++ putS (IntKind.i64.wrap (addU 0 b)) 4))) := by
 refine ov hΓ Tryz.func244 9 0 [.tmp 2] Tryz.ntmps244 Tryz.results244 ?_
 conv=>whnf
 refine CallN.pure QgB (QgH b hb ) (leA.refl rfl) rfl ?_
 conv=>whnf
 have hl := Qky 0 b
 refine CallN.pure QhU (Qg5 _ (by rw [Qa _ (by omega) (by omega)]; exact hl) ) (leA.refl rfl) rfl ?_
 conv=>whnf
 refine Need.mk (by rw [Qar]; omega) ?_
 ((conv=>whnf);(repeat' ((first|refine Nd ?_|refine Hv fun _h=>?_);conv=>whnf)))
theorem Qr7 : HasBody Tryz.prog 244 := hB Tryz.func244
theorem Quf (b : ByteArray) (hb : b.size ≤ 20) : PSpec Tryz.prog 243 [.c (.str b), .c (.int .i64 20)] (.c (.str (padS b))) := by
 refine PSpec.rm ?_
 refine ov hΓ Tryz.func243 18 0 [.tmp 4] Tryz.ntmps243 Tryz.results243 ?_
 refine Go1 fun _h=>?_
 refine Br.of (fun h=>?_) (fun h=>?_)<;>(try simp only [Int.toNat_natCast] at h)<;>(conv=>whnf)
 ·refine Go0 ?_
  have : b.size = 20 := by omega
  exact RM.imm rfl (wkS.c (wkC.str (by simp [padS, this])))
 ·refine Go1 fun _h=>?_
  have w0 := Qa (20 - (b.size : Int)) (by omega) (by omega)
  have n0 : ((20 : Int) - (b.size : Int)).toNat = 20 - b.size := by omega
  rw [w0]
  refine Go0 ?_
  rw [n0]
  refine Need.mk (fun i hi => ⟨0, rfl⟩) ?_
  conv=>whnf
  refine Need.mk (by rw [QeP]; omega) ?_
  refine Go0 ?_
  refine RM.imm rfl (wkS.c (wkC.str ?_))
  simp only [padS]
  rw [if_pos (by omega)]
  rfl
theorem QtT : HasBody Tryz.prog 243 := hB Tryz.func243
end Go.Proofs
end

section
open Go Go.Am
namespace Go.Proofs
theorem Qip (r : Rec) : PSpec Tryz.prog 219 [r.s] (.c (.int .i64 (Qa0 r))) := by
 refine ov hΓ Tryz.func219 67 0 [.tmp 2] Tryz.ntmps219 Tryz.results219 ?_
 refine Go0 ?_
 (first|refine Br.od (fun h1=>?_) (fun h1=>?_)|refine Br.mk (fun h1=>?_) (fun h1=>?_)<;>simp [-List.length_eq_zero_iff,-List.getD_eq_getElem?_getD] at h1)<;>(try simp only [Int.toNat_natCast] at h1)<;>(conv=>whnf)
 ·refine Go0 ?_
  have : decide (1 ≤ r.kind ∧ r.kind ≤ 6) = false := by simp only [decide_eq_false_iff_not]; omega
  simp only [Qa0, this]; rfl
 ·refine Go0 ?_
  have e1 : decide (1 ≤ r.kind ∧ r.kind ≤ 6) = true := by simp only [decide_eq_true_eq]; omega
  (first|refine Br.od (fun h2=>?_) (fun h2=>?_)|refine Br.mk (fun h2=>?_) (fun h2=>?_)<;>simp [-List.length_eq_zero_iff,-List.getD_eq_getElem?_getD] at h2)<;>(try simp only [Int.toNat_natCast] at h2)<;>(conv=>whnf)
  ·refine Go0 ?_
   have : decide (0 ≤ r.block ∧ r.block ≤ 4294967295 ∧ 0 ≤ r.version ∧ r.version ≤ 1099511627776 ∧ 0 ≤ r.move ∧ r.move ≤ 255) = false := by simp only [decide_eq_false_iff_not]; omega
   simp only [Qa0, e1, this]; rfl
  ·refine Go1 fun _h=>?_
   have e2 : decide (0 ≤ r.block ∧ r.block ≤ 4294967295 ∧ 0 ≤ r.version ∧ r.version ≤ 1099511627776 ∧ 0 ≤ r.move ∧ r.move ≤ 255) = true := by simp only [decide_eq_true_eq]; omega
   have hz : r.payload = ⟨#[]⟩ ↔ r.payload.size = 0 := ⟨fun h => by rw [h]; rfl, QuM⟩
   refine Br.of (fun h3=>?_) (fun h3=>?_)<;>(try simp only [Int.toNat_natCast] at h3)<;>(conv=>whnf)
   ·refine Go0 ?_
    have : decide (r.payload.size ≤ 20 ∧ (r.kind = 1 → r.payload.size = 16) ∧ (r.kind = 2 → r.payload.size = 0)) = false := by
     simp [Bool.cond_eq_ite] at h3
     simp only [decide_eq_false_iff_not]
     rw [hz] at h3
     omega
    simp only [Qa0, e1, e2, this]; rfl
   ·refine Go0 ?_
    have : decide (r.payload.size ≤ 20 ∧ (r.kind = 1 → r.payload.size = 16) ∧ (r.kind = 2 → r.payload.size = 0)) = true := by
     simp [Bool.cond_eq_ite] at h3
     simp only [decide_eq_true_eq]
     rw [hz] at h3
     omega
    simp only [Qa0, e1, e2, this]; rfl
theorem Qik : HasBody Tryz.prog 219 := hB Tryz.func219
theorem QfB (r : Rec) : PSpec Tryz.prog 212 [r.s] (.t [.inl (.str (encR r)), .inl (.int .i64 (Qa0 r))]) := by
 refine PSpec.rm ?_
 refine ov hΓ Tryz.func212 39 0 [.tmp 2, .tmp 3] Tryz.ntmps212 Tryz.results212 ?_
 conv=>whnf
 refine CallN.pure Qik (Qip r ) (leA.refl rfl) rfl ?_
 refine Go0 ?_
 refine Br.of (fun h1=>?_) (fun h1=>?_)<;>(try simp only [Int.toNat_natCast] at h1)<;>(conv=>whnf)
 ·refine Go0 ?_
  exact RM.imm rfl (wkS.t ⟨wkC.str (by rw [encR, if_neg h1]; rfl), wkC.imm rfl, trivial⟩)
 ·refine Go0 ?_
  obtain ⟨hk, hr, hp⟩ := Qfj h1
  refine Dr.mk hΓ hMix (by kernel_rfl) ?_; conv=>whnf
  refine Go0 ?_
  have lit2 : ({ data := #[90, 65] } : ByteArray).size = 2 := rfl
  have lit1 : ({ data := #[0] } : ByteArray).size = 1 := rfl
  refine CallP.mk QeG (QeO r.kind (by omega) ) (leA.refl rfl) rfl ?_
  conv=>whnf
  refine Need.mk (by simp only [ByteArray.size_append, Qar, Qb6 _ hp, lit2, lit1]; omega) ?_
  refine Go0 ?_
  refine CallP.mk QeG (QeO r.payload.size (by omega) ) (leA.refl rfl) rfl ?_
  conv=>whnf
  refine Need.mk (by simp only [ByteArray.size_append, Qar, Qb6 _ hp, lit2, lit1]; omega) ?_
  refine Go0 ?_
  refine CallP.mk QhU (Qg5 r.block (by omega) ) (leA.refl rfl) rfl ?_
  conv=>whnf
  refine Need.mk (by simp only [ByteArray.size_append, Qar, Qb6 _ hp, lit2, lit1]; omega) ?_
  refine Go0 ?_
  refine CallP.mk QmT (Qno r.version (by omega) ) (leA.refl rfl) rfl ?_
  conv=>whnf
  refine Need.mk (by simp only [ByteArray.size_append, Qar, Qb6 _ hp, lit2, lit1]; omega) ?_
  refine Go0 ?_
  refine CallP.mk QeG (QeO r.move (by omega) ) (leA.refl rfl) rfl ?_
  conv=>whnf
  refine Need.mk (by simp only [ByteArray.size_append, Qar, Qb6 _ hp, lit2, lit1]; omega) ?_
  refine Go0 ?_
  refine Need.mk (by simp only [ByteArray.size_append, Qar, Qb6 _ hp, lit2, lit1]; omega) ?_
  refine Go0 ?_
  refine CallP.mk QtT (Quf r.payload hp ) (leA.refl rfl) rfl ?_
  conv=>whnf
  refine Need.mk (by simp only [ByteArray.size_append, Qar, Qb6 _ hp, lit2, lit1]; omega) ?_
  refine Go0 ?_
  have hb := QjF hp
  refine CallN.pure Qr7 (QsH (Qjn r) (by omega) ) (leA.refl rfl) rfl ?_
  refine Go0 ?_
  exact RM.imm rfl (wkS.t ⟨wkC.str (by rw [encR, if_pos h1]), wkC.int h1.symm, trivial⟩)
theorem QfD : HasBody Tryz.prog 212 := hB Tryz.func212
theorem QbU (r : Rec) : PSpec Tryz.prog 162 [r.s] (.c (.str (encR r))) := by
 refine ov hΓ Tryz.func162 11 0 [.tmp 2] Tryz.ntmps162 Tryz.results162 ?_
 conv=>whnf
 refine CallN.pure QfD (QfB r ) (leA.refl rfl) rfl ?_
 ((conv=>whnf);(repeat' ((first|refine Nd ?_|refine Hv fun _h=>?_);conv=>whnf)))
theorem QbV : HasBody Tryz.prog 162 := hB Tryz.func162
end Go.Proofs
end
