/- Contracts, lemmas; no condition. -/
import Derived.Test.YtmollgldghpbkaaGreatCtH
import Derived.Test.YtmollgldghpbkaaGreatModC
set_option linter.all false
open Go Go.Am
namespace Go.Proofs
set_option maxRecDepth 20000
theorem Qv3 (e : Ent) : PSpec Tryz.prog 224 [.a e.cells] (.c (.bool (Qbl e))) := by
 refine PSpec.rm ?_
 refine ov hΓ Tryz.func224 48 0 [.tmp 2] Tryz.ntmps224 Tryz.results224 ?_
 refine Go0 ?_
 refine RM.immW rfl (WS.c (WC.bool ?_))
 rw [Bool.eq_iff_iff, entOk_iff]
 simp [-List.getD_eq_getElem?_getD]
 omega
theorem Qv2 : HasBody Tryz.prog 224 := hB Tryz.func224
theorem shardOk_iff {l : List Ent} : Q0 l = true ↔ ∀ i, i < l.length → Qbl (l.getD i default) = true ∧ (0 < i → (l.getD (i - 1) default).block < (l.getD i default).block) := by
 unfold Q0; rw [decide_eq_true_eq]
theorem QvW (l : List Ent) (hl : l.length ≤ 1000000) : PSpec Tryz.prog 184 [.c (Qaw l)] (.c (.bool (Q0 l))) := by
 refine PSpec.rm ?_
 refine ov hΓ Tryz.func184 34 0 [.tmp 2] Tryz.ntmps184 Tryz.results184 ?_
 refine Go0 ?_
 refine Lp.mkK hΓ (ι := Nat) [0] (fun i => [(3, .c (.int .i64 i))]) (fun _ => []) (fun k => k ≤ l.length ∧ ∀ i, i < k → Qbl (l.getD i default) = true ∧ (0 < i → (l.getD (i - 1) default).block < (l.getD i default).block)) (fun i => l.length - i) 0 ⟨Nat.zero_le _, fun j hj => absurd hj (Nat.not_lt_zero _)⟩ ?_ ?_
 ·exact Mv.k0
 ·rintro k ⟨hk, hk2⟩
  refine Go1 fun _h=>?_
  refine Br.of (fun h1=>?_) (fun h1=>?_)<;>(try simp only [Int.toNat_natCast] at h1)<;>(conv=>whnf)
  ·refine Go0 ?_
   refine Dr.mk hΓ hMix (by kernel_rfl) ?_; conv=>whnf
   refine Go0 ?_
   refine CallP.auto Qv2 (Qv3 (l.getD k default) ) ?_
   refine Go0 ?_
   have hw : IntKind.i64.wrap (↑k - 1) = ↑k - 1 := Qa _ (by omega) (by omega)
   refine Need.mk (fun h => by rw [hw]; simp only [Bool.and_eq_true, decide_eq_true_eq] at h; omega) ?_
   conv=>whnf
   refine Need.mk (fun h => by rw [hw]; simp only [Bool.and_eq_true, decide_eq_true_eq] at h; omega) ?_
   refine Go0 ?_
   have hp : (IntKind.i64.wrap (↑k - 1)).toNat = k - 1 := by rw [hw]; omega
   have w0 := Qa (↑k + 1) (by omega) (by omega)
   rw [hp]
   by_cases e : Qbl (l.getD k default) = true ∧ (0 < k → (l.getD (k - 1) default).block < (l.getD k default).block)
   ·refine Br.no (Bool.eq_false_iff.2 fun ebye => by simp [-List.getD_eq_getElem?_getD, -Int.default_eq_zero, e.1] at ebye <;> grind) ?_; conv=>whnf
    refine Go0 ?_
    refine ⟨k + 1, ⟨by omega, QD hk2 e⟩, by omega, ?_⟩
    exact Mv.k0
   ·refine Br.yes (Decidable.byContradiction fun ebye => e (by simp [-List.getD_eq_getElem?_getD, -Int.default_eq_zero] at ebye <;> grind)) ?_; conv=>whnf
    refine Go0 ?_
    rw [Qg (fun q => e (shardOk_iff.1 q k (by omega)) : ¬ Q0 l = true)]
    exact RM.i0
  ·refine Go0 ?_
   rw [shardOk_iff.2 (fun i hi => hk2 i (by omega))]
   exact RM.i0
theorem QvX : HasBody Tryz.prog 184 := hB Tryz.func184
theorem QvY (l : List Ent) (b : Int) (hl : l.length ≤ 1000000) : PSpec Tryz.prog 213 [.c (Qaw l), .c (.int .i64 b)] (.c (.int .i64 (Qy l b))) := by
 refine PSpec.rm ?_
 refine ov hΓ Tryz.func213 22 0 [.tmp 4] Tryz.ntmps213 Tryz.results213 ?_
 refine Go0 ?_
 refine Lp.mkK hΓ (ι := Nat) [0, 1, 4] (fun i => [(5, .c (.int .i64 i))]) (fun _ => []) (fun k => k ≤ l.length ∧ ∀ i, i < k → (l.getD i default).block < b) (fun i => l.length - i) 0 ⟨Nat.zero_le _, fun j hj => absurd hj (Nat.not_lt_zero _)⟩ ?_ ?_
 ·exact Mv.k0
 ·rintro k ⟨hk, hk2⟩
  refine Go1 fun _h=>?_
  have e0 : (k : Int).toNat = k := rfl
  by_cases c : k < l.length ∧ (l.getD k default).block < b
  ·refine Br.yes (by simp [-List.getD_eq_getElem?_getD, c.1, c.2]) ?_
   refine Go0 ?_
   have w0 := Qa (↑k + 1) (by omega) (by omega)
   refine ⟨k + 1, ⟨by omega, QD hk2 c.2⟩, by omega, ?_⟩
   exact Mv.k0
  ·refine Br.no (Bool.eq_false_iff.2 fun e => c (by simpa [-List.getD_eq_getElem?_getD] using e)) ?_
   refine Go0 ?_
   rw [Qv4 hk hk2 (by omega)]
   exact RM.i0
theorem QvZ : HasBody Tryz.prog 213 := hB Tryz.func213
theorem hasM_iff {l : List Ent} {b : Int} : hasM l b = true ↔ Qy l b < l.length ∧ (l.getD (Qy l b) default).block = b := by
 unfold hasM; rw [decide_eq_true_eq]
theorem Qv0 (l : List Ent) (b : Int) (hl : l.length ≤ 1000000) : PSpec Tryz.prog 166 [.c (Qaw l), .c (.int .i64 b)] (.t [.inr (QY l b).1.cells, .inl (.bool (QY l b).2)]) := by
 refine PSpec.rm ?_
 refine ov hΓ Tryz.func166 32 0 [.cell 4 47, .tmp 5] Tryz.ntmps166 Tryz.results166 ?_
 refine Go0 ?_
 refine CallN.pureA QvX (QvW l hl ) ?_
 refine Go0 ?_
 have hple := Qfv l b
 by_cases hv : Q0 l = true
 ·refine Br.no (by rw [hv]; rfl) ?_
  refine Go0 ?_
  refine CallN.pureA QvZ (QvY l b hl ) ?_
  refine Go1 fun _h=>?_
  have e0 : ((Qy l b : Nat) : Int).toNat = Qy l b := rfl
  refine Go0 ?_
  by_cases c : hasM l b = true
  ·have c' := hasM_iff.1 c
   refine Br.no (Bool.eq_false_iff.2 fun e => by simp [-List.getD_eq_getElem?_getD, c'.2] at e; omega) ?_
   refine Go0 ?_
   rw [show QY l b = (l.getD (Qy l b) default, true) from if_pos ⟨hv, c⟩]
   exact RM.i0
  ·refine Br.yes (Decidable.byContradiction fun e => c (hasM_iff.2 (by simp [-List.getD_eq_getElem?_getD] at e; omega))) ?_
   refine Go0 ?_
   rw [show QY l b = (default, false) from if_neg (fun e => c e.2)]
   exact RM.i0
 ·refine Br.yes (by rw [Qg hv]; rfl) ?_
  refine Go0 ?_
  rw [show QY l b = (default, false) from if_neg (fun e => hv e.1)]
  exact RM.i0
theorem Qv1 : HasBody Tryz.prog 166 := hB Tryz.func166
end Go.Proofs





