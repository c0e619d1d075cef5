/- Contracts, lemmas; no condition. -/
import Derived.Test.YtmollgldghpbkaaGreatF1
set_option linter.all false
open Go Go.Am
namespace Go.Proofs
set_option maxRecDepth 20000
theorem mapOk_iff {m : List (List Ent)} : Qu m = true ↔ (1 ≤ m.length ∧ m.length ≤ 8) ∧ ∀ i, i < m.length → Q0 (m.getD i default) = true ∧ QaD (m.getD i default) m.length i = true := by
 unfold Qu; rw [Bool.and_eq_true, decide_eq_true_eq, decide_eq_true_eq]
theorem inStripe_iff {l : List Ent} {n i : Nat} : QaD l n i = true ↔ ∀ k, k < l.length → (l.getD k default).block.tmod n = i := by
 unfold QaD; rw [decide_eq_true_eq]
set_option maxHeartbeats 4000000 in
theorem Qc4 (m : List (List Ent)) (hm : m.length ≤ 1000000) (hs : ∀ i, (m.getD i default).length ≤ 1000000) : PSpec Tryz.prog 112 [.a [QH m]] (.c (.bool (Qu m))) := by
 refine PSpec.rm ?_
 refine ov hΓ Tryz.func112 50 0 [.tmp 2] Tryz.ntmps112 Tryz.results112 ?_
 refine Go1 fun _h=>?_
 have no : ¬ Qu m = true → Qu m = false := Qg
 by_cases h0 : 1 ≤ m.length ∧ m.length ≤ 8
 ·refine Br.no (Bool.eq_false_iff.2 fun e => by simp at e; omega) ?_
  refine Go0 ?_
  refine Lp.mkK hΓ (ι := Nat) [1, 3] (fun i => [(4, .c (.int .i64 i))]) (fun _ => [.vr [QH m]]) (fun k => k ≤ m.length ∧ ∀ i, i < k → Q0 (m.getD i default) = true ∧ QaD (m.getD i default) m.length i = true) (fun i => m.length - i) 0 ⟨Nat.zero_le _, fun j hj => absurd hj (Nat.not_lt_zero _)⟩ ?_ ?_
  ·exact Mv.k0
  ·rintro k ⟨hk, hk2⟩
   have hsk := hs k
   refine Go0 ?_
   refine Br.of (fun h1=>?_) (fun h1=>?_)<;>(try simp only [Int.toNat_natCast] at h1)<;>(conv=>whnf)
   ·refine Go0 ?_
    refine CallN.pureA QvX (QvW (m.getD k default) hsk ) ?_
    refine Go0 ?_
    by_cases h2 : Q0 (m.getD k default) = true
    ·refine Br.no (by rw [h2]; rfl) ?_
     refine Go0 ?_
     refine Lp.mkK hΓ (ι := Nat) [1, 3, 4] (fun i => [(5, .c (.int .i64 i))]) (fun _ => [.vr [QH m]]) (fun q => q ≤ (m.getD k default).length ∧ ∀ i, i < q → ((m.getD k default).getD i default).block.tmod m.length = k) (fun i => (m.getD k default).length - i) 0 ⟨Nat.zero_le _, fun j hj => absurd hj (Nat.not_lt_zero _)⟩ ?_ ?_
     ·exact Mv.k0
     ·rintro q ⟨hq, hq2⟩
      refine Go1 fun _h=>?_
      have e0 : (k : Int).toNat = k := rfl
      refine Br.of (fun h3=>?_) (fun h3=>?_)<;>(try simp only [Int.toNat_natCast] at h3)<;>(conv=>whnf)
      ·refine Go0 ?_
       have w0 := Qa (↑q + 1) (by omega) (by omega)
       by_cases c : ((m.getD k default).getD q default).block.tmod m.length = k
       ·refine Br.no ((neI).trans (by simp only [Int.toNat_natCast]; rw [decide_eq_true c]; rfl)) ?_
        refine Go0 ?_
        refine ⟨q + 1, ⟨by omega, QD hq2 c⟩, by omega, ?_⟩
        exact Mv.k0
       ·refine Br.yes ((neI).trans (by simp only [Int.toNat_natCast]; rw [decide_eq_false c]; rfl)) ?_
        refine Go0 ?_
        rw [no (fun z => c (inStripe_iff.1 ((mapOk_iff.1 z).2 k (by omega)).2 q (by omega)))]
        exact RM.i0
      ·refine Go0 ?_
       have w0 := Qa (↑k + 1) (by omega) (by omega)
       refine ⟨k + 1, ⟨by omega, QD hk2 ⟨h2, inStripe_iff.2 fun i hi => hq2 i (by omega)⟩⟩, by omega, ?_⟩
       exact Mv.k0
    ·refine Br.yes (by rw [Qg h2]; rfl) ?_
     refine Go0 ?_
     rw [no (fun e => h2 ((mapOk_iff.1 e).2 k (by omega)).1)]
     exact RM.i0
   ·refine Go0 ?_
    rw [mapOk_iff.2 ⟨h0, fun i hi => hk2 i (by omega)⟩]
    exact RM.i0
 ·refine Br.yes (by simp; omega) ?_
  refine Go0 ?_
  rw [no (fun e => h0 (mapOk_iff.1 e).1)]
  exact RM.i0
theorem Qc9 : HasBody Tryz.prog 112 := hB Tryz.func112
theorem QcE (m : List (List Ent)) (b : Int) (hm : m.length ≤ 1000000) : PSpec Tryz.prog 167 [.a [QH m], .c (.int .i64 b)] (.c (.int .i64 (QF m b))) := by
 refine PSpec.rm ?_
 refine ov hΓ Tryz.func167 18 0 [.tmp 4] Tryz.ntmps167 Tryz.results167 ?_
 refine Go0 ?_
 by_cases h : b < 0 ∨ m.length = 0
 ·refine Br.yes (by rcases h with h | h <;> simp [h]) ?_
  refine Go0 ?_
  rw [show QF m b = -1 from if_pos h]
  exact RM.i0
 ·have h1 : ¬ b < 0 := by omega
  have h2 : ¬ (m.length : Int) = 0 := by omega
  refine Br.no (by rw [decide_eq_false h1]; exact decide_eq_false h2) ?_
  refine Go1 fun _h=>?_
  rw [show QF m b = b.tmod m.length from if_neg h]
  exact RM.i0
theorem QcM : HasBody Tryz.prog 167 := hB Tryz.func167
end Go.Proofs





