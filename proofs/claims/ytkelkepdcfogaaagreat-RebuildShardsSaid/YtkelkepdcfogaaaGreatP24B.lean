/- Contracts, lemmas; no condition. -/
import Derived.Test.YtkelkepdcfogaaaGreatP23B
import Derived.Test.YtkelkepdcfogaaaGreatP16B
import Derived.Test.YtkelkepdcfogaaaGreatP18B
import Derived.Test.YtkelkepdcfogaaaGreatP11B
set_option linter.all false
section
open Go Go.Am
namespace Go.Proofs
set_option maxRecDepth 20000
set_option maxHeartbeats 2000000 in
theorem Qnu (c : Conf) (slot : Int) (h0 : 0 ≤ slot) (h1 : slot ≤ 1) (hc : Qq c = 0) : PS 117 [.a c.cells, .c (.int .i64 slot)] (.c (QbH (Qaj c slot))) := by
 have hr := (QaR hc).1
 have hs := Qao hr
 refine PSpec.rm ?_
 refine ov hΓ Tryz.func117 40 0 [.tmp 4] Tryz.ntmps117 Tryz.results117 ?_
 ((conv=>whnf);(repeat' ((first|refine Nd ?_|refine Hv fun _h=>?_);conv=>whnf)))
 refine CallN.pureA QiP (Qii c hc ) ?_
 ((conv=>whnf);(repeat' ((first|refine Nd ?_|refine Hv fun _h=>?_);conv=>whnf)))
 have hsl : slot = 0 ∨ slot = 1 := by omega
 refine Br.no (by rcases hsl with rfl | rfl <;> rfl) ?_
 ((conv=>whnf);(repeat' ((first|refine Nd ?_|refine Hv fun _h=>?_);conv=>whnf)))
 refine Lp.reserve 3 1 (QcD .i64 []) 7 rfl ?_
 refine Lp.mkK hΓ (ι := Nat) [1, 5, 25] (fun k => [(26, .c (.int .i64 k)), (7, .c (.sl 2 1 k k false))]) (fun k => [.vr c.cells, .vr (Lay.cells c), .arr 3 1 k (QcD .i64 (tabL (fun k => slot * Qg c + (k : Nat)) k))]) (fun k => k ≤ (Qg c).toNat) (fun k => (Qg c).toNat - k) 0 (Nat.zero_le _) ?_ ?_
 ·exact Mv.k0
 ·intro k hk
  ((conv=>whnf);(repeat' ((first|refine Nd ?_|refine Hv fun _h=>?_);conv=>whnf)))
  refine Br.of (fun h2=>?_) (fun h2=>?_)<;>(try simp only [Int.toNat_natCast] at h2)<;>(conv=>whnf)
  ·((conv=>whnf);(repeat' ((first|refine Nd ?_|refine Hv fun _h=>?_);conv=>whnf)))
   have w0 := Qa (↑k + 1) (by omega) (by omega)
   refine ⟨k + 1, by omega, by omega, ?_⟩
   refine Mv.k1 ?_
   intro i hi j hj
   have e1 : IntKind.i64.wrap (IntKind.i64.wrap (slot * Qg c) + (k : Int)) = slot * Qg c + (k : Nat) := by
    rcases hsl with rfl | rfl
    ·rw [Qa (0 * Qg c) (by omega) (by omega), Qa _ (by omega) (by omega)]
    ·rw [Qa (1 * Qg c) (by omega) (by omega), Qa _ (by omega) (by omega)]
   rw [e1, Qj7]
   exact WC.eq (QlV (by simp) (by first | omega | (simp; omega)) hj) rfl
  ·((conv=>whnf);(repeat' ((first|refine Nd ?_|refine Hv fun _h=>?_);conv=>whnf)))
   have : k = (Qg c).toNat := by omega
   subst this
   exact RM.allC (Fw.ints rfl rfl (tabL_len _).symm (fun _ _ _ _ => rfl))
theorem Qnf : HB 117 := hB Tryz.func117
theorem Qlj {p : List ByteArray} : Qab p = none ∨ ∃ l, Qab p = some l ∧ l.length ≤ p.length := by
 induction p with
 | nil => exact Or.inl rfl
 | cons s t ih =>
  unfold Qab
  split
  ·split
   ·exact Or.inr ⟨_, rfl, by simp⟩
   ·rcases ih with ih | ⟨l, h1, h2⟩
    ·rw [ih]; exact Or.inl rfl
    ·rw [h1]; exact Or.inr ⟨_, rfl, by simp; omega⟩
  ·exact Or.inl rfl
def Qba (d : Dev) (zs : List Int) : List Rec := (Qab (QaB d zs)).getD []
set_option maxHeartbeats 4000000 in
theorem Qm4 (d : Dev) (hd : d.tiny) (zs : List Int) (hz : zs.length ≤ 200) (hzr : ∀ i, i < zs.length → 0 ≤ zs.getD i default ∧ zs.getD i default < d.zones.length) : PS 118 [.a d.cells, .c (QbH zs)] (.t [.inl (Qb9 (Qba d zs)), .inl (.bool (Qab (QaB d zs)).isSome)]) := by
 refine PSpec.rm ?_
 refine ov hΓ Tryz.func118 46 0 [.tmp 4, .tmp 5] Tryz.ntmps118 Tryz.results118 ?_
 ((conv=>whnf);(repeat' ((first|refine Nd ?_|refine Hv fun _h=>?_);conv=>whnf)))
 refine Lp.reserve 50 5 (recG []) 4 rfl ?_
 refine Lp.mkK hΓ (ι := Nat) [2, 5, 12, 13] (fun i => [(14, .c (.int .i64 i)), (4, .c (.sl 1 5 (preS d zs i 0).length (preS d zs i 0).length false))]) (fun i => [.vr d.cells, .arr 50 5 (preS d zs i 0).length (recG ((preS d zs i 0).map decR))]) (fun i => i ≤ zs.length ∧ ∀ s ∈ preS d zs i 0, okS s) (fun i => zs.length - i) 0 ⟨Nat.zero_le _, by rw [QmS]; exact fun s hs => absurd hs List.not_mem_nil⟩ ?_ ?_
 ·exact Mv.k0
 ·rintro i ⟨hi, hi2⟩
  ((conv=>whnf);(repeat' ((first|refine Nd ?_|refine Hv fun _h=>?_);conv=>whnf)))
  refine Br.of (fun h2=>?_) (fun h2=>?_)<;>(try simp only [Int.toNat_natCast] at h2)<;>(conv=>whnf)
  ·((conv=>whnf);(repeat' ((first|refine Nd ?_|refine Hv fun _h=>?_);conv=>whnf)))
   have w0 := Qa (↑i + 1) (by omega) (by omega)
   obtain ⟨hz0, hz1⟩ := hzr i (by omega)
   have hzs : (secZ d (zs.getD i default)).length ≤ 100 := hd.s _
   have hpl := preL hd zs i
   have hdz := hd.z
   ((conv=>whnf);(repeat' ((first|refine Nd ?_|refine Hv fun _h=>?_);conv=>whnf)))
   rw [show (d.zones.getD (zs.getD (i : Int).toNat default).toNat default).sectors = secZ d (zs.getD i default) from rfl]
   refine Lp.mkK hΓ (ι := Nat) [2, 5, 12, 13, 14, 23, 24] (fun k => [(25, .c (.int .i64 k)), (4, .c (.sl 1 5 (preS d zs i k).length (preS d zs i k).length false))]) (fun k => [.vr d.cells, .arr 50 5 (preS d zs i k).length (recG ((preS d zs i k).map decR))]) (fun k => k ≤ (secZ d (zs.getD i default)).length ∧ ∀ s ∈ preS d zs i k, okS s) (fun k => (secZ d (zs.getD i default)).length - k) 0 ⟨Nat.zero_le _, hi2⟩ ?_ ?_
   ·exact Mv.k0
   ·rintro k ⟨hk, hk2⟩
    ((conv=>whnf);(repeat' ((first|refine Nd ?_|refine Hv fun _h=>?_);conv=>whnf)))
    refine Br.of (fun h3=>?_) (fun h3=>?_)<;>(try simp only [Int.toNat_natCast] at h3)<;>(conv=>whnf)
    ·((conv=>whnf);(repeat' ((first|refine Nd ?_|refine Hv fun _h=>?_);conv=>whnf)))
     have w2 := Qa (↑k + 1) (by omega) (by omega)
     have hkl : k < (secZ d (zs.getD i default)).length := by omega
     obtain ⟨q, hq⟩ := Qkf (d := d) (zs := zs) (i := i) (k := k) (by omega) hkl
     have hst := Qmt (d := d) (zs := zs) (i := i) (k := k) hkl
     have hpk := preL hd zs i k
     rw [show (secZ d (zs.getD i default)).getD (k : Int).toNat ByteArray.empty = (secZ d (zs.getD i default)).getD k default from rfl]
     generalize hs : (secZ d (zs.getD i default)).getD k default = s at *
     refine CallN.pureA Qgm (QgO s ) ?_
     ((conv=>whnf);(repeat' ((first|refine Nd ?_|refine Hv fun _h=>?_);conv=>whnf)))
     by_cases c1 : decE s = 0
     ·refine Br.no (by simpa using c1) ?_
      ((conv=>whnf);(repeat' ((first|refine Nd ?_|refine Hv fun _h=>?_);conv=>whnf)))
      have hg1 : ∀ (t : List C) (i' j : Nat), i' < 1 → j < 5 → Qaf 5 (C.int .i64 (decR s).kind :: C.int .i64 (decR s).block :: C.int .i64 (decR s).version :: C.int .i64 (decR s).move :: C.str (decR s).payload :: t) i' j = recG [decR s] i' j := fun t i' j hi' hj => by
       have : i' = 0 := by omega
       subst this
       match j, hj with
       | 0, _ => rfl
       | 1, _ => rfl
       | 2, _ => rfl
       | 3, _ => rfl
       | 4, _ => rfl
      refine CallN.fzK 3 [2, 5, 10, 12, 13, 14, 23, 24, 25] [] [.vr d.cells, .arr 50 5 (preS d zs i k).length (recG ((preS d zs i k).map decR)), .vr (decR s).cells, .dead] [.c (.sl 1 5 (preS d zs i k).length (preS d zs i k).length false), .c (.isl 5 1 (recG [decR s]) false)] rfl leN (fun i' hi' j hj => (congrArg C.imm (hg1 _ i' j hi' hj)).trans (Qai _ _)) (by (first|refine wb1 ?_|refine wb2 ?_ ?_|refine wb3 ?_ ?_ ?_|refine wb4 ?_ ?_ ?_ ?_) <;> exact fun i _ j _ => WC.fzI (Qai _ _)) wb0 (by (first|refine wb1 ?_|refine wb2 ?_ ?_|refine wb3 ?_ ?_ ?_|refine wb4 ?_ ?_ ?_ ?_) <;> exact WC.fz rfl rfl (fun i' hi' j hj => leF.of_eq (hg1 _ i' j hi' hj)) (fun e => by cases e)) leN ?_
      refine CallN.autoI [1] Qgo (QgP ((preS d zs i k).map decR) (decR s) (preS d zs i k).length (by simp) (by omega) (recG [decR s]) false (fun j hj => rfl)) plh ?_; conv=>whnf
      ((conv=>whnf);(repeat' ((first|refine Nd ?_|refine Hv fun _h=>?_);conv=>whnf)))
      by_cases c2 : (decR s).kind = 6
      ·refine Br.yes (by simpa using c2) ?_
       ((conv=>whnf);(repeat' ((first|refine Nd ?_|refine Hv fun _h=>?_);conv=>whnf)))
       have e := Qee (q := q) hk2 c1 c2
       rw [show Qba d zs = (preS d zs i k).map decR ++ [decR s] by unfold Qba; rw [hq, e]; rfl, hq, e]
       exact RM.allT (FwT.consC (Fw.slP rfl rfl (by simp) (fun _ _ _ _ => rfl) (fun i j => Qai _ _)) (FwT.consC (Fw.same rfl) FwT.nil))
      ·refine Br.no (by simpa using c2) ?_
       ((conv=>whnf);(repeat' ((first|refine Nd ?_|refine Hv fun _h=>?_);conv=>whnf)))
       refine ⟨k + 1, ⟨by omega, ?_⟩, by omega, ?_⟩
       ·rw [hst]
        intro x hx
        rcases List.mem_append.1 hx with hx | hx
        ·exact hk2 x hx
        ·rw [List.mem_singleton.1 hx]; exact ⟨c1, c2⟩
       ·have hle : (preS d zs i k ++ [s]).length = (preS d zs i k).length + 1 := by simp
        rw [hst, List.map_append, show [s].map decR = [decR s] from rfl]
        exact Mv.k0
     ·refine Br.yes (by simpa using c1) ?_
      ((conv=>whnf);(repeat' ((first|refine Nd ?_|refine Hv fun _h=>?_);conv=>whnf)))
      have e := Qhm (q := q) hk2 c1
      rw [show Qba d zs = [] by unfold Qba; rw [hq, e]; rfl, hq, e]
      exact RM.i0
    ·((conv=>whnf);(repeat' ((first|refine Nd ?_|refine Hv fun _h=>?_);conv=>whnf)))
     have : k = (secZ d (zs.getD i default)).length := by omega
     subst this
     refine ⟨i + 1, ⟨by omega, ?_⟩, by omega, ?_⟩
     ·rw [QfN (by omega)]; exact hk2
     ·rw [QfN (by omega)]
      exact Mv.k0
  ·((conv=>whnf);(repeat' ((first|refine Nd ?_|refine Hv fun _h=>?_);conv=>whnf)))
   have : i = zs.length := by omega
   subst this
   rw [Qop] at hi2
   rw [show Qba d zs = [] by unfold Qba; rw [Qeu hi2]; rfl, Qeu hi2]
   exact RM.i0
theorem Qlk : HB 118 := hB Tryz.func118
theorem Qpg {d : Dev} (hd : d.tiny) {zs : List Int} (hz : zs.length ≤ 200) : (Qba d zs).length ≤ 100000 := by
 have h1 := Qjq hd zs zs.length
 rw [List.take_length] at h1
 unfold Qba
 rcases Qlj (p := QaB d zs) with h | ⟨l, h2, h3⟩
 ·rw [h]; exact Nat.zero_le _
 ·rw [h2]
  show l.length ≤ _
  omega
theorem Qol {p : List ByteArray} : ∀ {l : List Rec}, Qab p = some l → ∀ r ∈ l, r.payload.size ≤ 20 := by
 induction p with
 | nil => intro l h; cases h
 | cons s t ih =>
  intro l h r hr
  unfold Qab at h
  split at h
  ·split at h
   ·cases h
    rw [List.mem_singleton.1 hr]
    exact Qeo s
   ·cases q : Qab t with
    | none => rw [q] at h; cases h
    | some l' =>
     rw [q] at h
     cases h
     rcases List.mem_cons.1 hr with rfl | hr
     ·exact Qeo s
     ·exact ih q r hr
  ·cases h
theorem Qqw (d : Dev) (zs : List Int) (i : Nat) : ((Qba d zs).getD i default).payload.size ≤ 1000 := by
 by_cases h : i < (Qba d zs).length
 ·rw [Qb1 _ i h]
  have hm := List.getElem_mem h
  generalize (Qba d zs)[i] = r at hm ⊢
  unfold Qba at hm
  cases q : Qab (QaB d zs) with
  | none => rw [q] at hm; exact absurd hm List.not_mem_nil
  | some l =>
   rw [q] at hm
   have := Qol q r hm
   omega
 ·rw [show (Qba d zs).getD i default = default by simp [List.getD, h]]
  exact Nat.zero_le _
set_option maxHeartbeats 4000000 in
theorem Qpi (c : Conf) (d : Dev) (hd : d.tiny) (slot : Int) (h0 : 0 ≤ slot) (h1 : slot ≤ 1) : PS 85 [.a c.cells, .a d.cells, .c (.int .i64 slot)] (.t [.inr (Qv c d slot).cells, .inl (.int .i64 (Qu c d slot))]) := by
 refine PSpec.rm ?_
 refine ov hΓ Tryz.func85 91 0 [.cell 6 57, .tmp 7] Tryz.ntmps85 Tryz.results85 ?_
 ((conv=>whnf);(repeat' ((first|refine Nd ?_|refine Hv fun _h=>?_);conv=>whnf)))
 refine CallN.pureA Qfd (Qfe c ) ?_
 ((conv=>whnf);(repeat' ((first|refine Nd ?_|refine Hv fun _h=>?_);conv=>whnf)))
 by_cases hc : Qq c = 0
 ·refine Br.no (by simpa using hc) ?_
  ((conv=>whnf);(repeat' ((first|refine Nd ?_|refine Hv fun _h=>?_);conv=>whnf)))
  have hs01 : slot = 0 ∨ slot = 1 := by omega
  refine Br.no (by rcases hs01 with rfl | rfl <;> rfl) ?_
  ((conv=>whnf);(repeat' ((first|refine Nd ?_|refine Hv fun _h=>?_);conv=>whnf)))
  have hsr := Qao (QaR hc).1
  have hlen := Qim c slot
  refine CallN.pureA Qnf (Qnu c slot h0 h1 hc ) ?_
  ((conv=>whnf);(repeat' ((first|refine Nd ?_|refine Hv fun _h=>?_);conv=>whnf)))
  refine Lp.mkK hΓ (ι := Nat) [3, 4, 6, 9, 32, 33] (fun k => [(34, .c (.int .i64 k))]) (fun k => [.vr c.cells, .vr d.cells, .vr (default : Bas).cells]) (fun k => k ≤ (Qaj c slot).length ∧ ∀ i, i < k → (Qaj c slot).getD i default < d.zones.length) (fun k => (Qaj c slot).length - k) 0 ⟨Nat.zero_le _, fun i hi => absurd hi (Nat.not_lt_zero _)⟩ ?_ ?_
  ·exact Mv.k0
  ·rintro k ⟨hk, hk2⟩
   ((conv=>whnf);(repeat' ((first|refine Nd ?_|refine Hv fun _h=>?_);conv=>whnf)))
   refine Br.of (fun h2=>?_) (fun h2=>?_)<;>(try simp only [Int.toNat_natCast] at h2)<;>(conv=>whnf)
   ·((conv=>whnf);(repeat' ((first|refine Nd ?_|refine Hv fun _h=>?_);conv=>whnf)))
    have w0 := Qa (↑k + 1) (by omega) (by omega)
    by_cases c1 : (Qaj c slot).getD k default < d.zones.length
    ·refine Br.no (decide_eq_false (by show ¬ (Qaj c slot).getD k default ≥ _; omega)) ?_
     ((conv=>whnf);(repeat' ((first|refine Nd ?_|refine Hv fun _h=>?_);conv=>whnf)))
     refine ⟨k + 1, ⟨by omega, fun j hj => ?_⟩, by omega, ?_⟩
     ·rcases Nat.lt_succ_iff_lt_or_eq.1 hj with q | rfl
      ·exact hk2 j q
      ·exact c1
     ·exact Mv.k0
    ·refine Br.yes (decide_eq_true (by show (Qaj c slot).getD k default ≥ _; omega)) ?_
     ((conv=>whnf);(repeat' ((first|refine Nd ?_|refine Hv fun _h=>?_);conv=>whnf)))
     have hz : ¬ slot * Qg c + Qg c ≤ d.zones.length := fun q => c1 (by rw [Qc2 (by omega)]; omega)
     have e : Qu c d slot = 5 := by unfold Qu; rw [if_pos hc, if_neg hz]
     rw [show Qv c d slot = default from if_neg (by rw [e]; decide), e]
     exact RM.i0
   ·((conv=>whnf);(repeat' ((first|refine Nd ?_|refine Hv fun _h=>?_);conv=>whnf)))
    have : k = (Qaj c slot).length := by omega
    subst this
    have hz : slot * Qg c + Qg c ≤ d.zones.length := by
     have := hk2 ((Qg c).toNat - 1) (by omega)
     rw [Qc2 (by omega)] at this
     omega
    have hs0 : 0 ≤ slot * Qg c := Int.mul_nonneg h0 (by omega)
    refine CallN.pureA Qlk (Qm4 d hd (Qaj c slot) (by omega) (fun i hi => ⟨by rw [Qc2 (by omega)]; omega, hk2 i hi⟩) ) ?_
    ((conv=>whnf);(repeat' ((first|refine Nd ?_|refine Hv fun _h=>?_);conv=>whnf)))
    have hrl := Qpg hd (zs := Qaj c slot) (by omega)
    have hrp := Qqw d (Qaj c slot)
    cases q : Qab (QaB d (Qaj c slot)) with
    | none =>
     refine Br.yes rfl ?_
     ((conv=>whnf);(repeat' ((first|refine Nd ?_|refine Hv fun _h=>?_);conv=>whnf)))
     have e : Qu c d slot = 3 := by unfold Qu; rw [if_pos hc, if_pos hz, q]
     rw [show Qv c d slot = default from if_neg (by rw [e]; decide), e]
     exact RM.i0
    | some l =>
     refine Br.no rfl ?_
     ((conv=>whnf);(repeat' ((first|refine Nd ?_|refine Hv fun _h=>?_);conv=>whnf)))
     have hq : Qba d (Qaj c slot) = l := by unfold Qba; rw [q]; rfl
     rw [hq] at hrl hrp
     rw [hq]
     refine CallN.pureA Qmq (Ql5 l hrl hrp ) ?_
     ((conv=>whnf);(repeat' ((first|refine Nd ?_|refine Hv fun _h=>?_);conv=>whnf)))
     have hd2 := Qko l
     have w1 : IntKind.i64.wrap (((Qag l).ents.length : Int) - 1) = ((Qag l).ents.length : Int) - 1 := Qa _ (by omega) (by omega)
     refine Dr.mk hΓ hMix (by kernel_rfl) ?_; conv=>whnf
     ((conv=>whnf);(repeat' ((first|refine Nd ?_|refine Hv fun _h=>?_);conv=>whnf)))
     have ee : Qu c d slot = QaT c l := by unfold Qu; rw [if_pos hc, if_pos hz, q]
     have eb : Qv c d slot = QaS c l := by
      unfold Qv
      rw [ee, q]
      by_cases q0 : QaT c l = 0
      ·rw [if_pos q0]
      ·rw [if_neg q0]; exact (if_neg q0).symm
     rw [ee, eb]
     by_cases c1 : QaH l = 0 ∧ (Qag l).ents.length ≤ c.blocks ∧ (0 < (Qag l).ents.length → ((Qag l).ents.getD ((Qag l).ents.length - 1) default).block < c.blocks)
     ·refine Br.no (Bool.eq_false_iff.2 fun q => whole_cond.1 (by rw [w1] at q; exact q) c1) ?_
      ((conv=>whnf);(repeat' ((first|refine Nd ?_|refine Hv fun _h=>?_);conv=>whnf)))
      have e : QaT c l = 0 := if_pos c1
      rw [show QaS c l = Qag l from if_pos e, e]
      exact RM.i0
     ·refine Br.yes (by rw [w1]; exact whole_cond.2 c1) ?_
      ((conv=>whnf);(repeat' ((first|refine Nd ?_|refine Hv fun _h=>?_);conv=>whnf)))
      have e : QaT c l = 3 := if_neg c1
      rw [show QaS c l = default from if_neg (by rw [e]; decide), e]
      exact RM.i0
 ·refine Br.yes (by simpa using hc) ?_
  ((conv=>whnf);(repeat' ((first|refine Nd ?_|refine Hv fun _h=>?_);conv=>whnf)))
  have e : Qu c d slot = Qq c := if_neg hc
  rw [show Qv c d slot = default from if_neg (by rw [e]; exact hc), e]
  exact RM.i0
theorem QpA : HB 85 := hB Tryz.func85
theorem QoA {c : Conf} {d : Dev} {slot : Int} (h : Qu c d slot = 0) : 1 ≤ (Qv c d slot).seq := by
 unfold Qv
 rw [if_pos h]
 unfold Qu at h
 split at h
 ·split at h
  ·split at h
   ·cases h
   ·rename_i l q
    try rw [q]
    show 1 ≤ (QaS c l).seq
    unfold QaS
    rw [if_pos h]
    unfold QaT at h
    split at h
    ·rename_i w
     have w := w.1
     unfold Qag
     rw [if_pos w]
     unfold QaH at w
     split at w
     ·rename_i ww
      exact (QcN ww.2.1).1.1
     ·cases w
    ·cases h
  ·cases h
 ·rename_i q; exact absurd h q
def QcA (c : Conf) (d : Dev) : Nat → Bas × Int
 | 0 => (default, -1)
 | k + 1 => if Qu c d k = 0 ∧ (QcA c d k).1.seq < (Qv c d k).seq then (Qv c d k, k) else QcA c d k
theorem Qrh (c : Conf) (d : Dev) : QcA c d 2 = Qs c d := by
 have h0 : QcA c d 1 = if Qu c d 0 = 0 then (Qv c d 0, 0) else (default, -1) := by
  show (if Qu c d (0 : Nat) = 0 ∧ (QcA c d 0).1.seq < (Qv c d (0 : Nat)).seq then _ else _) = _
  by_cases h : Qu c d 0 = 0
  ·have := QoA h
   rw [if_pos h, if_pos ⟨h, by show (0 : Int) < _; exact this⟩]
   rfl
  ·rw [if_neg h, if_neg fun q => h q.1]; rfl
 show (if Qu c d (1 : Nat) = 0 ∧ (QcA c d 1).1.seq < (Qv c d (1 : Nat)).seq then _ else _) = _
 rw [h0]
 unfold Qs
 by_cases h : Qu c d 0 = 0
 ·rw [if_pos h]
  by_cases g : Qu c d 1 = 0
  ·by_cases k : (Qv c d 1).seq ≤ (Qv c d 0).seq
   ·rw [if_neg fun q => by have := q.2; have e : (Qv c d ((1 : Nat) : Int)).seq = (Qv c d 1).seq := rfl; simp only at this; omega, if_pos ⟨h, Or.inr k⟩]
   ·rw [if_pos ⟨g, by show (Qv c d 0).seq < (Qv c d 1).seq; omega⟩, if_neg fun q => q.2.elim (fun z => z g) k, if_pos g]
    rfl
  ·rw [if_neg fun q => g q.1, if_pos ⟨h, Or.inl g⟩]
 ·rw [if_neg h]
  by_cases g : Qu c d 1 = 0
  ·have := QoA g
   rw [if_pos ⟨g, by show (0 : Int) < _; exact this⟩, if_neg fun q => h q.1, if_pos g]
   rfl
  ·rw [if_neg fun q => g q.1, if_neg fun q => h q.1, if_neg g]
set_option maxHeartbeats 2000000 in
theorem QlK (c : Conf) (d : Dev) (hd : d.tiny) : PS 45 [.a c.cells, .a d.cells] (.t [.inr (Qs c d).1.cells, .inl (.int .i64 (Qs c d).2)]) := by
 refine PSpec.rm ?_
 refine ov hΓ Tryz.func45 36 0 [.cell 4 57, .tmp 5] Tryz.ntmps45 Tryz.results45 ?_
 ((conv=>whnf);(repeat' ((first|refine Nd ?_|refine Hv fun _h=>?_);conv=>whnf)))
 refine Lp.mkK hΓ (ι := Nat) [2, 3, 4, 6] (fun k => [(12, .c (.int .i64 k)), (7, .c (.int .i64 (QcA c d k).2))]) (fun k => [.vr c.cells, .vr d.cells, .vr (default : Bas).cells, .vr (QcA c d k).1.cells]) (fun k => k ≤ 2) (fun k => 2 - k) 0 (Nat.zero_le _) ?_ ?_
 ·exact Mv.k0
 ·intro k hk
  ((conv=>whnf);(repeat' ((first|refine Nd ?_|refine Hv fun _h=>?_);conv=>whnf)))
  refine Br.of (fun h1=>?_) (fun h1=>?_)<;>(try simp only [Int.toNat_natCast] at h1)<;>(conv=>whnf)
  ·((conv=>whnf);(repeat' ((first|refine Nd ?_|refine Hv fun _h=>?_);conv=>whnf)))
   have w0 := Qa (↑k + 1) (by omega) (by omega)
   refine CallN.pureA QpA (Qpi c d hd k (by omega) (by omega) ) ?_
   ((conv=>whnf);(repeat' ((first|refine Nd ?_|refine Hv fun _h=>?_);conv=>whnf)))
   by_cases h : Qu c d k = 0 ∧ (QcA c d k).1.seq < (Qv c d k).seq
   ·refine Br.yes (by rw [h.1]; exact decide_eq_true h.2) ?_
    ((conv=>whnf);(repeat' ((first|refine Nd ?_|refine Hv fun _h=>?_);conv=>whnf)))
    refine ⟨k + 1, by omega, by omega, ?_⟩
    rw [show QcA c d (k + 1) = (Qv c d k, (k : Int)) from if_pos h]
    exact Mv.k0
   ·refine Br.no (Bool.eq_false_iff.2 fun q => h ?_) ?_
    ·by_cases g : Qu c d k = 0
     ·refine ⟨g, ?_⟩
      rw [g] at q
      exact of_decide_eq_true q
     ·rw [beq_false_of_ne g] at q
      cases q
    ·((conv=>whnf);(repeat' ((first|refine Nd ?_|refine Hv fun _h=>?_);conv=>whnf)))
     refine ⟨k + 1, by omega, by omega, ?_⟩
     rw [show QcA c d (k + 1) = QcA c d k from if_neg h]
     exact Mv.k0
  ·((conv=>whnf);(repeat' ((first|refine Nd ?_|refine Hv fun _h=>?_);conv=>whnf)))
   have : k = 2 := by omega
   subst this
   rw [Qrh]
   exact RM.i0
theorem Ql8 : HB 45 := hB Tryz.func45
theorem Ql0 (e : Ent) : PS 146 [.a e.cells] (.c (.int .i64 e.block)) := by
  refine PSpec.rm ?_
  refine ov hΓ Tryz.func146 5 0 [.tmp 2] Tryz.ntmps146 Tryz.results146 ?_
  ((conv=>whnf);(repeat' ((first|refine Nd ?_|refine Hv fun _h=>?_);conv=>whnf)))
  exact RM.i0
theorem Qll : HB 146 := hB Tryz.func146
theorem Qux {l : List Ent} (h : QL l = true) {i j : Nat} (hij : i < j) (hj : j < l.length) : (l.getD i default).block < (l.getD j default).block := by
  unfold QL at h
  rw [decide_eq_true_eq] at h
  induction j with
  | zero => omega
  | succ j ih =>
    have h1 := (h (j + 1) hj).2 (by omega)
    rw [Nat.add_sub_cancel] at h1
    by_cases c : i = j
    · subst c; exact h1
    · have := ih (by omega) (by omega); omega
set_option maxHeartbeats 2000000 in
theorem Qoa (l : List Ent) (b : Int) (h : QL l = true) (hl : l.length ≤ 1000000) : PS 145 [.c (QR l), .c (.int .i64 b), .c (.fn (.func 146) 0 fun _ => .junk)] (.t [.inl (.int .i64 (Qp l b)), .inl (.bool (hasM l b))]) := by
  refine PSpec.rm ?_
  refine ov hΓ Tryz.func145 46 0 [.tmp 6, .tmp 7] Tryz.ntmps145 Tryz.results145 ?_
  ((conv=>whnf);(repeat' ((first|refine Nd ?_|refine Hv fun _h=>?_);conv=>whnf)))
  refine Lp.mkK hΓ (ι := Nat × Nat) [0, 1, 2, 6, 7] (fun k => [(8, .c (.int .i64 k.1)), (9, .c (.int .i64 k.2))]) (fun _ => []) (fun k => k.1 ≤ k.2 ∧ k.2 ≤ l.length ∧ (∀ i, i < k.1 → (l.getD i default).block < b) ∧ (k.2 = l.length ∨ b ≤ (l.getD k.2 default).block)) (fun k => k.2 - k.1) (0, l.length) ⟨Nat.zero_le _, Nat.le_refl _, fun i hi => absurd hi (Nat.not_lt_zero _), Or.inl rfl⟩ ?_ ?_
  · exact Mv.k0
  · rintro ⟨lo, hi⟩ ⟨h1, h2, h3, h4⟩
    have h1 : lo ≤ hi := h1
    have h2 : hi ≤ l.length := h2
    dsimp only
    ((conv=>whnf);(repeat' ((first|refine Nd ?_|refine Hv fun _h=>?_);conv=>whnf)))
    refine Br.of (fun c1=>?_) (fun c1=>?_)<;>(try simp only [Int.toNat_natCast] at c1)<;>(conv=>whnf)
    · have c1 : lo < hi := by have : (lo : Int) < hi := c1; omega
      have w0 : (IntKind.i64.wrap (IntKind.i64.wrap ((lo : Int) + hi))).tdiv 2 = (((lo + hi) / 2 : Nat) : Int) := by
        rw [Qa (lo + hi : Int) (by omega) (by omega), Qa _ (by omega) (by omega), Int.tdiv_eq_ediv_of_nonneg (by omega)]
        omega
      have w1 : (IntKind.i64.wrap ((lo : Int) + hi)).tdiv 2 = (((lo + hi) / 2 : Nat) : Int) := by
        rw [Qa (lo + hi : Int) (by omega) (by omega), Int.tdiv_eq_ediv_of_nonneg (by omega)]
        omega
      have hm : (lo + hi) / 2 < l.length := by omega
      have wv : IntKind.i64.wrap (((lo + hi) / 2 : Nat) : Int) = (((lo + hi) / 2 : Nat) : Int) := Qa _ (by omega) (by omega)
      ((conv=>whnf);(repeat' ((first|refine Nd ?_|refine Hv fun _h=>?_);conv=>whnf)))
      rw [w1, wv, Int.toNat_natCast]
      refine CallN.pureA Qll (Ql0 (l.getD ((lo + hi) / 2) default) ) ?_
      ((conv=>whnf);(repeat' ((first|refine Nd ?_|refine Hv fun _h=>?_);conv=>whnf)))
      have w2 := Qa ((((lo + hi) / 2 : Nat) : Int) + 1) (by omega) (by omega)
      refine Br.of (fun c2=>?_) (fun c2=>?_)<;>(try simp only [Int.toNat_natCast] at c2)<;>(conv=>whnf)
      · ((conv=>whnf);(repeat' ((first|refine Nd ?_|refine Hv fun _h=>?_);conv=>whnf)))
        refine ⟨((lo + hi) / 2 + 1, hi), ⟨by show (lo + hi) / 2 + 1 ≤ hi; omega, h2, fun i hi2 => ?_, h4⟩, by show hi - ((lo + hi) / 2 + 1) < hi - lo; omega, ?_⟩
        · by_cases e : i = (lo + hi) / 2
          · subst e; exact c2
          · have hi2 : i < (lo + hi) / 2 + 1 := hi2
            have := Qux h (i := i) (j := (lo + hi) / 2) (by omega) hm
            omega
        · exact Mv.k0
      · ((conv=>whnf);(repeat' ((first|refine Nd ?_|refine Hv fun _h=>?_);conv=>whnf)))
        refine ⟨(lo, (lo + hi) / 2), ⟨by show lo ≤ (lo + hi) / 2; omega, by show (lo + hi) / 2 ≤ l.length; omega, h3, Or.inr ?_⟩, by show (lo + hi) / 2 - lo < hi - lo; omega, ?_⟩
        · show b ≤ (l.getD ((lo + hi) / 2) default).block
          omega
        · exact Mv.k0
    · have c1 : hi ≤ lo := by have : ¬ (lo : Int) < hi := by have := c1; omega
                              omega
      have hp : Qp l b = lo := Qkv (by omega) h3 (by
        rcases h4 with h4 | h4
        · exact Or.inl (by omega)
        · exact Or.inr (by rw [show lo = hi by omega]; exact h4))
      ((conv=>whnf);(repeat' ((first|refine Nd ?_|refine Hv fun _h=>?_);conv=>whnf)))
      refine CallG.auto Qll (fun _ => Ql0 (l.getD lo default)) ?_
      ((conv=>whnf);(repeat' ((first|refine Nd ?_|refine Hv fun _h=>?_);conv=>whnf)))
      rw [hp, show hasM l b = (bif decide ((lo : Int) < l.length) then (l.getD lo default).block == b else false) by
        unfold hasM
        rw [hp]
        by_cases q : lo < l.length
        · rw [decide_eq_true (show (lo : Int) < l.length by omega), cond_true]
          by_cases r : (l.getD lo default).block = b
          · rw [decide_eq_true ⟨q, r⟩, r, beq_self_eq_true]
          · rw [decide_eq_false fun z => r z.2, beq_eq_false_iff_ne.2 r]
        · rw [decide_eq_false fun z => q z.1, decide_eq_false (show ¬ (lo : Int) < l.length by omega)]
          rfl]
      exact RM.i0
theorem Qom : HB 145 := hB Tryz.func145
theorem Qte (m : List (List Ent)) (b : Int) (hm : m.length ≤ 1000000) (hs : ∀ i, (m.getD i default).length ≤ 1000000) : PS 92 [.a [Qm m], .c (.int .i64 b)] (.t [.inl (.int .i64 (Q4 m b)), .inl (.bool (decide (0 ≤ Q4 m b) && Q3 m))]) := by
 refine PSpec.rm ?_
 refine ov hΓ Tryz.func92 19 0 [.tmp 4, .tmp 5] Tryz.ntmps92 Tryz.results92 ?_
 ((conv=>whnf);(repeat' ((first|refine Nd ?_|refine Hv fun _h=>?_);conv=>whnf)))
 refine CallN.pureA QhD (Qhp m b hm ) ?_
 ((conv=>whnf);(repeat' ((first|refine Nd ?_|refine Hv fun _h=>?_);conv=>whnf)))
 refine CallG.auto Qon (fun _ => QnW m hm hs ) ?_
 ((conv=>whnf);(repeat' ((first|refine Nd ?_|refine Hv fun _h=>?_);conv=>whnf)))
 exact RM.i0
theorem QtB : HB 92 := hB Tryz.func92
theorem QhV {l : List Ent} {e : Ent} {k k' : Nat} {t : List C} {Z : Nat → Nat → C} {n1 n2 k2 i j : Nat} (hk : k ≤ l.length) (h1 : n1 = k) (h2 : n2 = k + 1) (h3 : k2 = k') (hj : j < 6) :
  appG (appG (appG Z 0 (entG l)) n1 (Qaf 6 (e.cells ++ t))) n2 (fun i j => entG l (k2 + i) j) i j = entG (l.take k ++ e :: l.drop k') i j := by
 subst h1 h2 h3
 have hlen : (l.take n1).length = n1 := by rw [List.length_take]; omega
 unfold appG
 simp only [Nat.not_lt_zero, if_false, Nat.sub_zero]
 unfold entG rowG
 by_cases c1 : i < n1 + 1
 ·rw [if_pos c1]
  by_cases c2 : i < n1
  ·rw [if_pos c2]
   congr 1
   simp only [List.getD]
   rw [List.getElem?_append_left (by omega), List.getElem?_take, if_pos c2]
  ·rw [if_neg c2]
   have : i = n1 := by omega
   subst this
   rw [show (l.take i ++ e :: l.drop k2).getD i default = e by
    simp only [List.getD]
    rw [List.getElem?_append_right (by omega), hlen, Nat.sub_self]
    rfl]
   rw [Nat.sub_self]
   match j, hj with
   | 0, _ => rfl
   | 1, _ => rfl
   | 2, _ => rfl
   | 3, _ => rfl
   | 4, _ => rfl
   | 5, _ => rfl
 ·rw [if_neg c1]
  congr 1
  simp only [List.getD]
  rw [List.getElem?_append_right (by omega), hlen, show i - n1 = (i - (n1 + 1)) + 1 by omega, List.getElem?_cons_succ, List.getElem?_drop]
set_option maxHeartbeats 4000000 in
theorem QkX (l : List Ent) (e : Ent) (hl : l.length ≤ 1000000) : PS 75 [.c (QR l), .a e.cells] (.t [.inl (QR (QD l e).1), .inr (QD l e).2.1.cells, .inl (.bool (QD l e).2.2)]) := by
 refine PSpec.rm ?_
 refine ov hΓ Tryz.func75 59 0 [.tmp 4, .cell 5 67, .tmp 6] Tryz.ntmps75 Tryz.results75 ?_
 ((conv=>whnf);(repeat' ((first|refine Nd ?_|refine Hv fun _h=>?_);conv=>whnf)))
 refine CallN.pureA Qdt (Qdn l hl ) ?_
 ((conv=>whnf);(repeat' ((first|refine Nd ?_|refine Hv fun _h=>?_);conv=>whnf)))
 by_cases hv : QL l = true
 ·refine Br.no (by rw [hv]; rfl) ?_
  ((conv=>whnf);(repeat' ((first|refine Nd ?_|refine Hv fun _h=>?_);conv=>whnf)))
  refine CallN.pureA QhC (Qhv e ) ?_
  ((conv=>whnf);(repeat' ((first|refine Nd ?_|refine Hv fun _h=>?_);conv=>whnf)))
  by_cases he : QbO e = true
  ·refine Br.no (by rw [he]; rfl) ?_
   ((conv=>whnf);(repeat' ((first|refine Nd ?_|refine Hv fun _h=>?_);conv=>whnf)))
   have hple := QdD l e.block
   refine CallN.pureA Qe7 (Qe2 l e.block hl ) ?_
   ((conv=>whnf);(repeat' ((first|refine Nd ?_|refine Hv fun _h=>?_);conv=>whnf)))
   refine CallN.pureA Qf5 (QfH l e.block hl ) ?_
   ((conv=>whnf);(repeat' ((first|refine Nd ?_|refine Hv fun _h=>?_);conv=>whnf)))
   have hf2 : (QK l e.block).2 = hasM l e.block := by
    unfold QK
    by_cases q : hasM l e.block = true
    ·rw [if_pos ⟨hv, q⟩, q]
    ·rw [if_neg (fun z => q z.2), QaM q]
   by_cases c : (QK l e.block).2 = true ∧ e.version ≤ (QK l e.block).1.version
   ·refine Br.yes (by simp [-List.getD_eq_getElem?_getD, c.1]; exact c.2) ?_
    ((conv=>whnf);(repeat' ((first|refine Nd ?_|refine Hv fun _h=>?_);conv=>whnf)))
    refine Dr.mk hΓ hMix (by kernel_rfl) ?_; conv=>whnf
    ((conv=>whnf);(repeat' ((first|refine Nd ?_|refine Hv fun _h=>?_);conv=>whnf)))
    rw [show QD l e = (l, (QK l e.block).1, false) by unfold QD; rw [if_pos hv, if_pos he, if_pos c]]
    exact RM.i0
   ·refine Br.no (Bool.eq_false_iff.2 fun z => c (by simpa using z)) ?_
    ((conv=>whnf);(repeat' ((first|refine Nd ?_|refine Hv fun _h=>?_);conv=>whnf)))
    have hi : QD l e = (putE l e, (QK l e.block).1, true) := by unfold QD; rw [if_pos hv, if_pos he, if_neg c]
    have w1 := Qa ((Qp l e.block : Int) + 1) (by omega) (by omega)
    by_cases hm : hasM l e.block = true
    ·have hm' := (hasM_iff.1 hm).1
     refine Br.yes (hf2.trans hm) ?_
     ((conv=>whnf);(repeat' ((first|refine Nd ?_|refine Hv fun _h=>?_);conv=>whnf)))
     rw [w1]
     ((conv=>whnf);(repeat' ((first|refine Nd ?_|refine Hv fun _h=>?_);conv=>whnf)))
     refine Dr.mkE hΓ hMix [] [(5, 4)] (by kernel_rfl) ?_; conv=>whnf
     ((conv=>whnf);(repeat' ((first|refine Nd ?_|refine Hv fun _h=>?_);conv=>whnf)))
     have hpe : putE l e = l.take (Qp l e.block) ++ e :: l.drop (Qp l e.block + 1) := by unfold putE; rw [if_pos hm]
     have hpl : (putE l e).length = Qp l e.block + 1 + (l.length - (Qp l e.block + 1)) := by rw [hpe]; simp; omega
     rw [hi]
     refine RM.allT (FwT.consC (Fw.slP rfl rfl (by rw [hpl]; simp only [Int.toNat_natCast]; omega) (fun i _ j hj => (QhV (e := e) hple (by simp) (by simp) (show (((Qp l e.block : Nat) : Int) + 1).toNat = Qp l e.block + 1 by omega) hj).trans (by rw [hpe])) (fun _ _ => QF _ _)) (FwT.consL (FwL.cons (Fw.same rfl) (FwL.cons (Fw.same rfl) (FwL.cons (Fw.same rfl) (FwL.cons (Fw.same rfl) (FwL.cons (Fw.same rfl) (FwL.cons (Fw.same rfl) FwL.nil)))))) (FwT.consC (Fw.same rfl) FwT.nil)))
    ·refine Br.no (hf2.trans (QaM hm)) ?_
     ((conv=>whnf);(repeat' ((first|refine Nd ?_|refine Hv fun _h=>?_);conv=>whnf)))
     refine Dr.mkE hΓ hMix [] [(5, 4)] (by kernel_rfl) ?_; conv=>whnf
     ((conv=>whnf);(repeat' ((first|refine Nd ?_|refine Hv fun _h=>?_);conv=>whnf)))
     have hpe : putE l e = l.take (Qp l e.block) ++ e :: l.drop (Qp l e.block) := by unfold putE; rw [if_neg hm]
     have hpl : (putE l e).length = Qp l e.block + 1 + (l.length - Qp l e.block) := by rw [hpe]; simp; omega
     rw [hi]
     refine RM.allT (FwT.consC (Fw.slP rfl rfl (by rw [hpl]; simp only [Int.toNat_natCast]; omega) (fun i _ j hj => (QhV (e := e) hple (by simp) (by simp) (show (((Qp l e.block : Nat) : Int)).toNat = Qp l e.block by omega) hj).trans (by rw [hpe])) (fun _ _ => QF _ _)) (FwT.consL (FwL.cons (Fw.same rfl) (FwL.cons (Fw.same rfl) (FwL.cons (Fw.same rfl) (FwL.cons (Fw.same rfl) (FwL.cons (Fw.same rfl) (FwL.cons (Fw.same rfl) FwL.nil)))))) (FwT.consC (Fw.same rfl) FwT.nil)))
  ·refine Br.yes (by rw [QaM he]; rfl) ?_
   ((conv=>whnf);(repeat' ((first|refine Nd ?_|refine Hv fun _h=>?_);conv=>whnf)))
   rw [show QD l e = (l, default, false) by unfold QD; rw [if_pos hv, if_neg he]]
   exact RM.i0
 ·refine Br.yes (by rw [QaM hv]; rfl) ?_
  ((conv=>whnf);(repeat' ((first|refine Nd ?_|refine Hv fun _h=>?_);conv=>whnf)))
  rw [show QD l e = ([], default, false) from if_neg hv]
  exact RM.i0
theorem QkN : HB 75 := hB Tryz.func75
theorem Qsr {l : List Ent} {p : Nat} {tz t2 : Int} (hp : p < l.length) (i j : Nat) (hj : j < 6) : updG (entG l) p 4 [.int .i64 tz, .int .i64 t2] i j = entG (l.set p { l.getD p default with zone := tz, offset := t2 }) i j := by
 refine Qc6 hp (es := 6) (fun j hj => ?_) i j hj
 match j, hj with
 | 0, _ => rfl
 | 1, _ => rfl
 | 2, _ => rfl
 | 3, _ => rfl
 | 4, _ => rfl
 | 5, _ => rfl
theorem Qtj {l : List Ent} {p : Nat} {mv : Int} (hp : p < l.length) (i j : Nat) (hj : j < 6) : updG (entG l) p 3 [.int .i64 mv] i j = entG (l.set p { l.getD p default with move := mv }) i j := by
 refine Qc6 hp (es := 6) (fun j hj => ?_) i j hj
 match j, hj with
 | 0, _ => rfl
 | 1, _ => rfl
 | 2, _ => rfl
 | 3, _ => rfl
 | 4, _ => rfl
 | 5, _ => rfl
theorem QrX {l : List Ent} {p : Nat} {tz t2 mv : Int} {e : Ent} (hp : p < l.length) (he : e = l.getD p default) (i j : Nat) (hj : j < 6) : updG (updG (entG l) p 4 [.int .i64 tz, .int .i64 t2]) p 3 [.int .i64 mv] i j = entG (l.set p { e with zone := tz, offset := t2, move := mv }) i j := by
 subst he
 rw [Qo6 (Qsr hp i j hj), Qtj (by simpa using hp) i j hj, Qtr hp, List.set_set]
set_option maxHeartbeats 4000000 in
theorem Qne (l : List Ent) (b v fz fo tz t2 move : Int) (hl : l.length ≤ 1000000) : PS 73 [.c (QR l), .c (.int .i64 b), .c (.int .i64 v), .a [.int .i64 fz, .int .i64 fo], .a [.int .i64 tz, .int .i64 t2], .c (.int .i64 move)] (.t [.inl (QR (relE l b v fz fo tz t2 move).1), .inl (.bool (relE l b v fz fo tz t2 move).2)]) := by
 refine PSpec.rm ?_
 refine ov hΓ Tryz.func73 77 0 [.tmp 12, .tmp 13] Tryz.ntmps73 Tryz.results73 ?_
 ((conv=>whnf);(repeat' ((first|refine Nd ?_|refine Hv fun _h=>?_);conv=>whnf)))
 refine CallN.pureA Qdt (Qdn l hl ) ?_
 ((conv=>whnf);(repeat' ((first|refine Nd ?_|refine Hv fun _h=>?_);conv=>whnf)))
 by_cases hv : QL l = true
 ·refine Br.no (by rw [hv]; rfl) ?_
  ((conv=>whnf);(repeat' ((first|refine Nd ?_|refine Hv fun _h=>?_);conv=>whnf)))
  refine CallN.pureA Qf5 (QfH l b hl ) ?_
  ((conv=>whnf);(repeat' ((first|refine Nd ?_|refine Hv fun _h=>?_);conv=>whnf)))
  by_cases c : (QK l b).2 = true ∧ (QK l b).1.version = v ∧ (QK l b).1.zone = fz ∧ (QK l b).1.offset = fo ∧ 0 ≤ tz ∧ 0 ≤ t2 ∧ 0 ≤ move ∧ move ≤ 255
  ·have hi : relE l b v fz fo tz t2 move = (l.set (Qp l b) { (QK l b).1 with zone := tz, offset := t2, move := move }, true) := by unfold relE; rw [if_pos hv, if_pos c]
   refine Br.no (Bool.eq_false_iff.2 fun ebye => by simp [-List.getD_eq_getElem?_getD, -Int.default_eq_zero, c.1,c.2.1,c.2.2.1,c.2.2.2.1,c.2.2.2.2] at ebye <;> grind) ?_; conv=>whnf
   ((conv=>whnf);(repeat' ((first|refine Nd ?_|refine Hv fun _h=>?_);conv=>whnf)))
   have hple := QdD l b
   refine CallN.pureA Qe7 (Qe2 l b hl ) ?_
   ((conv=>whnf);(repeat' ((first|refine Nd ?_|refine Hv fun _h=>?_);conv=>whnf)))
   have hm : hasM l b = true := by
    have h2 := c.1
    unfold QK at h2
    by_cases q : hasM l b = true
    ·exact q
    ·rw [if_neg (fun z => q z.2)] at h2; cases h2
   have hlt := (hasM_iff.1 hm).1
   have hfe : (QK l b).1 = l.getD (Qp l b) default := by unfold QK; rw [if_pos ⟨hv, hm⟩]
   ((conv=>whnf);(repeat' ((first|refine Nd ?_|refine Hv fun _h=>?_);conv=>whnf)))
   rw [hi]
   exact RM.allT (FwT.consC (Fw.slP rfl rfl (by simp) (fun i _ j hj => QrX hlt hfe i j hj) (fun _ _ => QF _ _)) (FwT.consC (Fw.same rfl) FwT.nil))
  ·refine Br.yes (Decidable.byContradiction fun ebye => c (by simp [-List.getD_eq_getElem?_getD, -Int.default_eq_zero] at ebye <;> grind)) ?_; conv=>whnf
   ((conv=>whnf);(repeat' ((first|refine Nd ?_|refine Hv fun _h=>?_);conv=>whnf)))
   rw [show relE l b v fz fo tz t2 move = (l, false) by unfold relE; rw [if_pos hv, if_neg c]]
   exact RM.i0
 ·refine Br.yes (by rw [QaM hv]; rfl) ?_
  ((conv=>whnf);(repeat' ((first|refine Nd ?_|refine Hv fun _h=>?_);conv=>whnf)))
  rw [show relE l b v fz fo tz t2 move = ([], false) from if_neg hv]
  exact RM.i0
theorem Qoi : HB 73 := hB Tryz.func73
theorem Qif (m : List (List Ent)) (i : Int) (l : List Ent) (hm : m.length ≤ 1000000) (h0 : 0 ≤ i) (h1 : i < m.length) : PS 74 [.a [Qm m], .c (.int .i64 i), .c (QR l)] (.a [Qm (m.set i.toNat l)]) := by
 have hi : i.toNat < m.length := by omega
 refine PSpec.rm ?_
 refine ov hΓ Tryz.func74 18 0 [.cell 6 34] Tryz.ntmps74 Tryz.results74 ?_
 ((conv=>whnf);(repeat' ((first|refine Nd ?_|refine Hv fun _h=>?_);conv=>whnf)))
 refine RM.allA (FwL.cons (Fw.slP rfl rfl (by simp) (fun a _ j hj => Qc6 (f := fun (l : List Ent) (_ : Nat) => QR l) (x := l) hi (es := 1) (fun j hj => ?_) a j hj) (fun _ _ => rfl)) FwL.nil)
 have : j = 0 := by omega
 subst this
 rfl
theorem Qh2 : HB 74 := hB Tryz.func74
theorem QeP {m : List (List Ent)} {b : Int} (h : Q3 m = true) (hb : 0 ≤ b) : Q4 m b = (Qj m b : Nat) := by
 have := QeT h
 unfold Q4
 rw [if_neg (by omega), Qhw h hb]
theorem QhZ (m : List (List Ent)) (b : Int) (hm : m.length ≤ 1000000) (hs : ∀ i, (m.getD i default).length ≤ 1000000) : PS 35 [.a [Qm m], .c (.int .i64 b)] (.t [.inr (Qa5 m b).1.cells, .inl (.bool (Qa5 m b).2)]) := by
 refine PSpec.rm ?_
 refine ov hΓ Tryz.func35 25 0 [.cell 4 67, .tmp 5] Tryz.ntmps35 Tryz.results35 ?_
 ((conv=>whnf);(repeat' ((first|refine Nd ?_|refine Hv fun _h=>?_);conv=>whnf)))
 refine CallN.pureA Qdr (Qdv m hm hs ) ?_
 ((conv=>whnf);(repeat' ((first|refine Nd ?_|refine Hv fun _h=>?_);conv=>whnf)))
 by_cases c : Q3 m = true ∧ 0 ≤ b
 ·have hlt := QbT c.1 c.2
  have hint := Qhw c.1 c.2
  refine Br.no (Bool.eq_false_iff.2 fun ebye => by simp [-List.getD_eq_getElem?_getD, -Int.default_eq_zero, c.1,c.2] at ebye <;> grind) ?_; conv=>whnf
  ((conv=>whnf);(repeat' ((first|refine Nd ?_|refine Hv fun _h=>?_);conv=>whnf)))
  refine Dr.mk hΓ hMix (by kernel_rfl) ?_; conv=>whnf
  ((conv=>whnf);(repeat' ((first|refine Nd ?_|refine Hv fun _h=>?_);conv=>whnf)))
  refine CallP.auto Qd9 (Qeq m b hm ) ?_
  rw [QeP c.1 c.2]
  ((conv=>whnf);(repeat' ((first|refine Nd ?_|refine Hv fun _h=>?_);conv=>whnf)))
  refine CallP.auto Qf5 (QfH (m.getD (Qj m b) default) b (hs _) ) ?_
  ((conv=>whnf);(repeat' ((first|refine Nd ?_|refine Hv fun _h=>?_);conv=>whnf)))
  rw [show Qa5 m b = QK (m.getD (Qj m b) default) b from if_pos c]
  exact RM.i0
 ·refine Br.yes (Decidable.byContradiction fun ebye => c (by simp [-List.getD_eq_getElem?_getD, -Int.default_eq_zero] at ebye <;> grind)) ?_; conv=>whnf
  ((conv=>whnf);(repeat' ((first|refine Nd ?_|refine Hv fun _h=>?_);conv=>whnf)))
  rw [show Qa5 m b = (default, false) from if_neg c]
  exact RM.i0
theorem QiY : HB 35 := hB Tryz.func35
set_option maxHeartbeats 2000000 in
theorem Qpb (m : List (List Ent)) (e : Ent) (hm : m.length ≤ 1000000) (hs : ∀ i, (m.getD i default).length ≤ 1000000) : PS 39 [.a [Qm m], .a e.cells] (.t [.inr [Qm (Qaq m e).1], .inr (Qaq m e).2.1.cells, .inl (.bool (Qaq m e).2.2)]) := by
 refine PSpec.rm ?_
 refine ov hΓ Tryz.func39 45 0 [.cell 4 34, .cell 5 67, .tmp 6] Tryz.ntmps39 Tryz.results39 ?_
 ((conv=>whnf);(repeat' ((first|refine Nd ?_|refine Hv fun _h=>?_);conv=>whnf)))
 refine CallN.pureA Qdr (Qdv m hm hs ) ?_
 ((conv=>whnf);(repeat' ((first|refine Nd ?_|refine Hv fun _h=>?_);conv=>whnf)))
 by_cases c : Q3 m = true ∧ 0 ≤ e.block
 ·have hlt := QbT c.1 c.2
  refine Br.no (Bool.eq_false_iff.2 fun ebye => by simp [-List.getD_eq_getElem?_getD, -Int.default_eq_zero, c.1,c.2] at ebye <;> grind) ?_; conv=>whnf
  ((conv=>whnf);(repeat' ((first|refine Nd ?_|refine Hv fun _h=>?_);conv=>whnf)))
  refine CallN.pureA Qd9 (Qeq m e.block hm ) ?_
  rw [QeP c.1 c.2]
  ((conv=>whnf);(repeat' ((first|refine Nd ?_|refine Hv fun _h=>?_);conv=>whnf)))
  refine Dr.mkE hΓ hMix [] [(10, 13)] (by kernel_rfl) ?_; conv=>whnf
  ((conv=>whnf);(repeat' ((first|refine Nd ?_|refine Hv fun _h=>?_);conv=>whnf)))
  refine CallP.auto QkN (QkX (m.getD (Qj m e.block) default) e (hs _) ) ?_
  ((conv=>whnf);(repeat' ((first|refine Nd ?_|refine Hv fun _h=>?_);conv=>whnf)))
  by_cases d : (QD (m.getD (Qj m e.block) default) e).2.2 = true
  ·refine Br.no (by rw [d]; rfl) ?_
   ((conv=>whnf);(repeat' ((first|refine Nd ?_|refine Hv fun _h=>?_);conv=>whnf)))
   refine Dr.mkE hΓ hMix [] [(4, 5)] (by kernel_rfl) ?_; conv=>whnf
   ((conv=>whnf);(repeat' ((first|refine Nd ?_|refine Hv fun _h=>?_);conv=>whnf)))
   refine CallP.auto Qh2 (Qif m (Qj m e.block : Nat) (QD (m.getD (Qj m e.block) default) e).1 hm (by omega) (by omega) ) ?_
   ((conv=>whnf);(repeat' ((first|refine Nd ?_|refine Hv fun _h=>?_);conv=>whnf)))
   rw [show Qaq m e = (m.set (Qj m e.block) (QD (m.getD (Qj m e.block) default) e).1, (QD (m.getD (Qj m e.block) default) e).2.1, true) by unfold Qaq; rw [if_pos c, if_pos d]]
   exact RM.i0
  ·refine Br.yes (by rw [QaM d]; rfl) ?_
   ((conv=>whnf);(repeat' ((first|refine Nd ?_|refine Hv fun _h=>?_);conv=>whnf)))
   refine Dr.mkE hΓ hMix [] [(1, 2)] (by kernel_rfl) ?_; conv=>whnf
   ((conv=>whnf);(repeat' ((first|refine Nd ?_|refine Hv fun _h=>?_);conv=>whnf)))
   rw [show Qaq m e = (m, (QD (m.getD (Qj m e.block) default) e).2.1, false) by unfold Qaq; rw [if_pos c, if_neg d]]
   exact RM.i0
 ·refine Br.yes (Decidable.byContradiction fun ebye => c (by simp [-List.getD_eq_getElem?_getD, -Int.default_eq_zero] at ebye <;> grind)) ?_; conv=>whnf
  ((conv=>whnf);(repeat' ((first|refine Nd ?_|refine Hv fun _h=>?_);conv=>whnf)))
  rw [show Qaq m e = (m, default, false) from if_neg c]
  exact RM.i0
theorem Qqt : HB 39 := hB Tryz.func39
set_option maxHeartbeats 2000000 in
theorem QnU (m : List (List Ent)) (b v fz fo tz t2 move : Int) (hm : m.length ≤ 1000000) (hs : ∀ i, (m.getD i default).length ≤ 1000000) : PS 38 [.a [Qm m], .c (.int .i64 b), .c (.int .i64 v), .a [.int .i64 fz, .int .i64 fo], .a [.int .i64 tz, .int .i64 t2], .c (.int .i64 move)] (.t [.inr [Qm (relM m b v fz fo tz t2 move).1], .inl (.bool (relM m b v fz fo tz t2 move).2)]) := by
 refine PSpec.rm ?_
 refine ov hΓ Tryz.func38 49 0 [.cell 12 34, .tmp 13] Tryz.ntmps38 Tryz.results38 ?_
 ((conv=>whnf);(repeat' ((first|refine Nd ?_|refine Hv fun _h=>?_);conv=>whnf)))
 refine CallN.pureA Qdr (Qdv m hm hs ) ?_
 ((conv=>whnf);(repeat' ((first|refine Nd ?_|refine Hv fun _h=>?_);conv=>whnf)))
 by_cases c : Q3 m = true ∧ 0 ≤ b
 ·have hlt := QbT c.1 c.2
  refine Br.no (Bool.eq_false_iff.2 fun ebye => by simp [-List.getD_eq_getElem?_getD, -Int.default_eq_zero, c.1,c.2] at ebye <;> grind) ?_; conv=>whnf
  ((conv=>whnf);(repeat' ((first|refine Nd ?_|refine Hv fun _h=>?_);conv=>whnf)))
  refine CallN.pureA Qd9 (Qeq m b hm ) ?_
  rw [QeP c.1 c.2]
  ((conv=>whnf);(repeat' ((first|refine Nd ?_|refine Hv fun _h=>?_);conv=>whnf)))
  refine Dr.mk hΓ hMix (by kernel_rfl) ?_; conv=>whnf
  ((conv=>whnf);(repeat' ((first|refine Nd ?_|refine Hv fun _h=>?_);conv=>whnf)))
  refine CallP.auto Qoi (Qne (m.getD (Qj m b) default) b v fz fo tz t2 move (hs _) ) ?_
  ((conv=>whnf);(repeat' ((first|refine Nd ?_|refine Hv fun _h=>?_);conv=>whnf)))
  by_cases d : (relE (m.getD (Qj m b) default) b v fz fo tz t2 move).2 = true
  ·refine Br.no (by rw [d]; rfl) ?_
   ((conv=>whnf);(repeat' ((first|refine Nd ?_|refine Hv fun _h=>?_);conv=>whnf)))
   refine CallN.pureA Qh2 (Qif m (Qj m b : Nat) (relE (m.getD (Qj m b) default) b v fz fo tz t2 move).1 hm (by omega) (by omega) ) ?_
   ((conv=>whnf);(repeat' ((first|refine Nd ?_|refine Hv fun _h=>?_);conv=>whnf)))
   rw [show relM m b v fz fo tz t2 move = (m.set (Qj m b) (relE (m.getD (Qj m b) default) b v fz fo tz t2 move).1, true) by unfold relM; rw [if_pos c, if_pos d]]
   exact RM.i0
  ·refine Br.yes (by rw [QaM d]; rfl) ?_
   ((conv=>whnf);(repeat' ((first|refine Nd ?_|refine Hv fun _h=>?_);conv=>whnf)))
   rw [show relM m b v fz fo tz t2 move = (m, false) by unfold relM; rw [if_pos c, if_neg d]]
   exact RM.i0
 ·refine Br.yes (Decidable.byContradiction fun ebye => c (by simp [-List.getD_eq_getElem?_getD, -Int.default_eq_zero] at ebye <;> grind)) ?_; conv=>whnf
  ((conv=>whnf);(repeat' ((first|refine Nd ?_|refine Hv fun _h=>?_);conv=>whnf)))
  rw [show relM m b v fz fo tz t2 move = (m, false) from if_neg c]
  exact RM.i0
theorem QnG : HB 38 := hB Tryz.func38
end Go.Proofs
end
