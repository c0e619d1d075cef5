/- Contracts, lemmas; no condition. -/
import Derived.Test.YtkelkepdcfogaaaGreatP17C
import Derived.Test.YtkelkepdcfogaaaGreatP19C
import Derived.Test.YtkelkepdcfogaaaGreatP11C
import Derived.Test.YtkelkepdcfogaaaGreatP23C
import Derived.Test.YtkelkepdcfogaaaGreatP21C
import Derived.Test.YtkelkepdcfogaaaGreatP18C
set_option linter.all false
section
open Go Go.Am
namespace Go.Proofs
set_option maxRecDepth 20000
theorem Qmc (e : Ent) : PS 146 [.a e.cells] (.c (.int .i64 e.block)) := by
  refine PSpec.rm ?_
  refine ov0 hΓ Tryz.func146 5 0 [.tmp 2] Tryz.ntmps146 Tryz.results146 ?_
  exact RM.i0
theorem QlC : HB 146 := hB Tryz.func146
theorem Qvx {l : List Ent} (h : Qy l = true) {i j : Nat} (hij : i < j) (hj : j < l.length) : (l.getD i default).block < (l.getD j default).block := by
  unfold Qy at h
  rw [decide_eq_true_eq] at h
  induction j with
  | zero => omega
  | succ j ih =>
    have h1 := (h (j + 1) hj).2 (by omega)
    rw [Nat.add_sub_cancel] at h1
    by_cases c : i = j
    · subst c; exact h1
    · have := ih (by omega) (by omega); omega
set_option maxHeartbeats 2000000 in
theorem Qor (l : List Ent) (b : Int) (h : Qy l = true) (hl : l.length ≤ 1000000) : PS 145 [.c (QS l), .c (.int .i64 b), .c (.fn (.func 146) 0 fun _ => .junk)] (.t [.inl (.int .i64 (Qq l b)), .inl (.bool (hasM l b))]) := by
  refine PSpec.rm ?_
  refine ov hΓ Tryz.func145 46 0 [.tmp 6, .tmp 7] Tryz.ntmps145 Tryz.results145 ?_
  refine Go1 fun _h=>?_
  refine Lp.mkK hΓ (ι := Nat × Nat) [0, 1, 2, 6, 7] (fun k => [(8, .c (.int .i64 k.1)), (9, .c (.int .i64 k.2))]) (fun _ => []) (fun k => k.1 ≤ k.2 ∧ k.2 ≤ l.length ∧ (∀ i, i < k.1 → (l.getD i default).block < b) ∧ (k.2 = l.length ∨ b ≤ (l.getD k.2 default).block)) (fun k => k.2 - k.1) (0, l.length) ⟨Nat.zero_le _, Nat.le_refl _, fun i hi => absurd hi (Nat.not_lt_zero _), Or.inl rfl⟩ ?_ ?_
  · exact Mv.k0
  · rintro ⟨lo, hi⟩ ⟨h1, h2, h3, h4⟩
    have h1 : lo ≤ hi := h1
    have h2 : hi ≤ l.length := h2
    dsimp only
    refine Go0 ?_
    refine Br.of (fun c1=>?_) (fun c1=>?_)<;>(try simp only [Int.toNat_natCast] at c1)<;>(conv=>whnf)
    · have c1 : lo < hi := by have : (lo : Int) < hi := c1; omega
      have w0 : (IntKind.i64.wrap (IntKind.i64.wrap ((lo : Int) + hi))).tdiv 2 = (((lo + hi) / 2 : Nat) : Int) := by
        rw [Qa (lo + hi : Int) (by omega) (by omega), Qa _ (by omega) (by omega), Int.tdiv_eq_ediv_of_nonneg (by omega)]
        omega
      have w1 : (IntKind.i64.wrap ((lo : Int) + hi)).tdiv 2 = (((lo + hi) / 2 : Nat) : Int) := by
        rw [Qa (lo + hi : Int) (by omega) (by omega), Int.tdiv_eq_ediv_of_nonneg (by omega)]
        omega
      have hm : (lo + hi) / 2 < l.length := by omega
      have wv : IntKind.i64.wrap (((lo + hi) / 2 : Nat) : Int) = (((lo + hi) / 2 : Nat) : Int) := Qa _ (by omega) (by omega)
      refine Go0 ?_
      rw [w1, wv, Int.toNat_natCast]
      refine CallN.pureA QlC (Qmc (l.getD ((lo + hi) / 2) default) ) (Go0 ?_)
      have w2 := Qa ((((lo + hi) / 2 : Nat) : Int) + 1) (by omega) (by omega)
      refine Br.of (fun c2=>Go0 ?_) (fun c2=>Go0 ?_)
      · refine ⟨((lo + hi) / 2 + 1, hi), ⟨by show (lo + hi) / 2 + 1 ≤ hi; omega, h2, fun i hi2 => ?_, h4⟩, by show hi - ((lo + hi) / 2 + 1) < hi - lo; omega, ?_⟩
        · by_cases e : i = (lo + hi) / 2
          · subst e; exact c2
          · have hi2 : i < (lo + hi) / 2 + 1 := hi2
            have := Qvx h (i := i) (j := (lo + hi) / 2) (by omega) hm
            omega
        · exact Mv.k0
      · refine ⟨(lo, (lo + hi) / 2), ⟨by show lo ≤ (lo + hi) / 2; omega, by show (lo + hi) / 2 ≤ l.length; omega, h3, Or.inr ?_⟩, by show (lo + hi) / 2 - lo < hi - lo; omega, ?_⟩
        · show b ≤ (l.getD ((lo + hi) / 2) default).block
          omega
        · exact Mv.k0
    · have c1 : hi ≤ lo := by have : ¬ (lo : Int) < hi := by have := c1; omega
                              omega
      have hp : Qq l b = lo := QgK (by omega) h3 (by
        rcases h4 with h4 | h4
        · exact Or.inl (by omega)
        · exact Or.inr (by rw [show lo = hi by omega]; exact h4))
      refine Go1 fun _h=>?_
      refine CallG.auto QlC (fun _ => Qmc (l.getD lo default)) (Go0 ?_)
      rw [hp, show hasM l b = (bif decide ((lo : Int) < l.length) then (l.getD lo default).block == b else false) by
        unfold hasM
        rw [hp]
        by_cases q : lo < l.length
        · rw [decide_eq_true (show (lo : Int) < l.length by omega), cond_true]
          by_cases r : (l.getD lo default).block = b
          · rw [decide_eq_true ⟨q, r⟩, r, beq_self_eq_true]
          · rw [decide_eq_false fun z => r z.2, beq_eq_false_iff_ne.2 r]
        · rw [decide_eq_false fun z => q z.1, decide_eq_false (show ¬ (lo : Int) < l.length by omega)]
          rfl]
      exact RM.i0
theorem Qom : HB 145 := hB Tryz.func145
theorem Qtp (m : List (List Ent)) (b : Int) (hm : m.length ≤ 1000000) (hs : ∀ i, (m.getD i default).length ≤ 1000000) : PS 92 [.a [Qh m], .c (.int .i64 b)] (.t [.inl (.int .i64 (Q7 m b)), .inl (.bool (decide (0 ≤ Q7 m b) && QL m))]) := by
 refine PSpec.rm ?_
 refine ov0 hΓ Tryz.func92 19 0 [.tmp 4, .tmp 5] Tryz.ntmps92 Tryz.results92 ?_
 refine CallN.pureA QhP (QhC m b hm ) (Go0 ?_)
 refine CallG.auto QoS (fun _ => QnQ m hm hs ) (Go0 ?_)
 exact RM.i0
theorem Qud : HB 92 := hB Tryz.func92
theorem QhW {l : List Ent} {e : Ent} {k k' : Nat} {t : List C} {Z : Nat → Nat → C} {n1 n2 k2 i j : Nat} (hk : k ≤ l.length) (h1 : n1 = k) (h2 : n2 = k + 1) (h3 : k2 = k') (hj : j < 6) :
  appG (appG (appG Z 0 (entG l)) n1 (Qag 6 (e.cells ++ t))) n2 (fun i j => entG l (k2 + i) j) i j = entG (l.take k ++ e :: l.drop k') i j := by
 subst h1 h2 h3
 have hlen : (l.take n1).length = n1 := by rw [List.length_take]; omega
 unfold appG
 simp only [Nat.not_lt_zero, if_false, Nat.sub_zero]
 unfold entG rowG
 by_cases c1 : i < n1 + 1
 ·rw [if_pos c1]
  by_cases c2 : i < n1
  ·rw [if_pos c2]
   congr 1
   simp only [List.getD]
   rw [List.getElem?_append_left (by omega), List.getElem?_take, if_pos c2]
  ·rw [if_neg c2]
   have : i = n1 := by omega
   subst this
   rw [show (l.take i ++ e :: l.drop k2).getD i default = e by
    simp only [List.getD]
    rw [List.getElem?_append_right (by omega), hlen, Nat.sub_self]
    rfl]
   rw [Nat.sub_self]
   match j, hj with
   | 0, _ => rfl
   | 1, _ => rfl
   | 2, _ => rfl
   | 3, _ => rfl
   | 4, _ => rfl
   | 5, _ => rfl
 ·rw [if_neg c1]
  congr 1
  simp only [List.getD]
  rw [List.getElem?_append_right (by omega), hlen, show i - n1 = (i - (n1 + 1)) + 1 by omega, List.getElem?_cons_succ, List.getElem?_drop]
set_option maxHeartbeats 4000000 in
theorem Qla (l : List Ent) (e : Ent) (hl : l.length ≤ 1000000) : PS 75 [.c (QS l), .a e.cells] (.t [.inl (QS (QB l e).1), .inr (QB l e).2.1.cells, .inl (.bool (QB l e).2.2)]) := by
 refine PSpec.rm ?_
 refine ov0 hΓ Tryz.func75 59 0 [.tmp 4, .cell 5 67, .tmp 6] Tryz.ntmps75 Tryz.results75 ?_
 refine CallN.pureA Qdv (QdH l hl ) (Go0 ?_)
 by_cases hv : Qy l = true
 ·refine Br.no (by rw [hv]; rfl) (Go0 ?_)
  refine CallN.pureA Qhv (QhU e ) (Go0 ?_)
  by_cases he : QaQ e = true
  ·refine Br.no (by rw [he]; rfl) (Go0 ?_)
   have hple := QdW l e.block
   refine CallN.pureA Qfh (Qfj l e.block hl ) (Go0 ?_)
   refine CallN.pureA Qf3 (Qgg l e.block hl ) (Go0 ?_)
   have hf2 : (QI l e.block).2 = hasM l e.block := by
    unfold QI
    by_cases q : hasM l e.block = true
    ·rw [if_pos ⟨hv, q⟩, q]
    ·rw [if_neg (fun z => q z.2), QaY q]
   by_cases c : (QI l e.block).2 = true ∧ e.version ≤ (QI l e.block).1.version
   ·refine Br.yes (by simp [-List.getD_eq_getElem?_getD, c.1]; exact c.2) ?_
    refine Go0 ?_
    refine Dr.mk hΓ hMix (by kernel_rfl) (Go0 ?_)
    rw [show QB l e = (l, (QI l e.block).1, false) by unfold QB; rw [if_pos hv, if_pos he, if_pos c]]
    exact RM.i0
   ·refine Br.no (Bool.eq_false_iff.2 fun z => c (by simpa using z)) (Go0 ?_)
    have hi : QB l e = (putE l e, (QI l e.block).1, true) := by unfold QB; rw [if_pos hv, if_pos he, if_neg c]
    have w1 := Qa ((Qq l e.block : Int) + 1) (by omega) (by omega)
    by_cases hm : hasM l e.block = true
    ·have hm' := (hasM_iff.1 hm).1
     refine Br.yes (hf2.trans hm) (Go0 ?_)
     rw [w1]
     refine Go0 ?_
     refine Dr.mkE hΓ hMix [] [(5, 4)] (by kernel_rfl) (Go0 ?_)
     have hpe : putE l e = l.take (Qq l e.block) ++ e :: l.drop (Qq l e.block + 1) := by unfold putE; rw [if_pos hm]
     have hpl : (putE l e).length = Qq l e.block + 1 + (l.length - (Qq l e.block + 1)) := by rw [hpe]; simp; omega
     rw [hi]
     refine RM.allT (FwT.consC (Fw.slP rfl rfl (by rw [hpl]; simp only [Int.toNat_natCast]; omega) (fun i _ j hj => (QhW (e := e) hple (by simp) (by simp) (show (((Qq l e.block : Nat) : Int) + 1).toNat = Qq l e.block + 1 by omega) hj).trans (by rw [hpe])) (fun _ _ => QH _ _)) (FwT.consL (FwL.cons (Fw.same rfl) (FwL.cons (Fw.same rfl) (FwL.cons (Fw.same rfl) (FwL.cons (Fw.same rfl) (FwL.cons (Fw.same rfl) (FwL.cons (Fw.same rfl) FwL.nil)))))) (FwT.consC (Fw.same rfl) FwT.nil)))
    ·refine Br.no (hf2.trans (QaY hm)) (Go0 ?_)
     refine Dr.mkE hΓ hMix [] [(5, 4)] (by kernel_rfl) (Go0 ?_)
     have hpe : putE l e = l.take (Qq l e.block) ++ e :: l.drop (Qq l e.block) := by unfold putE; rw [if_neg hm]
     have hpl : (putE l e).length = Qq l e.block + 1 + (l.length - Qq l e.block) := by rw [hpe]; simp; omega
     rw [hi]
     refine RM.allT (FwT.consC (Fw.slP rfl rfl (by rw [hpl]; simp only [Int.toNat_natCast]; omega) (fun i _ j hj => (QhW (e := e) hple (by simp) (by simp) (show (((Qq l e.block : Nat) : Int)).toNat = Qq l e.block by omega) hj).trans (by rw [hpe])) (fun _ _ => QH _ _)) (FwT.consL (FwL.cons (Fw.same rfl) (FwL.cons (Fw.same rfl) (FwL.cons (Fw.same rfl) (FwL.cons (Fw.same rfl) (FwL.cons (Fw.same rfl) (FwL.cons (Fw.same rfl) FwL.nil)))))) (FwT.consC (Fw.same rfl) FwT.nil)))
  ·refine Br.yes (by rw [QaY he]; rfl) (Go0 ?_)
   rw [show QB l e = (l, default, false) by unfold QB; rw [if_pos hv, if_neg he]]
   exact RM.i0
 ·refine Br.yes (by rw [QaY hv]; rfl) (Go0 ?_)
  rw [show QB l e = ([], default, false) from if_neg hv]
  exact RM.i0
theorem Qlb : HB 75 := hB Tryz.func75
theorem QrA {l : List Ent} {p : Nat} {tz t2 : Int} (hp : p < l.length) (i j : Nat) (hj : j < 6) : updG (entG l) p 4 [.int .i64 tz, .int .i64 t2] i j = entG (l.set p { l.getD p default with zone := tz, offset := t2 }) i j := by
 refine Qew hp (es := 6) (fun j hj => ?_) i j hj
 match j, hj with
 | 0, _ => rfl
 | 1, _ => rfl
 | 2, _ => rfl
 | 3, _ => rfl
 | 4, _ => rfl
 | 5, _ => rfl
theorem Qt9 {l : List Ent} {p : Nat} {mv : Int} (hp : p < l.length) (i j : Nat) (hj : j < 6) : updG (entG l) p 3 [.int .i64 mv] i j = entG (l.set p { l.getD p default with move := mv }) i j := by
 refine Qew hp (es := 6) (fun j hj => ?_) i j hj
 match j, hj with
 | 0, _ => rfl
 | 1, _ => rfl
 | 2, _ => rfl
 | 3, _ => rfl
 | 4, _ => rfl
 | 5, _ => rfl
theorem QrB {l : List Ent} {p : Nat} {tz t2 mv : Int} {e : Ent} (hp : p < l.length) (he : e = l.getD p default) (i j : Nat) (hj : j < 6) : updG (updG (entG l) p 4 [.int .i64 tz, .int .i64 t2]) p 3 [.int .i64 mv] i j = entG (l.set p { e with zone := tz, offset := t2, move := mv }) i j := by
 subst he
 rw [Qqs (QrA hp i j hj), Qt9 (by simpa using hp) i j hj, Qtu hp, List.set_set]
set_option maxHeartbeats 4000000 in
theorem Qoo (l : List Ent) (b v fz fo tz t2 move : Int) (hl : l.length ≤ 1000000) : PS 73 [.c (QS l), .c (.int .i64 b), .c (.int .i64 v), .a [.int .i64 fz, .int .i64 fo], .a [.int .i64 tz, .int .i64 t2], .c (.int .i64 move)] (.t [.inl (QS (relE l b v fz fo tz t2 move).1), .inl (.bool (relE l b v fz fo tz t2 move).2)]) := by
 refine PSpec.rm ?_
 refine ov0 hΓ Tryz.func73 77 0 [.tmp 12, .tmp 13] Tryz.ntmps73 Tryz.results73 ?_
 refine CallN.pureA Qdv (QdH l hl ) (Go0 ?_)
 by_cases hv : Qy l = true
 ·refine Br.no (by rw [hv]; rfl) (Go0 ?_)
  refine CallN.pureA Qf3 (Qgg l b hl ) (Go0 ?_)
  by_cases c : (QI l b).2 = true ∧ (QI l b).1.version = v ∧ (QI l b).1.zone = fz ∧ (QI l b).1.offset = fo ∧ 0 ≤ tz ∧ 0 ≤ t2 ∧ 0 ≤ move ∧ move ≤ 255
  ·have hi : relE l b v fz fo tz t2 move = (l.set (Qq l b) { (QI l b).1 with zone := tz, offset := t2, move := move }, true) := by unfold relE; rw [if_pos hv, if_pos c]
   refine Br.no (Bool.eq_false_iff.2 fun ebye => by simp [-List.getD_eq_getElem?_getD, -Int.default_eq_zero, c.1,c.2.1,c.2.2.1,c.2.2.2.1,c.2.2.2.2] at ebye <;> grind) ?_; conv=>whnf
   refine Go0 ?_
   have hple := QdW l b
   refine CallN.pureA Qfh (Qfj l b hl ) (Go0 ?_)
   have hm : hasM l b = true := by
    have h2 := c.1
    unfold QI at h2
    by_cases q : hasM l b = true
    ·exact q
    ·rw [if_neg (fun z => q z.2)] at h2; cases h2
   have hlt := (hasM_iff.1 hm).1
   have hfe : (QI l b).1 = l.getD (Qq l b) default := by unfold QI; rw [if_pos ⟨hv, hm⟩]
   refine Go0 ?_
   rw [hi]
   exact RM.allT (FwT.consC (Fw.slP rfl rfl (by simp) (fun i _ j hj => QrB hlt hfe i j hj) (fun _ _ => QH _ _)) (FwT.consC (Fw.same rfl) FwT.nil))
  ·refine Br.yes (Decidable.byContradiction fun ebye => c (by simp [-List.getD_eq_getElem?_getD, -Int.default_eq_zero] at ebye <;> grind)) ?_; conv=>whnf
   refine Go0 ?_
   rw [show relE l b v fz fo tz t2 move = (l, false) by unfold relE; rw [if_pos hv, if_neg c]]
   exact RM.i0
 ·refine Br.yes (by rw [QaY hv]; rfl) (Go0 ?_)
  rw [show relE l b v fz fo tz t2 move = ([], false) from if_neg hv]
  exact RM.i0
theorem QnZ : HB 73 := hB Tryz.func73
theorem Qij (m : List (List Ent)) (i : Int) (l : List Ent) (hm : m.length ≤ 1000000) (h0 : 0 ≤ i) (h1 : i < m.length) : PS 74 [.a [Qh m], .c (.int .i64 i), .c (QS l)] (.a [Qh (m.set i.toNat l)]) := by
 have hi : i.toNat < m.length := by omega
 refine PSpec.rm ?_
 refine ov0 hΓ Tryz.func74 18 0 [.cell 6 34] Tryz.ntmps74 Tryz.results74 ?_
 refine RM.allA (FwL.cons (Fw.slP rfl rfl (by simp) (fun a _ j hj => Qew (f := fun (l : List Ent) (_ : Nat) => QS l) (x := l) hi (es := 1) (fun j hj => ?_) a j hj) (fun _ _ => rfl)) FwL.nil)
 have : j = 0 := by omega
 subst this
 rfl
theorem QiR : HB 74 := hB Tryz.func74
theorem Qfc {m : List (List Ent)} {b : Int} (h : QL m = true) (hb : 0 ≤ b) : Q7 m b = (Qg m b : Nat) := by
 have := QdP h
 unfold Q7
 rw [if_neg (by omega), Qfq h hb]
theorem QiP (m : List (List Ent)) (b : Int) (hm : m.length ≤ 1000000) (hs : ∀ i, (m.getD i default).length ≤ 1000000) : PS 35 [.a [Qh m], .c (.int .i64 b)] (.t [.inr (Qbg m b).1.cells, .inl (.bool (Qbg m b).2)]) := by
 refine PSpec.rm ?_
 refine ov0 hΓ Tryz.func35 25 0 [.cell 4 67, .tmp 5] Tryz.ntmps35 Tryz.results35 ?_
 refine CallN.pureA Qdy (QdF m hm hs ) (Go0 ?_)
 by_cases c : QL m = true ∧ 0 ≤ b
 ·have hlt := QbF c.1 c.2
  have hint := Qfq c.1 c.2
  refine Br.no (Bool.eq_false_iff.2 fun ebye => by simp [-List.getD_eq_getElem?_getD, -Int.default_eq_zero, c.1,c.2] at ebye <;> grind) ?_; conv=>whnf
  refine Go0 ?_
  refine Dr.mk hΓ hMix (by kernel_rfl) (Go0 ?_)
  refine CallP.auto Qeh (Qem m b hm ) ?_
  rw [Qfc c.1 c.2]
  refine Go0 ?_
  refine CallP.auto Qf3 (Qgg (m.getD (Qg m b) default) b (hs _) ) (Go0 ?_)
  rw [show Qbg m b = QI (m.getD (Qg m b) default) b from if_pos c]
  exact RM.i0
 ·refine Br.yes (Decidable.byContradiction fun ebye => c (by simp [-List.getD_eq_getElem?_getD, -Int.default_eq_zero] at ebye <;> grind)) ?_; conv=>whnf
  refine Go0 ?_
  rw [show Qbg m b = (default, false) from if_neg c]
  exact RM.i0
theorem Qil : HB 35 := hB Tryz.func35
set_option maxHeartbeats 2000000 in
theorem QpE (m : List (List Ent)) (e : Ent) (hm : m.length ≤ 1000000) (hs : ∀ i, (m.getD i default).length ≤ 1000000) : PS 39 [.a [Qh m], .a e.cells] (.t [.inr [Qh (Qar m e).1], .inr (Qar m e).2.1.cells, .inl (.bool (Qar m e).2.2)]) := by
 refine PSpec.rm ?_
 refine ov0 hΓ Tryz.func39 45 0 [.cell 4 34, .cell 5 67, .tmp 6] Tryz.ntmps39 Tryz.results39 ?_
 refine CallN.pureA Qdy (QdF m hm hs ) (Go0 ?_)
 by_cases c : QL m = true ∧ 0 ≤ e.block
 ·have hlt := QbF c.1 c.2
  refine Br.no (Bool.eq_false_iff.2 fun ebye => by simp [-List.getD_eq_getElem?_getD, -Int.default_eq_zero, c.1,c.2] at ebye <;> grind) ?_; conv=>whnf
  refine Go0 ?_
  refine CallN.pureA Qeh (Qem m e.block hm ) ?_
  rw [Qfc c.1 c.2]
  refine Go0 ?_
  refine Dr.mkE hΓ hMix [] [(10, 13)] (by kernel_rfl) (Go0 ?_)
  refine CallP.auto Qlb (Qla (m.getD (Qg m e.block) default) e (hs _) ) (Go0 ?_)
  by_cases d : (QB (m.getD (Qg m e.block) default) e).2.2 = true
  ·refine Br.no (by rw [d]; rfl) (Go0 ?_)
   refine Dr.mkE hΓ hMix [] [(4, 5)] (by kernel_rfl) (Go0 ?_)
   refine CallP.auto QiR (Qij m (Qg m e.block : Nat) (QB (m.getD (Qg m e.block) default) e).1 hm (by omega) (by omega) ) (Go0 ?_)
   rw [show Qar m e = (m.set (Qg m e.block) (QB (m.getD (Qg m e.block) default) e).1, (QB (m.getD (Qg m e.block) default) e).2.1, true) by unfold Qar; rw [if_pos c, if_pos d]]
   exact RM.i0
  ·refine Br.yes (by rw [QaY d]; rfl) (Go0 ?_)
   refine Dr.mkE hΓ hMix [] [(1, 2)] (by kernel_rfl) (Go0 ?_)
   rw [show Qar m e = (m, (QB (m.getD (Qg m e.block) default) e).2.1, false) by unfold Qar; rw [if_pos c, if_neg d]]
   exact RM.i0
 ·refine Br.yes (Decidable.byContradiction fun ebye => c (by simp [-List.getD_eq_getElem?_getD, -Int.default_eq_zero] at ebye <;> grind)) ?_; conv=>whnf
  refine Go0 ?_
  rw [show Qar m e = (m, default, false) from if_neg c]
  exact RM.i0
theorem QpI : HB 39 := hB Tryz.func39
set_option maxHeartbeats 2000000 in
theorem QnT (m : List (List Ent)) (b v fz fo tz t2 move : Int) (hm : m.length ≤ 1000000) (hs : ∀ i, (m.getD i default).length ≤ 1000000) : PS 38 [.a [Qh m], .c (.int .i64 b), .c (.int .i64 v), .a [.int .i64 fz, .int .i64 fo], .a [.int .i64 tz, .int .i64 t2], .c (.int .i64 move)] (.t [.inr [Qh (relM m b v fz fo tz t2 move).1], .inl (.bool (relM m b v fz fo tz t2 move).2)]) := by
 refine PSpec.rm ?_
 refine ov0 hΓ Tryz.func38 49 0 [.cell 12 34, .tmp 13] Tryz.ntmps38 Tryz.results38 ?_
 refine CallN.pureA Qdy (QdF m hm hs ) (Go0 ?_)
 by_cases c : QL m = true ∧ 0 ≤ b
 ·have hlt := QbF c.1 c.2
  refine Br.no (Bool.eq_false_iff.2 fun ebye => by simp [-List.getD_eq_getElem?_getD, -Int.default_eq_zero, c.1,c.2] at ebye <;> grind) ?_; conv=>whnf
  refine Go0 ?_
  refine CallN.pureA Qeh (Qem m b hm ) ?_
  rw [Qfc c.1 c.2]
  refine Go0 ?_
  refine Dr.mk hΓ hMix (by kernel_rfl) (Go0 ?_)
  refine CallP.auto QnZ (Qoo (m.getD (Qg m b) default) b v fz fo tz t2 move (hs _) ) (Go0 ?_)
  by_cases d : (relE (m.getD (Qg m b) default) b v fz fo tz t2 move).2 = true
  ·refine Br.no (by rw [d]; rfl) (Go0 ?_)
   refine CallN.pureA QiR (Qij m (Qg m b : Nat) (relE (m.getD (Qg m b) default) b v fz fo tz t2 move).1 hm (by omega) (by omega) ) (Go0 ?_)
   rw [show relM m b v fz fo tz t2 move = (m.set (Qg m b) (relE (m.getD (Qg m b) default) b v fz fo tz t2 move).1, true) by unfold relM; rw [if_pos c, if_pos d]]
   exact RM.i0
  ·refine Br.yes (by rw [QaY d]; rfl) (Go0 ?_)
   rw [show relM m b v fz fo tz t2 move = (m, false) by unfold relM; rw [if_pos c, if_neg d]]
   exact RM.i0
 ·refine Br.yes (Decidable.byContradiction fun ebye => c (by simp [-List.getD_eq_getElem?_getD, -Int.default_eq_zero] at ebye <;> grind)) ?_; conv=>whnf
  refine Go0 ?_
  rw [show relM m b v fz fo tz t2 move = (m, false) from if_neg c]
  exact RM.i0
theorem QnK : HB 38 := hB Tryz.func38
theorem QhY (n : Nat) (g : Nat → Nat → C) (t : Bool) (hn : n ≤ 1000000) (him : ∀ i, i < n → ∀ j, j < 6 → (g i j).imm = true) : CS 144 [.c (.isl 6 n g t)] [] fun s H => s = .c (.sl 0 6 n n false) ∧ H = [.arr 67 6 n g] := by
 refine CSpec.rm ?_
 refine ov0 hΓ Tryz.func144 5 0 [.tmp 2] Tryz.ntmps144 Tryz.results144 ?_
 refine ⟨_, _, ?_, rfl, rfl⟩
 refine RM.w1 ?_
 exact fun i hi j hj => WC.imm (him i hi j hj)
theorem Qmk : HB 144 := hB Tryz.func144
theorem QkM (l : List Ent) (hl : l.length ≤ 1000000) : PS 144 [.c (QS l)] (.c (QS l)) := PSpec.ofO (QhY _ _ _ hl fun _ _ _ _ => QH _ _) fun _ _ _ _ => QH _ _
theorem Qkd : HB 144 := hB Tryz.func144
theorem Qvu {l : List Ent} {e : Ent} {p : Nat} (hp : p < l.length) (i j : Nat) (hj : j < 6) : updG (entG l) p 0 e.cells i j = entG (l.set p e) i j :=
 Qew hp (es := 6) (fun j hj => match j, hj with | 0, _ => rfl | 1, _ => rfl | 2, _ => rfl | 3, _ => rfl | 4, _ => rfl | 5, _ => rfl) i j hj
theorem Qth {Z g : Nat → Nat → C} : appG Z 0 g = g := by
 funext i j
 simp [appG]
theorem QvG {l : List Ent} {e : Ent} {k k' : Nat} {t : List C} {n1 n2 k2 i j : Nat} (hk : k ≤ l.length) (h1 : n1 = k) (h2 : n2 = k + 1) (h3 : k2 = k') (hj : j < 6) :
  appG (appG (entG l) n1 (Qag 6 (e.cells ++ t))) n2 (fun i j => entG l (k2 + i) j) i j = entG (l.take k ++ e :: l.drop k') i j := by
 have := QhW (Z := entG l) (e := e) (t := t) (i := i) (j := j) hk h1 h2 h3 hj
 rwa [Qth] at this
set_option maxHeartbeats 4000000 in
theorem Qp6 (l : List Ent) (e : Ent) (hl : l.length ≤ 1000000) : PS 94 [.c (QS l), .a e.cells] (.t [.inl (QS (QB l e).1), .inr (QB l e).2.1.cells, .inl (.bool (QB l e).2.2)]) := by
 refine PSpec.rm ?_
 refine ov0 hΓ Tryz.func94 70 0 [.tmp 4, .cell 5 67, .tmp 6] Tryz.ntmps94 Tryz.results94 ?_
 refine CallN.pureA QeP (Qe3 l hl ) (Go0 ?_)
 by_cases hv : Qy l = true
 ·refine Br.no (by rw [hv]; rfl) (Go0 ?_)
  refine CallN.pureA QhE (QhH e ) (Go0 ?_)
  by_cases he : QaQ e = true
  ·refine Br.no (by rw [he]; rfl) (Go0 ?_)
   have hple := QdW l e.block
   refine CallN.pureA Qom (Qor l e.block hv hl ) (Go0 ?_)
   by_cases hm : hasM l e.block = true
   ·have hp := (hasM_iff.1 hm).1
    have hf : QI l e.block = (l.getD (Qq l e.block) default, true) := if_pos ⟨hv, hm⟩
    refine Br.no (by rw [hm]; rfl) (Go0 ?_)
    refine Dr.mk hΓ hMix (by kernel_rfl) (Go0 ?_)
    rw [show l.getD (Qq l e.block : Int).toNat default = l.getD (Qq l e.block) default from rfl]
    by_cases c : e.version ≤ (l.getD (Qq l e.block) default).version
    ·refine Br.yes (decide_eq_true c) (Go0 ?_)
     refine Dr.mk hΓ hMix (by kernel_rfl) (Go0 ?_)
     refine CallP.auto Qkd (QkM l hl ) (Go0 ?_)
     rw [show QB l e = (l, (QI l e.block).1, false) by unfold QB; rw [if_pos hv, if_pos he, if_pos ⟨by rw [hf], by rw [hf]; exact c⟩], hf]
     exact RM.i0
    ·refine Br.no (decide_eq_false c) (Go0 ?_)
     refine CallN.autoI [] Qmk (QhY l.length (entG l) false hl (fun _ _ _ _ => QH _ _)) plh (Go0 ?_)
     refine Dr.mk hΓ hMix (by kernel_rfl) (Go0 ?_)
     have hpe : putE l e = l.set (Qq l e.block) e := by
      unfold putE
      rw [if_pos hm, List.set_eq_take_append_cons_drop, if_pos hp]
     rw [show QB l e = (putE l e, (QI l e.block).1, true) by unfold QB; rw [if_pos hv, if_pos he, if_neg fun z => c (by rw [hf] at z; exact z.2)], hf, hpe]
     exact RM.allT (FwT.consC (Fw.slP rfl rfl (by simp) (fun i _ j hj => Qvu hp i j hj) (fun _ _ => QH _ _)) (FwT.consL (FwL.cons (Fw.same rfl) (FwL.cons (Fw.same rfl) (FwL.cons (Fw.same rfl) (FwL.cons (Fw.same rfl) (FwL.cons (Fw.same rfl) (FwL.cons (Fw.same rfl) FwL.nil)))))) (FwT.consC (Fw.same rfl) FwT.nil)))
   ·have hf : (QI l e.block).2 = false := by unfold QI; rw [if_neg fun z => hm z.2]
    refine Br.yes (by rw [QaY hm]; rfl) (Go0 ?_)
    refine Dr.mkE hΓ hMix [4294967296, 144] [(4, 3), (5, 3)] (by kernel_rfl) (Go0 ?_)
    refine CallE.autoI [] Qmk (QhY (Qq l e.block : Int).toNat (entG l) false (by omega) (fun _ _ _ _ => QH _ _)) plh (Go0 ?_)
    have hpe : putE l e = l.take (Qq l e.block) ++ e :: l.drop (Qq l e.block) := by unfold putE; rw [if_neg hm]
    have hpl : (putE l e).length = Qq l e.block + 1 + (l.length - Qq l e.block) := by rw [hpe]; simp; omega
    rw [show QB l e = (putE l e, (QI l e.block).1, true) by unfold QB; rw [if_pos hv, if_pos he, if_neg fun z => by rw [hf] at z; cases z.1], show (QI l e.block).1 = default by unfold QI; rw [if_neg fun z => hm z.2]]
    refine RM.allT (FwT.consC (Fw.slP rfl rfl (by rw [hpl]; rfl) (fun i _ j hj => (QvG (e := e) hple (show (Qq l e.block : Int).toNat = Qq l e.block from rfl) (by simp) (show (Qq l e.block : Int).toNat = Qq l e.block from rfl) hj).trans (by rw [hpe])) (fun _ _ => QH _ _)) (FwT.consL (FwL.cons (Fw.same rfl) (FwL.cons (Fw.same rfl) (FwL.cons (Fw.same rfl) (FwL.cons (Fw.same rfl) (FwL.cons (Fw.same rfl) (FwL.cons (Fw.same rfl) FwL.nil)))))) (FwT.consC (Fw.same rfl) FwT.nil)))
  ·refine Br.yes (by rw [QaY he]; rfl) (Go0 ?_)
   refine CallN.pureA Qkd (QkM l hl ) (Go0 ?_)
   rw [show QB l e = (l, default, false) by unfold QB; rw [if_pos hv, if_neg he]]
   exact RM.i0
 ·refine Br.yes (by rw [QaY hv]; rfl) (Go0 ?_)
  rw [show QB l e = ([], default, false) by unfold QB; rw [if_neg hv]]
  exact RM.i0
theorem QpU : HB 94 := hB Tryz.func94
theorem Qjs (m : List (List Ent)) : PS 93 [.a [Qh m]] (.a [Qh m]) := by
 refine PSpec.rm ?_
 refine ov0 hΓ Tryz.func93 7 0 [.cell 2 34] Tryz.ntmps93 Tryz.results93 ?_
 exact RM.i0
theorem Qik : HB 93 := hB Tryz.func93
theorem Qqy (m : List (List Ent)) (hm : m.length ≤ 1000000) (hs : ∀ i, (m.getD i default).length ≤ 1000000) : CS 91 [.a [Qh m]] [] fun s H => s = .a [.sl 0 1 m.length m.length false] ∧ H = [.arr 54 1 m.length (QdR m)] := by
 refine CSpec.rm ?_
 refine ov hΓ Tryz.func91 24 0 [.cell 2 163] Tryz.ntmps91 Tryz.results91 ?_
 refine Go1 fun _h=>?_
 refine Lp.mkK hΓ (ι := Nat) [2, 3, 7, 8] (fun i => [(9, .c (.int .i64 i))]) (fun k => [.vr [Qh m], .vr [.nils], .vr [.sl 3 1 k k false], .arr 54 1 k (QdR (m.take k))]) (fun i => i ≤ m.length) (fun i => m.length - i) 0 (Nat.zero_le _) ?_ ?_
 ·refine (Mv.reserveO 2 0 54 1 (QdR []) rfl rfl rfl rfl).trans ?_
  exact Mv.k0
 ·intro k hk
  have hsk := hs k
  refine Go0 ?_
  refine Br.of (fun h=>Go0 ?_) (fun h=>Go0 ?_)
  ·refine Dr.mk hΓ hMix (by kernel_rfl) (Go0 ?_)
   refine CallP.auto Qk7 (Qll (m.getD k default) (by omega) ) (Go0 ?_)
   have w0 := Qa (↑k + 1) (by omega) (by omega)
   refine ⟨k + 1, by omega, by omega, ?_⟩
   refine Mv.k1 ?_
   intro i hi j hj
   rw [Qaa m (by omega)]
   exact WC.eq (Qsh (Qmm m hk).symm (by rw [Qmm m hk]; exact hi) hj) rfl
  ·have : k = m.length := by omega
   subst this
   rw [List.take_length]
   refine ⟨_, _, ?_, rfl, rfl⟩
   exact RM.renW [3] (by decide) wb0 wb0
theorem QqA : HB 91 := hB Tryz.func91
theorem QvE {α : Type} [Inhabited α] {l : List α} {i : Nat} (hi : i < l.length) : l.set i (l.getD i default) = l := by
 refine Qcy (by simp) fun j hj => ?_
 rw [List.length_set] at hj
 rw [Qdm hi]
 split
 ·rename_i e; rw [e]
 ·rfl
theorem Qu4 {l : List Ent} {e : Ent} (h : Qy l = true) (h2 : (QB l e).2.2 ≠ true) : (QB l e).1 = l := by
 unfold QB at *
 rw [if_pos h] at *
 split
 ·rename_i he
  rw [if_pos he] at h2
  split
  ·rfl
  ·rename_i q
   rw [if_neg q] at h2
   exact absurd rfl h2
 ·rfl
theorem Qs9 {m : List (List Ent)} {e : Ent} (h : QL m = true) (h0 : 0 ≤ e.block) : Qar m e = (m.set (Qg m e.block) (QB (m.getD (Qg m e.block) default) e).1, (QB (m.getD (Qg m e.block) default) e).2.1, (QB (m.getD (Qg m e.block) default) e).2.2) := by
 have hlt := QbF h h0
 unfold Qar
 rw [if_pos ⟨h, h0⟩]
 split
 ·rename_i q; rw [q]
 ·rename_i q
  rw [Qu4 (Qe4 h hlt).1 q, QvE hlt, Bool.eq_false_iff.2 q]
theorem Qm3 {m : List (List Ent)} {k : Nat} {x : List Ent} {c : C} (hk : k < m.length) (hc : c = QS x) (i j : Nat) (hj : j < 1) : updG (QdR m) k 0 [c] i j = QdR (m.set k x) i j := by
 subst hc
 exact Qew (f := fun l _ => QS l) hk (es := 1) (fun j hj => by
  have : j = 0 := by omega
  subst this
  rfl) i j hj
set_option maxHeartbeats 4000000 in
theorem QpA (m : List (List Ent)) (e : Ent) (hm : m.length ≤ 1000000) (hs : ∀ i, (m.getD i default).length ≤ 1000000) : PS 50 [.a [Qh m], .a e.cells] (.t [.inr [Qh (Qar m e).1], .inr (Qar m e).2.1.cells, .inl (.bool (Qar m e).2.2)]) := by
 refine PSpec.rm ?_
 refine ov0 hΓ Tryz.func50 49 0 [.cell 4 34, .cell 5 67, .tmp 6] Tryz.ntmps50 Tryz.results50 ?_
 refine CallN.autoI [] QqA (Qqy m hm hs) plh (Go0 ?_)
 refine CallN.reads Qud (Qtp m e.block hm hs) (BwA.cons (BwS.a (BwL.cons (Bw.sl rfl rfl (fun i _ j _ => Bw.same rfl) (fun e => by cases e)) BwL.nil)) (BwA.cons (BwS.c (Bw.same rfl)) BwA.nil)) rfl (Go0 ?_)
 by_cases c : QL m = true ∧ 0 ≤ e.block
 ·have hlt := QbF c.1 c.2
  have hse := Qfc c.1 c.2
  have hst : 0 ≤ Q7 m e.block := by rw [hse]; omega
  refine Br.no (by rw [c.1, decide_eq_true hst]; rfl) (Go0 ?_)
  rw [hse]
  rw [Qs9 c.1 c.2]
  have hml := hs (Qg m e.block)
  refine Dr.mkE hΓ hMix [] [(11, 14)] (by kernel_rfl) (Go0 ?_)
  refine Frc.mk _ rfl (Go0 ?_)
  refine CallP.auto QpU (Qp6 (m.getD (Qg m e.block) default) e hml ) (Go0 ?_)
  refine Dr.mvK [2, 3, 4, 5, 7, 11, 12] [] [.vr [Qh m], .vr e.cells, .vr [.nils], .vr (default : Ent).cells, .dead, .vr [Qh (m.set (Qg m e.block) (QB (m.getD (Qg m e.block) default) e).1)], .vr (QB (m.getD (Qg m e.block) default) e).2.1.cells] ((Mv.fz 4 rfl (Nat.zero_le _) (fun i _ j hj => (congrArg C.imm (Qm3 hlt rfl i j hj)).trans rfl)).trans (Mv.mkW ?_ ?_ leN)) ?_
  ·refine wb1 ?_
   exact WC.fz rfl (by simp) (fun i _ j hj => leF.of_eq (Qm3 hlt rfl i j hj)) (fun e => by cases e)
  ·exact wb0
  ·conv=>whnf
   refine Dr.mkE hΓ hMix [] [(2, 4), (3, 4), (3, 5)] (by kernel_rfl) (Go0 ?_)
   refine CallP.auto Qik (Qjs (m.set (Qg m e.block) (QB (m.getD (Qg m e.block) default) e).1) ) (Go0 ?_)
   exact RM.i0
 ·refine Br.yes ?_ ?_
  ·by_cases h1 : QL m = true
   ·have h2 : ¬ 0 ≤ e.block := fun q => c ⟨h1, q⟩
    rw [decide_eq_false (by unfold Q7; rw [if_pos (by omega)]; decide)]; rfl
   ·rw [QaY h1, Bool.and_false]; rfl
  ·refine Go0 ?_
   rw [show Qar m e = (m, default, false) from if_neg c]
   refine CallN.fzK 4 [2, 3, 4, 5, 7] [] [.vr [Qh m], .vr e.cells, .vr [.nils], .vr (default : Ent).cells, .dead, .vr [Qh m]] [.a [Qh m]] rfl leN (fun i _ j _ => rfl) wb0 wb0 wb0 leN ?_
   refine CallN.pureA Qik (Qjs m ) (Go0 ?_)
   exact RM.i0
theorem QpG : HB 50 := hB Tryz.func50
def badZ (z : Zone) : Bool := decide (z.state = 5)
def badR (c : Conf) (f : Fnd) : Bool := decide (c.blocks ≤ f.r.block ∨ f.r.version = 1099511627776)
def badL (c : Conf) (d : Dev) (l : List Fnd) : Bool := d.zones.any badZ || l.any (badR c) || !QfC l
theorem QuV (c : Conf) (d : Dev) : badF c d = badL c d (QaP c d) := rfl
theorem badR_cond {c : Conf} {f : Fnd} : (bif decide (f.r.block ≥ c.blocks) then true else f.r.version == 1099511627776) = badR c f := by
 unfold badR
 by_cases h1 : c.blocks ≤ f.r.block <;> simp [h1] <;> rfl
theorem QrI (l : List Ent) (e : Ent) : (QB l e).1.length ≤ l.length + 1 := by
 unfold QB
 split
 ·split
  ·split
   ·show l.length ≤ _; omega
   ·show (putE l e).length ≤ _
    unfold putE
    have := QdW l e.block
    simp only [List.length_append, List.length_cons, List.length_take, List.length_drop]
    split <;> omega
  ·show l.length ≤ _; omega
 ·exact Nat.zero_le _
theorem Qkj (m : List (List Ent)) (e : Ent) : (Qar m e).1.length = m.length := by
 unfold Qar
 split
 ·split
  ·simp
  ·rfl
 ·rfl
theorem Ql9 {m : List (List Ent)} {e : Ent} {n : Nat} (h : ∀ i, (m.getD i default).length ≤ n) (i : Nat) : ((Qar m e).1.getD i default).length ≤ n + 1 := by
 have hi := h i
 unfold Qar
 split
 ·rename_i q
  split
  ·rw [Qdm (QbF q.1 q.2)]
   split
   ·have := QrI (m.getD (Qg m e.block) default) e
    have := h (Qg m e.block)
    omega
   ·omega
  ·show (m.getD i default).length ≤ _; omega
 ·show (m.getD i default).length ≤ _; omega
theorem Qjq (m : List (List Ent)) (l : List Ent) (e : Ent) : Qbn m (l ++ [e]) = (Qar (Qbn m l) e).1 := by
 unfold Qbn
 rw [List.foldl_append]
 rfl
theorem Qhg (m : List (List Ent)) (l : List Ent) : (Qbn m l).length = m.length := by
 induction l generalizing m with
 | nil => rfl
 | cons e l ih =>
  show (Qbn (Qar m e).1 l).length = _
  rw [ih, Qkj]
theorem Ql7 {m : List (List Ent)} {n : Nat} (h : ∀ i, (m.getD i default).length ≤ n) (l : List Ent) : ∀ i, ((Qbn m l).getD i default).length ≤ n + l.length := by
 induction l generalizing m n with
 | nil => exact h
 | cons e l ih =>
  intro i
  have := ih (Ql9 (e := e) h) i
  show ((Qbn (Qar m e).1 l).getD i default).length ≤ _
  rw [List.length_cons]
  omega
theorem QlO (n : Int) (i : Nat) : ((Qbr n).getD i default).length ≤ 0 := by
 unfold Qbr
 rw [List.getD, List.getElem?_replicate]
 split <;> exact Nat.le_refl _
theorem Qkt (b : Bas) (l : List Fnd) : ∀ k, (Qbs b l k).length ≤ k
 | 0 => Nat.le_refl _
 | k + 1 => by
  have := Qkt b l k
  simp only [Qbs, List.length_append]
  unfold QcG
  split
  ·simp; omega
  ·split <;> simp <;> omega
theorem Qj4 {c : Conf} {d : Dev} {slot : Int} (h : Qu c d slot = 0) : QG (Qx c d slot).seq (Qx c d slot).next (Qx c d slot).cut (Qx c d slot).ents = 0 := by
 unfold Qx
 rw [if_pos h]
 unfold Qu at h
 split at h
 ·split at h
  ·split at h
   ·cases h
   ·rename_i l q
    try rw [q]
    show QG (Qa3 c l).seq (Qa3 c l).next (Qa3 c l).cut (Qa3 c l).ents = 0
    unfold Qa3
    rw [if_pos h]
    unfold Qa4 at h
    split at h
    ·rename_i w
     have w := w.1
     unfold Qak
     rw [if_pos w]
     unfold QaJ at w
     split at w
     ·rename_i ww
      exact ww.2.1
     ·cases w
    ·cases h
  ·cases h
 ·rename_i q; exact absurd h q
theorem QnR {c : Conf} {d : Dev} (h : ¬ (Qo c d).2 < 0) : QG (Qo c d).1.seq (Qo c d).1.next (Qo c d).1.cut (Qo c d).1.ents = 0 := by
 unfold Qo at *
 split
 ·rename_i q; exact Qj4 q.1
 ·rename_i q
  rw [if_neg q] at h
  split
  ·rename_i r; exact Qj4 r
  ·rename_i r
   rw [if_neg r] at h
   exact absurd (by show (-1 : Int) < 0; decide) h
theorem Quo (c : Conf) (d : Dev) : (QaV c d).ents.length ≤ 128 ∧ 1 ≤ (QaV c d).next ∧ (QaV c d).next ≤ 1099511627776 ∧ 1 ≤ (QaV c d).cut := by
 unfold QaV
 split
 ·exact ⟨Nat.zero_le _, by decide, by decide, by decide⟩
 ·rename_i h
  obtain ⟨h1, h2, _⟩ := QcX (QnR h)
  exact ⟨h2, h1.2.2.1, h1.2.2.2.1, h1.2.2.2.2.1⟩
theorem Qrx (c : Conf) (d : Dev) : (QaV c d).seq = (Qo c d).1.seq := by
 unfold QaV
 split
 ·rename_i h
  unfold Qo at *
  split
  ·rename_i q; rw [if_pos q] at h; exact absurd h (by show ¬ (0 : Int) < 0; decide)
  ·rename_i q
   rw [if_neg q] at h
   split
   ·rename_i r; rw [if_pos r] at h; exact absurd h (by show ¬ (1 : Int) < 0; decide)
   ·rfl
 ·rfl
end Go.Proofs
end
