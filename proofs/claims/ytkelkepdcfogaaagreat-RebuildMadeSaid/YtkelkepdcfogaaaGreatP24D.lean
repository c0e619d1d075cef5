/- Contracts, lemmas; no condition. -/
import Derived.Test.YtkelkepdcfogaaaGreatP17D
import Derived.Test.YtkelkepdcfogaaaGreatP19D
import Derived.Test.YtkelkepdcfogaaaGreatP11D
import Derived.Test.YtkelkepdcfogaaaGreatP23D
import Derived.Test.YtkelkepdcfogaaaGreatP21D
import Derived.Test.YtkelkepdcfogaaaGreatP18D
set_option linter.all false
section
open Go Go.Am
namespace Go.Proofs
set_option maxRecDepth 20000
theorem Qmb (e : Ent) : PS 146 [.a e.cells] (.c (.int .i64 e.block)) := by
  refine PSpec.rm ?_
  refine ov0 hΓ Tryz.func146 5 0 [.tmp 2] Tryz.ntmps146 Tryz.results146 ?_
  exact RM.i0
theorem Qmw : HB 146 := hB Tryz.func146
theorem QvB {l : List Ent} (h : QT l = true) {i j : Nat} (hij : i < j) (hj : j < l.length) : (l.getD i default).block < (l.getD j default).block := by
  unfold QT at h
  rw [decide_eq_true_eq] at h
  induction j with
  | zero => omega
  | succ j ih =>
    have h1 := (h (j + 1) hj).2 (by omega)
    rw [Nat.add_sub_cancel] at h1
    by_cases c : i = j
    · subst c; exact h1
    · have := ih (by omega) (by omega); omega
set_option maxHeartbeats 2000000 in
theorem QoH (l : List Ent) (b : Int) (h : QT l = true) (hl : l.length ≤ 1000000) : PS 145 [.c (QQ l), .c (.int .i64 b), .c (.fn (.func 146) 0 fun _ => .junk)] (.t [.inl (.int .i64 (Qr l b)), .inl (.bool (hasM l b))]) := by
  refine PSpec.rm ?_
  refine ov hΓ Tryz.func145 46 0 [.tmp 6, .tmp 7] Tryz.ntmps145 Tryz.results145 ?_
  refine Go1 fun _h=>?_
  refine Lp.mkK hΓ (ι := Nat × Nat) [0, 1, 2, 6, 7] (fun k => [(8, .c (.int .i64 k.1)), (9, .c (.int .i64 k.2))]) (fun _ => []) (fun k => k.1 ≤ k.2 ∧ k.2 ≤ l.length ∧ (∀ i, i < k.1 → (l.getD i default).block < b) ∧ (k.2 = l.length ∨ b ≤ (l.getD k.2 default).block)) (fun k => k.2 - k.1) (0, l.length) ⟨Nat.zero_le _, Nat.le_refl _, fun i hi => absurd hi (Nat.not_lt_zero _), Or.inl rfl⟩ ?_ ?_
  · exact Mv.k0
  · rintro ⟨lo, hi⟩ ⟨h1, h2, h3, h4⟩
    have h1 : lo ≤ hi := h1
    have h2 : hi ≤ l.length := h2
    dsimp only
    refine Go0 ?_
    refine Br.of (fun c1=>?_) (fun c1=>?_)<;>(try simp only [Int.toNat_natCast] at c1)<;>(conv=>whnf)
    · have c1 : lo < hi := by have : (lo : Int) < hi := c1; omega
      have w0 : (IntKind.i64.wrap (IntKind.i64.wrap ((lo : Int) + hi))).tdiv 2 = (((lo + hi) / 2 : Nat) : Int) := by
        rw [Qa (lo + hi : Int) (by omega) (by omega), Qa _ (by omega) (by omega), Int.tdiv_eq_ediv_of_nonneg (by omega)]
        omega
      have w1 : (IntKind.i64.wrap ((lo : Int) + hi)).tdiv 2 = (((lo + hi) / 2 : Nat) : Int) := by
        rw [Qa (lo + hi : Int) (by omega) (by omega), Int.tdiv_eq_ediv_of_nonneg (by omega)]
        omega
      have hm : (lo + hi) / 2 < l.length := by omega
      have wv : IntKind.i64.wrap (((lo + hi) / 2 : Nat) : Int) = (((lo + hi) / 2 : Nat) : Int) := Qa _ (by omega) (by omega)
      refine Go0 ?_
      rw [w1, wv, Int.toNat_natCast]
      refine CallN.pureA Qmw (Qmb (l.getD ((lo + hi) / 2) default) ) (Go0 ?_)
      have w2 := Qa ((((lo + hi) / 2 : Nat) : Int) + 1) (by omega) (by omega)
      refine Br.of (fun c2=>Go0 ?_) (fun c2=>Go0 ?_)
      · refine ⟨((lo + hi) / 2 + 1, hi), ⟨by show (lo + hi) / 2 + 1 ≤ hi; omega, h2, fun i hi2 => ?_, h4⟩, by show hi - ((lo + hi) / 2 + 1) < hi - lo; omega, ?_⟩
        · by_cases e : i = (lo + hi) / 2
          · subst e; exact c2
          · have hi2 : i < (lo + hi) / 2 + 1 := hi2
            have := QvB h (i := i) (j := (lo + hi) / 2) (by omega) hm
            omega
        · exact Mv.k0
      · refine ⟨(lo, (lo + hi) / 2), ⟨by show lo ≤ (lo + hi) / 2; omega, by show (lo + hi) / 2 ≤ l.length; omega, h3, Or.inr ?_⟩, by show (lo + hi) / 2 - lo < hi - lo; omega, ?_⟩
        · show b ≤ (l.getD ((lo + hi) / 2) default).block
          omega
        · exact Mv.k0
    · have c1 : hi ≤ lo := by have : ¬ (lo : Int) < hi := by have := c1; omega
                              omega
      have hp : Qr l b = lo := QkE (by omega) h3 (by
        rcases h4 with h4 | h4
        · exact Or.inl (by omega)
        · exact Or.inr (by rw [show lo = hi by omega]; exact h4))
      refine Go1 fun _h=>?_
      refine CallG.auto Qmw (fun _ => Qmb (l.getD lo default)) (Go0 ?_)
      rw [hp, show hasM l b = (bif decide ((lo : Int) < l.length) then (l.getD lo default).block == b else false) by
        unfold hasM
        rw [hp]
        by_cases q : lo < l.length
        · rw [decide_eq_true (show (lo : Int) < l.length by omega), cond_true]
          by_cases r : (l.getD lo default).block = b
          · rw [decide_eq_true ⟨q, r⟩, r, beq_self_eq_true]
          · rw [decide_eq_false fun z => r z.2, beq_eq_false_iff_ne.2 r]
        · rw [decide_eq_false fun z => q z.1, decide_eq_false (show ¬ (lo : Int) < l.length by omega)]
          rfl]
      exact RM.i0
theorem Qot : HB 145 := hB Tryz.func145
theorem Qus (m : List (List Ent)) (b : Int) (hm : m.length ≤ 1000000) (hs : ∀ i, (m.getD i default).length ≤ 1000000) : PS 92 [.a [Qh m], .c (.int .i64 b)] (.t [.inl (.int .i64 (Qaa m b)), .inl (.bool (decide (0 ≤ Qaa m b) && Q7 m))]) := by
 refine PSpec.rm ?_
 refine ov0 hΓ Tryz.func92 19 0 [.tmp 4, .tmp 5] Tryz.ntmps92 Tryz.results92 ?_
 refine CallN.pureA QhP (QhX m b hm ) (Go0 ?_)
 refine CallG.auto QoE (fun _ => Qok m hm hs ) (Go0 ?_)
 exact RM.i0
theorem QtR : HB 92 := hB Tryz.func92
theorem Qim {l : List Ent} {e : Ent} {k k' : Nat} {t : List C} {Z : Nat → Nat → C} {n1 n2 k2 i j : Nat} (hk : k ≤ l.length) (h1 : n1 = k) (h2 : n2 = k + 1) (h3 : k2 = k') (hj : j < 6) :
  appG (appG (appG Z 0 (entG l)) n1 (Q4 6 (e.cells ++ t))) n2 (fun i j => entG l (k2 + i) j) i j = entG (l.take k ++ e :: l.drop k') i j := by
 subst h1 h2 h3
 have hlen : (l.take n1).length = n1 := by rw [List.length_take]; omega
 unfold appG
 simp only [Nat.not_lt_zero, if_false, Nat.sub_zero]
 unfold entG rowG
 by_cases c1 : i < n1 + 1
 ·rw [if_pos c1]
  by_cases c2 : i < n1
  ·rw [if_pos c2]
   congr 1
   simp only [List.getD]
   rw [List.getElem?_append_left (by omega), List.getElem?_take, if_pos c2]
  ·rw [if_neg c2]
   have : i = n1 := by omega
   subst this
   rw [show (l.take i ++ e :: l.drop k2).getD i default = e by
    simp only [List.getD]
    rw [List.getElem?_append_right (by omega), hlen, Nat.sub_self]
    rfl]
   rw [Nat.sub_self]
   match j, hj with
   | 0, _ => rfl
   | 1, _ => rfl
   | 2, _ => rfl
   | 3, _ => rfl
   | 4, _ => rfl
   | 5, _ => rfl
 ·rw [if_neg c1]
  congr 1
  simp only [List.getD]
  rw [List.getElem?_append_right (by omega), hlen, show i - n1 = (i - (n1 + 1)) + 1 by omega, List.getElem?_cons_succ, List.getElem?_drop]
set_option maxHeartbeats 4000000 in
theorem QlC (l : List Ent) (e : Ent) (hl : l.length ≤ 1000000) : PS 75 [.c (QQ l), .a e.cells] (.t [.inl (QQ (QI l e).1), .inr (QI l e).2.1.cells, .inl (.bool (QI l e).2.2)]) := by
 refine PSpec.rm ?_
 refine ov0 hΓ Tryz.func75 59 0 [.tmp 4, .cell 5 67, .tmp 6] Tryz.ntmps75 Tryz.results75 ?_
 refine CallN.pureA QdO (QdJ l hl ) (Go0 ?_)
 by_cases hv : QT l = true
 ·refine Br.no (by rw [hv]; rfl) (Go0 ?_)
  refine CallN.pureA Qh0 (Qh6 e ) (Go0 ?_)
  by_cases he : QbE e = true
  ·refine Br.no (by rw [he]; rfl) (Go0 ?_)
   have hple := QdU l e.block
   refine CallN.pureA QfB (Qfp l e.block hl ) (Go0 ?_)
   refine CallN.pureA Qgw (Qga l e.block hl ) (Go0 ?_)
   have hf2 : (QR l e.block).2 = hasM l e.block := by
    unfold QR
    by_cases q : hasM l e.block = true
    ·rw [if_pos ⟨hv, q⟩, q]
    ·rw [if_neg (fun z => q z.2), Qa3 q]
   by_cases c : (QR l e.block).2 = true ∧ e.version ≤ (QR l e.block).1.version
   ·refine Br.yes (by simp [-List.getD_eq_getElem?_getD, c.1]; exact c.2) ?_
    refine Go0 ?_
    refine Dr.mk hΓ hMix (by kernel_rfl) (Go0 ?_)
    rw [show QI l e = (l, (QR l e.block).1, false) by unfold QI; rw [if_pos hv, if_pos he, if_pos c]]
    exact RM.i0
   ·refine Br.no (Bool.eq_false_iff.2 fun z => c (by simpa using z)) (Go0 ?_)
    have hi : QI l e = (putE l e, (QR l e.block).1, true) := by unfold QI; rw [if_pos hv, if_pos he, if_neg c]
    have w1 := Qa ((Qr l e.block : Int) + 1) (by omega) (by omega)
    by_cases hm : hasM l e.block = true
    ·have hm' := (hasM_iff.1 hm).1
     refine Br.yes (hf2.trans hm) (Go0 ?_)
     rw [w1]
     refine Go0 ?_
     refine Dr.mkE hΓ hMix [] [(5, 4)] (by kernel_rfl) (Go0 ?_)
     have hpe : putE l e = l.take (Qr l e.block) ++ e :: l.drop (Qr l e.block + 1) := by unfold putE; rw [if_pos hm]
     have hpl : (putE l e).length = Qr l e.block + 1 + (l.length - (Qr l e.block + 1)) := by rw [hpe]; simp; omega
     rw [hi]
     refine RM.allT (FwT.consC (Fw.slP rfl rfl (by rw [hpl]; simp only [Int.toNat_natCast]; omega) (fun i _ j hj => (Qim (e := e) hple (by simp) (by simp) (show (((Qr l e.block : Nat) : Int) + 1).toNat = Qr l e.block + 1 by omega) hj).trans (by rw [hpe])) (fun _ _ => QK _ _)) (FwT.consL (FwL.cons (Fw.same rfl) (FwL.cons (Fw.same rfl) (FwL.cons (Fw.same rfl) (FwL.cons (Fw.same rfl) (FwL.cons (Fw.same rfl) (FwL.cons (Fw.same rfl) FwL.nil)))))) (FwT.consC (Fw.same rfl) FwT.nil)))
    ·refine Br.no (hf2.trans (Qa3 hm)) (Go0 ?_)
     refine Dr.mkE hΓ hMix [] [(5, 4)] (by kernel_rfl) (Go0 ?_)
     have hpe : putE l e = l.take (Qr l e.block) ++ e :: l.drop (Qr l e.block) := by unfold putE; rw [if_neg hm]
     have hpl : (putE l e).length = Qr l e.block + 1 + (l.length - Qr l e.block) := by rw [hpe]; simp; omega
     rw [hi]
     refine RM.allT (FwT.consC (Fw.slP rfl rfl (by rw [hpl]; simp only [Int.toNat_natCast]; omega) (fun i _ j hj => (Qim (e := e) hple (by simp) (by simp) (show (((Qr l e.block : Nat) : Int)).toNat = Qr l e.block by omega) hj).trans (by rw [hpe])) (fun _ _ => QK _ _)) (FwT.consL (FwL.cons (Fw.same rfl) (FwL.cons (Fw.same rfl) (FwL.cons (Fw.same rfl) (FwL.cons (Fw.same rfl) (FwL.cons (Fw.same rfl) (FwL.cons (Fw.same rfl) FwL.nil)))))) (FwT.consC (Fw.same rfl) FwT.nil)))
  ·refine Br.yes (by rw [Qa3 he]; rfl) (Go0 ?_)
   rw [show QI l e = (l, default, false) by unfold QI; rw [if_pos hv, if_neg he]]
   exact RM.i0
 ·refine Br.yes (by rw [Qa3 hv]; rfl) (Go0 ?_)
  rw [show QI l e = ([], default, false) from if_neg hv]
  exact RM.i0
theorem QlJ : HB 75 := hB Tryz.func75
theorem QsR {l : List Ent} {p : Nat} {tz t2 : Int} (hp : p < l.length) (i j : Nat) (hj : j < 6) : updG (entG l) p 4 [.int .i64 tz, .int .i64 t2] i j = entG (l.set p { l.getD p default with zone := tz, offset := t2 }) i j := by
 refine Qc0 hp (es := 6) (fun j hj => ?_) i j hj
 match j, hj with
 | 0, _ => rfl
 | 1, _ => rfl
 | 2, _ => rfl
 | 3, _ => rfl
 | 4, _ => rfl
 | 5, _ => rfl
theorem QtD {l : List Ent} {p : Nat} {mv : Int} (hp : p < l.length) (i j : Nat) (hj : j < 6) : updG (entG l) p 3 [.int .i64 mv] i j = entG (l.set p { l.getD p default with move := mv }) i j := by
 refine Qc0 hp (es := 6) (fun j hj => ?_) i j hj
 match j, hj with
 | 0, _ => rfl
 | 1, _ => rfl
 | 2, _ => rfl
 | 3, _ => rfl
 | 4, _ => rfl
 | 5, _ => rfl
theorem Qs8 {l : List Ent} {p : Nat} {tz t2 mv : Int} {e : Ent} (hp : p < l.length) (he : e = l.getD p default) (i j : Nat) (hj : j < 6) : updG (updG (entG l) p 4 [.int .i64 tz, .int .i64 t2]) p 3 [.int .i64 mv] i j = entG (l.set p { e with zone := tz, offset := t2, move := mv }) i j := by
 subst he
 rw [QpX (QsR hp i j hj), QtD (by simpa using hp) i j hj, QtK hp, List.set_set]
set_option maxHeartbeats 4000000 in
theorem Qow (l : List Ent) (b v fz fo tz t2 move : Int) (hl : l.length ≤ 1000000) : PS 73 [.c (QQ l), .c (.int .i64 b), .c (.int .i64 v), .a [.int .i64 fz, .int .i64 fo], .a [.int .i64 tz, .int .i64 t2], .c (.int .i64 move)] (.t [.inl (QQ (relE l b v fz fo tz t2 move).1), .inl (.bool (relE l b v fz fo tz t2 move).2)]) := by
 refine PSpec.rm ?_
 refine ov0 hΓ Tryz.func73 77 0 [.tmp 12, .tmp 13] Tryz.ntmps73 Tryz.results73 ?_
 refine CallN.pureA QdO (QdJ l hl ) (Go0 ?_)
 by_cases hv : QT l = true
 ·refine Br.no (by rw [hv]; rfl) (Go0 ?_)
  refine CallN.pureA Qgw (Qga l b hl ) (Go0 ?_)
  by_cases c : (QR l b).2 = true ∧ (QR l b).1.version = v ∧ (QR l b).1.zone = fz ∧ (QR l b).1.offset = fo ∧ 0 ≤ tz ∧ 0 ≤ t2 ∧ 0 ≤ move ∧ move ≤ 255
  ·have hi : relE l b v fz fo tz t2 move = (l.set (Qr l b) { (QR l b).1 with zone := tz, offset := t2, move := move }, true) := by unfold relE; rw [if_pos hv, if_pos c]
   refine Br.no (Bool.eq_false_iff.2 fun ebye => by simp [-List.getD_eq_getElem?_getD, -Int.default_eq_zero, c.1,c.2.1,c.2.2.1,c.2.2.2.1,c.2.2.2.2] at ebye <;> grind) ?_; conv=>whnf
   refine Go0 ?_
   have hple := QdU l b
   refine CallN.pureA QfB (Qfp l b hl ) (Go0 ?_)
   have hm : hasM l b = true := by
    have h2 := c.1
    unfold QR at h2
    by_cases q : hasM l b = true
    ·exact q
    ·rw [if_neg (fun z => q z.2)] at h2; cases h2
   have hlt := (hasM_iff.1 hm).1
   have hfe : (QR l b).1 = l.getD (Qr l b) default := by unfold QR; rw [if_pos ⟨hv, hm⟩]
   refine Go0 ?_
   rw [hi]
   exact RM.allT (FwT.consC (Fw.slP rfl rfl (by simp) (fun i _ j hj => Qs8 hlt hfe i j hj) (fun _ _ => QK _ _)) (FwT.consC (Fw.same rfl) FwT.nil))
  ·refine Br.yes (Decidable.byContradiction fun ebye => c (by simp [-List.getD_eq_getElem?_getD, -Int.default_eq_zero] at ebye <;> grind)) ?_; conv=>whnf
   refine Go0 ?_
   rw [show relE l b v fz fo tz t2 move = (l, false) by unfold relE; rw [if_pos hv, if_neg c]]
   exact RM.i0
 ·refine Br.yes (by rw [Qa3 hv]; rfl) (Go0 ?_)
  rw [show relE l b v fz fo tz t2 move = ([], false) from if_neg hv]
  exact RM.i0
theorem Qoy : HB 73 := hB Tryz.func73
theorem QjD (m : List (List Ent)) (i : Int) (l : List Ent) (hm : m.length ≤ 1000000) (h0 : 0 ≤ i) (h1 : i < m.length) : PS 74 [.a [Qh m], .c (.int .i64 i), .c (QQ l)] (.a [Qh (m.set i.toNat l)]) := by
 have hi : i.toNat < m.length := by omega
 refine PSpec.rm ?_
 refine ov0 hΓ Tryz.func74 18 0 [.cell 6 34] Tryz.ntmps74 Tryz.results74 ?_
 refine RM.allA (FwL.cons (Fw.slP rfl rfl (by simp) (fun a _ j hj => Qc0 (f := fun (l : List Ent) (_ : Nat) => QQ l) (x := l) hi (es := 1) (fun j hj => ?_) a j hj) (fun _ _ => rfl)) FwL.nil)
 have : j = 0 := by omega
 subst this
 rfl
theorem QiU : HB 74 := hB Tryz.func74
theorem Qfg {m : List (List Ent)} {b : Int} (h : Q7 m = true) (hb : 0 ≤ b) : Qaa m b = (Ql m b : Nat) := by
 have := Qe8 h
 unfold Qaa
 rw [if_neg (by omega), Qib h hb]
theorem QjL (m : List (List Ent)) (b : Int) (hm : m.length ≤ 1000000) (hs : ∀ i, (m.getD i default).length ≤ 1000000) : PS 35 [.a [Qh m], .c (.int .i64 b)] (.t [.inr (Qbi m b).1.cells, .inl (.bool (Qbi m b).2)]) := by
 refine PSpec.rm ?_
 refine ov0 hΓ Tryz.func35 25 0 [.cell 4 67, .tmp 5] Tryz.ntmps35 Tryz.results35 ?_
 refine CallN.pureA QdL (QdS m hm hs ) (Go0 ?_)
 by_cases c : Q7 m = true ∧ 0 ≤ b
 ·have hlt := Qb6 c.1 c.2
  have hint := Qib c.1 c.2
  refine Br.no (Bool.eq_false_iff.2 fun ebye => by simp [-List.getD_eq_getElem?_getD, -Int.default_eq_zero, c.1,c.2] at ebye <;> grind) ?_; conv=>whnf
  refine Go0 ?_
  refine Dr.mk hΓ hMix (by kernel_rfl) (Go0 ?_)
  refine CallP.auto Qes (QeJ m b hm ) ?_
  rw [Qfg c.1 c.2]
  refine Go0 ?_
  refine CallP.auto Qgw (Qga (m.getD (Ql m b) default) b (hs _) ) (Go0 ?_)
  rw [show Qbi m b = QR (m.getD (Ql m b) default) b from if_pos c]
  exact RM.i0
 ·refine Br.yes (Decidable.byContradiction fun ebye => c (by simp [-List.getD_eq_getElem?_getD, -Int.default_eq_zero] at ebye <;> grind)) ?_; conv=>whnf
  refine Go0 ?_
  rw [show Qbi m b = (default, false) from if_neg c]
  exact RM.i0
theorem Qjz : HB 35 := hB Tryz.func35
set_option maxHeartbeats 2000000 in
theorem Qgk (m : List (List Ent)) (e : Ent) (hm : m.length ≤ 1000000) (hs : ∀ i, (m.getD i default).length ≤ 1000000) : PS 39 [.a [Qh m], .a e.cells] (.t [.inr [Qh (Qaz m e).1], .inr (Qaz m e).2.1.cells, .inl (.bool (Qaz m e).2.2)]) := by
 refine PSpec.rm ?_
 refine ov0 hΓ Tryz.func39 45 0 [.cell 4 34, .cell 5 67, .tmp 6] Tryz.ntmps39 Tryz.results39 ?_
 refine CallN.pureA QdL (QdS m hm hs ) (Go0 ?_)
 by_cases c : Q7 m = true ∧ 0 ≤ e.block
 ·have hlt := Qb6 c.1 c.2
  refine Br.no (Bool.eq_false_iff.2 fun ebye => by simp [-List.getD_eq_getElem?_getD, -Int.default_eq_zero, c.1,c.2] at ebye <;> grind) ?_; conv=>whnf
  refine Go0 ?_
  refine CallN.pureA Qes (QeJ m e.block hm ) ?_
  rw [Qfg c.1 c.2]
  refine Go0 ?_
  refine Dr.mkE hΓ hMix [] [(10, 13)] (by kernel_rfl) (Go0 ?_)
  refine CallP.auto QlJ (QlC (m.getD (Ql m e.block) default) e (hs _) ) (Go0 ?_)
  by_cases d : (QI (m.getD (Ql m e.block) default) e).2.2 = true
  ·refine Br.no (by rw [d]; rfl) (Go0 ?_)
   refine Dr.mkE hΓ hMix [] [(4, 5)] (by kernel_rfl) (Go0 ?_)
   refine CallP.auto QiU (QjD m (Ql m e.block : Nat) (QI (m.getD (Ql m e.block) default) e).1 hm (by omega) (by omega) ) (Go0 ?_)
   rw [show Qaz m e = (m.set (Ql m e.block) (QI (m.getD (Ql m e.block) default) e).1, (QI (m.getD (Ql m e.block) default) e).2.1, true) by unfold Qaz; rw [if_pos c, if_pos d]]
   exact RM.i0
  ·refine Br.yes (by rw [Qa3 d]; rfl) (Go0 ?_)
   refine Dr.mkE hΓ hMix [] [(1, 2)] (by kernel_rfl) (Go0 ?_)
   rw [show Qaz m e = (m, (QI (m.getD (Ql m e.block) default) e).2.1, false) by unfold Qaz; rw [if_pos c, if_neg d]]
   exact RM.i0
 ·refine Br.yes (Decidable.byContradiction fun ebye => c (by simp [-List.getD_eq_getElem?_getD, -Int.default_eq_zero] at ebye <;> grind)) ?_; conv=>whnf
  refine Go0 ?_
  rw [show Qaz m e = (m, default, false) from if_neg c]
  exact RM.i0
theorem Qge : HB 39 := hB Tryz.func39
set_option maxHeartbeats 2000000 in
theorem QoC (m : List (List Ent)) (b v fz fo tz t2 move : Int) (hm : m.length ≤ 1000000) (hs : ∀ i, (m.getD i default).length ≤ 1000000) : PS 38 [.a [Qh m], .c (.int .i64 b), .c (.int .i64 v), .a [.int .i64 fz, .int .i64 fo], .a [.int .i64 tz, .int .i64 t2], .c (.int .i64 move)] (.t [.inr [Qh (relM m b v fz fo tz t2 move).1], .inl (.bool (relM m b v fz fo tz t2 move).2)]) := by
 refine PSpec.rm ?_
 refine ov0 hΓ Tryz.func38 49 0 [.cell 12 34, .tmp 13] Tryz.ntmps38 Tryz.results38 ?_
 refine CallN.pureA QdL (QdS m hm hs ) (Go0 ?_)
 by_cases c : Q7 m = true ∧ 0 ≤ b
 ·have hlt := Qb6 c.1 c.2
  refine Br.no (Bool.eq_false_iff.2 fun ebye => by simp [-List.getD_eq_getElem?_getD, -Int.default_eq_zero, c.1,c.2] at ebye <;> grind) ?_; conv=>whnf
  refine Go0 ?_
  refine CallN.pureA Qes (QeJ m b hm ) ?_
  rw [Qfg c.1 c.2]
  refine Go0 ?_
  refine Dr.mk hΓ hMix (by kernel_rfl) (Go0 ?_)
  refine CallP.auto Qoy (Qow (m.getD (Ql m b) default) b v fz fo tz t2 move (hs _) ) (Go0 ?_)
  by_cases d : (relE (m.getD (Ql m b) default) b v fz fo tz t2 move).2 = true
  ·refine Br.no (by rw [d]; rfl) (Go0 ?_)
   refine CallN.pureA QiU (QjD m (Ql m b : Nat) (relE (m.getD (Ql m b) default) b v fz fo tz t2 move).1 hm (by omega) (by omega) ) (Go0 ?_)
   rw [show relM m b v fz fo tz t2 move = (m.set (Ql m b) (relE (m.getD (Ql m b) default) b v fz fo tz t2 move).1, true) by unfold relM; rw [if_pos c, if_pos d]]
   exact RM.i0
  ·refine Br.yes (by rw [Qa3 d]; rfl) (Go0 ?_)
   rw [show relM m b v fz fo tz t2 move = (m, false) by unfold relM; rw [if_pos c, if_neg d]]
   exact RM.i0
 ·refine Br.yes (Decidable.byContradiction fun ebye => c (by simp [-List.getD_eq_getElem?_getD, -Int.default_eq_zero] at ebye <;> grind)) ?_; conv=>whnf
  refine Go0 ?_
  rw [show relM m b v fz fo tz t2 move = (m, false) from if_neg c]
  exact RM.i0
theorem QoX : HB 38 := hB Tryz.func38
theorem Qiw (n : Nat) (g : Nat → Nat → C) (t : Bool) (hn : n ≤ 1000000) (him : ∀ i, i < n → ∀ j, j < 6 → (g i j).imm = true) : CS 144 [.c (.isl 6 n g t)] [] fun s H => s = .c (.sl 0 6 n n false) ∧ H = [.arr 67 6 n g] := by
 refine CSpec.rm ?_
 refine ov0 hΓ Tryz.func144 5 0 [.tmp 2] Tryz.ntmps144 Tryz.results144 ?_
 refine ⟨_, _, ?_, rfl, rfl⟩
 refine RM.w1 ?_
 exact fun i hi j hj => WC.imm (him i hi j hj)
theorem QmZ : HB 144 := hB Tryz.func144
theorem Qk5 (l : List Ent) (hl : l.length ≤ 1000000) : PS 144 [.c (QQ l)] (.c (QQ l)) := PSpec.ofO (Qiw _ _ _ hl fun _ _ _ _ => QK _ _) fun _ _ _ _ => QK _ _
theorem Qll : HB 144 := hB Tryz.func144
theorem QvW {l : List Ent} {e : Ent} {p : Nat} (hp : p < l.length) (i j : Nat) (hj : j < 6) : updG (entG l) p 0 e.cells i j = entG (l.set p e) i j :=
 Qc0 hp (es := 6) (fun j hj => match j, hj with | 0, _ => rfl | 1, _ => rfl | 2, _ => rfl | 3, _ => rfl | 4, _ => rfl | 5, _ => rfl) i j hj
theorem QtW {Z g : Nat → Nat → C} : appG Z 0 g = g := by
 funext i j
 simp [appG]
theorem QvR {l : List Ent} {e : Ent} {k k' : Nat} {t : List C} {n1 n2 k2 i j : Nat} (hk : k ≤ l.length) (h1 : n1 = k) (h2 : n2 = k + 1) (h3 : k2 = k') (hj : j < 6) :
  appG (appG (entG l) n1 (Q4 6 (e.cells ++ t))) n2 (fun i j => entG l (k2 + i) j) i j = entG (l.take k ++ e :: l.drop k') i j := by
 have := Qim (Z := entG l) (e := e) (t := t) (i := i) (j := j) hk h1 h2 h3 hj
 rwa [QtW] at this
set_option maxHeartbeats 4000000 in
theorem Qqi (l : List Ent) (e : Ent) (hl : l.length ≤ 1000000) : PS 94 [.c (QQ l), .a e.cells] (.t [.inl (QQ (QI l e).1), .inr (QI l e).2.1.cells, .inl (.bool (QI l e).2.2)]) := by
 refine PSpec.rm ?_
 refine ov0 hΓ Tryz.func94 70 0 [.tmp 4, .cell 5 67, .tmp 6] Tryz.ntmps94 Tryz.results94 ?_
 refine CallN.pureA Qe0 (QeZ l hl ) (Go0 ?_)
 by_cases hv : QT l = true
 ·refine Br.no (by rw [hv]; rfl) (Go0 ?_)
  refine CallN.pureA Qic (Qia e ) (Go0 ?_)
  by_cases he : QbE e = true
  ·refine Br.no (by rw [he]; rfl) (Go0 ?_)
   have hple := QdU l e.block
   refine CallN.pureA Qot (QoH l e.block hv hl ) (Go0 ?_)
   by_cases hm : hasM l e.block = true
   ·have hp := (hasM_iff.1 hm).1
    have hf : QR l e.block = (l.getD (Qr l e.block) default, true) := if_pos ⟨hv, hm⟩
    refine Br.no (by rw [hm]; rfl) (Go0 ?_)
    refine Dr.mk hΓ hMix (by kernel_rfl) (Go0 ?_)
    rw [show l.getD (Qr l e.block : Int).toNat default = l.getD (Qr l e.block) default from rfl]
    by_cases c : e.version ≤ (l.getD (Qr l e.block) default).version
    ·refine Br.yes (decide_eq_true c) (Go0 ?_)
     refine Dr.mk hΓ hMix (by kernel_rfl) (Go0 ?_)
     refine CallP.auto Qll (Qk5 l hl ) (Go0 ?_)
     rw [show QI l e = (l, (QR l e.block).1, false) by unfold QI; rw [if_pos hv, if_pos he, if_pos ⟨by rw [hf], by rw [hf]; exact c⟩], hf]
     exact RM.i0
    ·refine Br.no (decide_eq_false c) (Go0 ?_)
     refine CallN.autoI [] QmZ (Qiw l.length (entG l) false hl (fun _ _ _ _ => QK _ _)) plh (Go0 ?_)
     refine Dr.mk hΓ hMix (by kernel_rfl) (Go0 ?_)
     have hpe : putE l e = l.set (Qr l e.block) e := by
      unfold putE
      rw [if_pos hm, List.set_eq_take_append_cons_drop, if_pos hp]
     rw [show QI l e = (putE l e, (QR l e.block).1, true) by unfold QI; rw [if_pos hv, if_pos he, if_neg fun z => c (by rw [hf] at z; exact z.2)], hf, hpe]
     exact RM.allT (FwT.consC (Fw.slP rfl rfl (by simp) (fun i _ j hj => QvW hp i j hj) (fun _ _ => QK _ _)) (FwT.consL (FwL.cons (Fw.same rfl) (FwL.cons (Fw.same rfl) (FwL.cons (Fw.same rfl) (FwL.cons (Fw.same rfl) (FwL.cons (Fw.same rfl) (FwL.cons (Fw.same rfl) FwL.nil)))))) (FwT.consC (Fw.same rfl) FwT.nil)))
   ·have hf : (QR l e.block).2 = false := by unfold QR; rw [if_neg fun z => hm z.2]
    refine Br.yes (by rw [Qa3 hm]; rfl) (Go0 ?_)
    refine Dr.mkE hΓ hMix [4294967296, 144] [(4, 3), (5, 3)] (by kernel_rfl) (Go0 ?_)
    refine CallE.autoI [] QmZ (Qiw (Qr l e.block : Int).toNat (entG l) false (by omega) (fun _ _ _ _ => QK _ _)) plh (Go0 ?_)
    have hpe : putE l e = l.take (Qr l e.block) ++ e :: l.drop (Qr l e.block) := by unfold putE; rw [if_neg hm]
    have hpl : (putE l e).length = Qr l e.block + 1 + (l.length - Qr l e.block) := by rw [hpe]; simp; omega
    rw [show QI l e = (putE l e, (QR l e.block).1, true) by unfold QI; rw [if_pos hv, if_pos he, if_neg fun z => by rw [hf] at z; cases z.1], show (QR l e.block).1 = default by unfold QR; rw [if_neg fun z => hm z.2]]
    refine RM.allT (FwT.consC (Fw.slP rfl rfl (by rw [hpl]; rfl) (fun i _ j hj => (QvR (e := e) hple (show (Qr l e.block : Int).toNat = Qr l e.block from rfl) (by simp) (show (Qr l e.block : Int).toNat = Qr l e.block from rfl) hj).trans (by rw [hpe])) (fun _ _ => QK _ _)) (FwT.consL (FwL.cons (Fw.same rfl) (FwL.cons (Fw.same rfl) (FwL.cons (Fw.same rfl) (FwL.cons (Fw.same rfl) (FwL.cons (Fw.same rfl) (FwL.cons (Fw.same rfl) FwL.nil)))))) (FwT.consC (Fw.same rfl) FwT.nil)))
  ·refine Br.yes (by rw [Qa3 he]; rfl) (Go0 ?_)
   refine CallN.pureA Qll (Qk5 l hl ) (Go0 ?_)
   rw [show QI l e = (l, default, false) by unfold QI; rw [if_pos hv, if_neg he]]
   exact RM.i0
 ·refine Br.yes (by rw [Qa3 hv]; rfl) (Go0 ?_)
  rw [show QI l e = ([], default, false) by unfold QI; rw [if_neg hv]]
  exact RM.i0
theorem Qqh : HB 94 := hB Tryz.func94
theorem QiV (m : List (List Ent)) : PS 93 [.a [Qh m]] (.a [Qh m]) := by
 refine PSpec.rm ?_
 refine ov0 hΓ Tryz.func93 7 0 [.cell 2 34] Tryz.ntmps93 Tryz.results93 ?_
 exact RM.i0
theorem QjA : HB 93 := hB Tryz.func93
theorem Qqw (m : List (List Ent)) (hm : m.length ≤ 1000000) (hs : ∀ i, (m.getD i default).length ≤ 1000000) : CS 91 [.a [Qh m]] [] fun s H => s = .a [.sl 0 1 m.length m.length false] ∧ H = [.arr 54 1 m.length (Qd2 m)] := by
 refine CSpec.rm ?_
 refine ov hΓ Tryz.func91 24 0 [.cell 2 163] Tryz.ntmps91 Tryz.results91 ?_
 refine Go1 fun _h=>?_
 refine Lp.mkK hΓ (ι := Nat) [2, 3, 7, 8] (fun i => [(9, .c (.int .i64 i))]) (fun k => [.vr [Qh m], .vr [.nils], .vr [.sl 3 1 k k false], .arr 54 1 k (Qd2 (m.take k))]) (fun i => i ≤ m.length) (fun i => m.length - i) 0 (Nat.zero_le _) ?_ ?_
 ·refine (Mv.reserveO 2 0 54 1 (Qd2 []) rfl rfl rfl rfl).trans ?_
  exact Mv.k0
 ·intro k hk
  have hsk := hs k
  refine Go0 ?_
  refine Br.of (fun h=>Go0 ?_) (fun h=>Go0 ?_)
  ·refine Dr.mk hΓ hMix (by kernel_rfl) (Go0 ?_)
   refine CallP.auto Qlt (Qlw (m.getD k default) (by omega) ) (Go0 ?_)
   have w0 := Qa (↑k + 1) (by omega) (by omega)
   refine ⟨k + 1, by omega, by omega, ?_⟩
   refine Mv.k1 ?_
   intro i hi j hj
   rw [Q6 m (by omega)]
   exact WC.eq (QrZ (QnR m hk).symm (by rw [QnR m hk]; exact hi) hj) rfl
  ·have : k = m.length := by omega
   subst this
   rw [List.take_length]
   refine ⟨_, _, ?_, rfl, rfl⟩
   exact RM.renW [3] (by decide) wb0 wb0
theorem Qqd : HB 91 := hB Tryz.func91
theorem QvO {α : Type} [Inhabited α] {l : List α} {i : Nat} (hi : i < l.length) : l.set i (l.getD i default) = l := by
 refine QcF (by simp) fun j hj => ?_
 rw [List.length_set] at hj
 rw [QeH hi]
 split
 ·rename_i e; rw [e]
 ·rfl
theorem QuX {l : List Ent} {e : Ent} (h : QT l = true) (h2 : (QI l e).2.2 ≠ true) : (QI l e).1 = l := by
 unfold QI at *
 rw [if_pos h] at *
 split
 ·rename_i he
  rw [if_pos he] at h2
  split
  ·rfl
  ·rename_i q
   rw [if_neg q] at h2
   exact absurd rfl h2
 ·rfl
theorem QsD {m : List (List Ent)} {e : Ent} (h : Q7 m = true) (h0 : 0 ≤ e.block) : Qaz m e = (m.set (Ql m e.block) (QI (m.getD (Ql m e.block) default) e).1, (QI (m.getD (Ql m e.block) default) e).2.1, (QI (m.getD (Ql m e.block) default) e).2.2) := by
 have hlt := Qb6 h h0
 unfold Qaz
 rw [if_pos ⟨h, h0⟩]
 split
 ·rename_i q; rw [q]
 ·rename_i q
  rw [QuX (QsZ h hlt).1 q, QvO hlt, Bool.eq_false_iff.2 q]
theorem Qna {m : List (List Ent)} {k : Nat} {x : List Ent} {c : C} (hk : k < m.length) (hc : c = QQ x) (i j : Nat) (hj : j < 1) : updG (Qd2 m) k 0 [c] i j = Qd2 (m.set k x) i j := by
 subst hc
 exact Qc0 (f := fun l _ => QQ l) hk (es := 1) (fun j hj => by
  have : j = 0 := by omega
  subst this
  rfl) i j hj
set_option maxHeartbeats 4000000 in
theorem QrA (m : List (List Ent)) (e : Ent) (hm : m.length ≤ 1000000) (hs : ∀ i, (m.getD i default).length ≤ 1000000) : PS 50 [.a [Qh m], .a e.cells] (.t [.inr [Qh (Qaz m e).1], .inr (Qaz m e).2.1.cells, .inl (.bool (Qaz m e).2.2)]) := by
 refine PSpec.rm ?_
 refine ov0 hΓ Tryz.func50 49 0 [.cell 4 34, .cell 5 67, .tmp 6] Tryz.ntmps50 Tryz.results50 ?_
 refine CallN.autoI [] Qqd (Qqw m hm hs) plh (Go0 ?_)
 refine CallN.reads QtR (Qus m e.block hm hs) (BwA.cons (BwS.a (BwL.cons (Bw.sl rfl rfl (fun i _ j _ => Bw.same rfl) (fun e => by cases e)) BwL.nil)) (BwA.cons (BwS.c (Bw.same rfl)) BwA.nil)) rfl (Go0 ?_)
 by_cases c : Q7 m = true ∧ 0 ≤ e.block
 ·have hlt := Qb6 c.1 c.2
  have hse := Qfg c.1 c.2
  have hst : 0 ≤ Qaa m e.block := by rw [hse]; omega
  refine Br.no (by rw [c.1, decide_eq_true hst]; rfl) (Go0 ?_)
  rw [hse]
  rw [QsD c.1 c.2]
  have hml := hs (Ql m e.block)
  refine Dr.mkE hΓ hMix [] [(11, 14)] (by kernel_rfl) (Go0 ?_)
  refine Frc.mk _ rfl (Go0 ?_)
  refine CallP.auto Qqh (Qqi (m.getD (Ql m e.block) default) e hml ) (Go0 ?_)
  refine Dr.mvK [2, 3, 4, 5, 7, 11, 12] [] [.vr [Qh m], .vr e.cells, .vr [.nils], .vr (default : Ent).cells, .dead, .vr [Qh (m.set (Ql m e.block) (QI (m.getD (Ql m e.block) default) e).1)], .vr (QI (m.getD (Ql m e.block) default) e).2.1.cells] ((Mv.fz 4 rfl (Nat.zero_le _) (fun i _ j hj => (congrArg C.imm (Qna hlt rfl i j hj)).trans rfl)).trans (Mv.mkW ?_ ?_ leN)) ?_
  ·refine wb1 ?_
   exact WC.fz rfl (by simp) (fun i _ j hj => leF.of_eq (Qna hlt rfl i j hj)) (fun e => by cases e)
  ·exact wb0
  ·conv=>whnf
   refine Dr.mkE hΓ hMix [] [(2, 4), (3, 4), (3, 5)] (by kernel_rfl) (Go0 ?_)
   refine CallP.auto QjA (QiV (m.set (Ql m e.block) (QI (m.getD (Ql m e.block) default) e).1) ) (Go0 ?_)
   exact RM.i0
 ·refine Br.yes ?_ ?_
  ·by_cases h1 : Q7 m = true
   ·have h2 : ¬ 0 ≤ e.block := fun q => c ⟨h1, q⟩
    rw [decide_eq_false (by unfold Qaa; rw [if_pos (by omega)]; decide)]; rfl
   ·rw [Qa3 h1, Bool.and_false]; rfl
  ·refine Go0 ?_
   rw [show Qaz m e = (m, default, false) from if_neg c]
   refine CallN.fzK 4 [2, 3, 4, 5, 7] [] [.vr [Qh m], .vr e.cells, .vr [.nils], .vr (default : Ent).cells, .dead, .vr [Qh m]] [.a [Qh m]] rfl leN (fun i _ j _ => rfl) wb0 wb0 wb0 leN ?_
   refine CallN.pureA QjA (QiV m ) (Go0 ?_)
   exact RM.i0
theorem Qq5 : HB 50 := hB Tryz.func50
def badZ (z : Zone) : Bool := decide (z.state = 5)
def badR (c : Conf) (f : Fnd) : Bool := decide (c.blocks ≤ f.r.block ∨ f.r.version = 1099511627776)
def badL (c : Conf) (d : Dev) (l : List Fnd) : Bool := d.zones.any badZ || l.any (badR c) || !Qds l
theorem QfQ (c : Conf) (d : Dev) : badF c d = badL c d (QaW c d) := rfl
theorem badR_cond {c : Conf} {f : Fnd} : (bif decide (f.r.block ≥ c.blocks) then true else f.r.version == 1099511627776) = badR c f := by
 unfold badR
 by_cases h1 : c.blocks ≤ f.r.block <;> simp [h1] <;> rfl
set_option maxHeartbeats 2000000 in
theorem QiC (c : Conf) (d : Dev) (l : List Fnd) (hd : d.tiny) (hl : l.length ≤ 1000000) : PS 54 [.a c.cells, .a d.cells, .c (Qb5 l)] (.c (.bool (badL c d l))) := by
 have hz := hd.z
 refine PSpec.rm ?_
 refine ov0 hΓ Tryz.func54 50 0 [.tmp 6] Tryz.ntmps54 Tryz.results54 ?_
 refine Lp.mkK hΓ (ι := Nat) [2, 3, 4] (fun k => [(7, .c (.int .i64 k))]) (fun k => [.vr c.cells, .vr d.cells]) (fun k => k ≤ d.zones.length ∧ ∀ j, j < k → badZ (d.zones.getD j default) = false) (fun k => d.zones.length - k) 0 ⟨Nat.zero_le _, fun i hi => absurd hi (Nat.not_lt_zero _)⟩ ?_ ?_
 ·exact Mv.k0
 ·rintro k ⟨hk, hk2⟩
  refine Go1 fun _h=>?_
  refine Br.of (fun h1=>Go0 ?_) (fun h1=>Go0 ?_)
  ·have w0 := Qa (↑k + 1) (by omega) (by omega)
   cases c1 : badZ (d.zones.getD k default) with
   | true =>
    refine Br.yes (by exact c1) (Go0 ?_)
    have e := (QbW (by omega) c1 hk2).1
    rw [show badL c d l = true by unfold badL; rw [e]; rfl]
    exact RM.i0
   | false =>
    refine Br.no (by exact c1) (Go0 ?_)
    refine ⟨k + 1, ⟨by omega, fun j hj => ?_⟩, by omega, ?_⟩
    ·rcases Nat.lt_succ_iff_lt_or_eq.1 hj with q | rfl
     ·exact hk2 j q
     ·exact c1
    ·exact Mv.k0
  ·have : k = d.zones.length := by omega
   subst this
   have e0 := QbP hk2
   refine Lp.mkK hΓ (ι := Nat) [2, 3, 4] (fun k => [(8, .c (.int .i64 k))]) (fun k => [.vr c.cells, .vr d.cells]) (fun k => k ≤ l.length ∧ ∀ j, j < k → badR c (l.getD j default) = false) (fun k => l.length - k) 0 ⟨Nat.zero_le _, fun i hi => absurd hi (Nat.not_lt_zero _)⟩ ?_ ?_
   ·exact Mv.k0
   ·rintro k ⟨hk3, hk4⟩
    refine Go1 fun _h=>?_
    refine Br.of (fun h2=>Go0 ?_) (fun h2=>Go0 ?_)
    ·have w0 := Qa (↑k + 1) (by omega) (by omega)
     refine Dr.mk hΓ hMix (by kernel_rfl) (Go0 ?_)
     cases c1 : badR c (l.getD k default) with
     | true =>
      refine Br.yes (badR_cond.trans c1) (Go0 ?_)
      have e := (QbW (by omega) c1 hk4).1
      rw [show badL c d l = true by unfold badL; rw [e0, e]; rfl]
      exact RM.i0
     | false =>
      refine Br.no (badR_cond.trans c1) (Go0 ?_)
      refine ⟨k + 1, ⟨by omega, fun j hj => ?_⟩, by omega, ?_⟩
      ·rcases Nat.lt_succ_iff_lt_or_eq.1 hj with q | rfl
       ·exact hk4 j q
       ·exact c1
      ·exact Mv.k0
    ·have : k = l.length := by omega
     subst this
     have e := QbP hk4
     refine CallN.pureA Qm6 (Qm8 l hl ) (Go0 ?_)
     rw [show badL c d l = !Qds l by unfold badL; rw [e0, e]; rfl]
     exact RM.i0
theorem QjE : HB 54 := hB Tryz.func54
theorem QgT (a b : Img) (ha : a.map.length ≤ 1000000) (hs : ∀ i, (a.map.getD i default).length ≤ 1000000) : PS 12 [.a a.cells, .a b.cells] (.c (.bool (decide (a = b)))) := by
 refine PSpec.rm ?_
 refine ov0 hΓ Tryz.func12 31 0 [.tmp 4] Tryz.ntmps12 Tryz.results12 ?_
 refine CallN.pureA Qpi (Qoc a.map b.map ha hs ) (Go0 ?_)
 have e : (bif (bif (bif decide (a.map = b.map) then a.version == b.version else false) then a.seq == b.seq else false) then a.slot == b.slot else false) = decide (a = b) := by
  obtain ⟨a1, a2, a3, a4⟩ := a
  obtain ⟨b1, b2, b3, b4⟩ := b
  by_cases h1 : a1 = b1 <;> by_cases h2 : a2 = b2 <;> by_cases h3 : a3 = b3 <;> by_cases h4 : a4 = b4 <;> simp [h1, h2, h3, h4]
 rw [e]
 exact RM.i0
theorem Qhw : HB 12 := hB Tryz.func12
theorem QsW (l : List Ent) (e : Ent) : (QI l e).1.length ≤ l.length + 1 := by
 unfold QI
 split
 ·split
  ·split
   ·show l.length ≤ _; omega
   ·show (putE l e).length ≤ _
    unfold putE
    have := QdU l e.block
    simp only [List.length_append, List.length_cons, List.length_take, List.length_drop]
    split <;> omega
  ·show l.length ≤ _; omega
 ·exact Nat.zero_le _
theorem QkD (m : List (List Ent)) (e : Ent) : (Qaz m e).1.length = m.length := by
 unfold Qaz
 split
 ·split
  ·simp
  ·rfl
 ·rfl
theorem QmM {m : List (List Ent)} {e : Ent} {n : Nat} (h : ∀ i, (m.getD i default).length ≤ n) (i : Nat) : ((Qaz m e).1.getD i default).length ≤ n + 1 := by
 have hi := h i
 unfold Qaz
 split
 ·rename_i q
  split
  ·rw [QeH (Qb6 q.1 q.2)]
   split
   ·have := QsW (m.getD (Ql m e.block) default) e
    have := h (Ql m e.block)
    omega
   ·omega
  ·show (m.getD i default).length ≤ _; omega
 ·show (m.getD i default).length ≤ _; omega
theorem QfU (m : List (List Ent)) (l : List Ent) (e : Ent) : QaZ m (l ++ [e]) = (Qaz (QaZ m l) e).1 := by
 unfold QaZ
 rw [List.foldl_append]
 rfl
theorem Qe3 (m : List (List Ent)) (l : List Ent) : (QaZ m l).length = m.length := by
 induction l generalizing m with
 | nil => rfl
 | cons e l ih =>
  show (QaZ (Qaz m e).1 l).length = _
  rw [ih, QkD]
theorem Qgb {m : List (List Ent)} {n : Nat} (h : ∀ i, (m.getD i default).length ≤ n) (l : List Ent) : ∀ i, ((QaZ m l).getD i default).length ≤ n + l.length := by
 induction l generalizing m n with
 | nil => exact h
 | cons e l ih =>
  intro i
  have := ih (QmM (e := e) h) i
  show ((QaZ (Qaz m e).1 l).getD i default).length ≤ _
  rw [List.length_cons]
  omega
theorem Qf0 (n : Int) (i : Nat) : ((QbX n).getD i default).length ≤ 0 := by
 unfold QbX
 rw [List.getD, List.getElem?_replicate]
 split <;> exact Nat.le_refl _
theorem Qe9 (b : Bas) (l : List Fnd) : ∀ k, (Qal b l k).length ≤ k
 | 0 => Nat.le_refl _
 | k + 1 => by
  have := Qe9 b l k
  simp only [Qal, List.length_append]
  unfold QaI
  split
  ·simp; omega
  ·split <;> simp <;> omega
theorem Qk0 {c : Conf} {d : Dev} {slot : Int} (h : Qu c d slot = 0) : QJ (Qz c d slot).seq (Qz c d slot).next (Qz c d slot).cut (Qz c d slot).ents = 0 := by
 unfold Qz
 rw [if_pos h]
 unfold Qu at h
 split at h
 ·split at h
  ·split at h
   ·cases h
   ·rename_i l q
    try rw [q]
    show QJ (Qa9 c l).seq (Qa9 c l).next (Qa9 c l).cut (Qa9 c l).ents = 0
    unfold Qa9
    rw [if_pos h]
    unfold Qa8 at h
    split at h
    ·rename_i w
     have w := w.1
     unfold Qao
     rw [if_pos w]
     unfold QaU at w
     split at w
     ·rename_i ww
      exact ww.2.1
     ·cases w
    ·cases h
  ·cases h
 ·rename_i q; exact absurd h q
theorem Qph {c : Conf} {d : Dev} (h : ¬ (Qg c d).2 < 0) : QJ (Qg c d).1.seq (Qg c d).1.next (Qg c d).1.cut (Qg c d).1.ents = 0 := by
 unfold Qg at *
 split
 ·rename_i q; exact Qk0 q.1
 ·rename_i q
  rw [if_neg q] at h
  split
  ·rename_i r; exact Qk0 r
  ·rename_i r
   rw [if_neg r] at h
   exact absurd (by show (-1 : Int) < 0; decide) h
theorem Ql3 (c : Conf) (d : Dev) : (QbH c d).ents.length ≤ 128 ∧ 1 ≤ (QbH c d).next ∧ (QbH c d).next ≤ 1099511627776 ∧ 1 ≤ (QbH c d).cut := by
 unfold QbH
 split
 ·exact ⟨Nat.zero_le _, by decide, by decide, by decide⟩
 ·rename_i h
  obtain ⟨h1, h2, _⟩ := Qc3 (Qph h)
  exact ⟨h2, h1.2.2.1, h1.2.2.2.1, h1.2.2.2.2.1⟩
theorem Qk6 (c : Conf) (d : Dev) : (QbH c d).seq = (Qg c d).1.seq := by
 unfold QbH
 split
 ·rename_i h
  unfold Qg at *
  split
  ·rename_i q; rw [if_pos q] at h; exact absurd h (by show ¬ (0 : Int) < 0; decide)
  ·rename_i q
   rw [if_neg q] at h
   split
   ·rename_i r; rw [if_pos r] at h; exact absurd h (by show ¬ (1 : Int) < 0; decide)
   ·rfl
 ·rfl
theorem QdD {b : Bas} {l : List Fnd} {k : Nat} : Qal b l (k + 1) = Qal b l k ++ QaI b l k := rfl
theorem win_cond {f : Fnd} {n : Int} : (bif f.r.kind == 1 then true else decide (f.r.version ≥ n)) = true ↔ (f.r.kind = 1 ∨ n ≤ f.r.version) := by
 by_cases h : f.r.kind = 1 <;> simp [h]
set_option maxHeartbeats 8000000 in
theorem QhB (c : Conf) (d : Dev) (hd : d.tiny) : PS 11 [.a c.cells, .a d.cells] (.t [.inr (QbQ c d).cells, .inl (.int .i64 (QH c d))]) := by
 have hz := hd.z
 have hno : ∀ {v : Int}, QH c d = v → v ≠ 0 → QbQ c d = default := fun h h2 => if_neg (by rw [h]; exact h2)
 refine PSpec.rm ?_
 refine ov0 hΓ Tryz.func11 148 0 [.cell 4 36, .tmp 5] Tryz.ntmps11 Tryz.results11 ?_
 refine CallN.pureA QcR (QcS c ) (Go0 ?_)
 by_cases h1 : Qn c = 0
 ·have hcf := confR_iff.1 (Qay h1).1
  refine Br.no (by simpa using h1) (Go0 ?_)
  refine CallN.pureA Qbx (Qby d ) (Go0 ?_)
  by_cases h2 : check d = 0
  ·refine Br.no (by simpa using h2) (Go1 fun _h=>?_)
   by_cases h3 : (d.zones.length : Int) = c.zones ∧ d.size = c.size
   ·refine Br.no (by rw [h3.2, bne_eq_false_iff_eq.2 h3.1]; simp) (Go0 ?_)
    refine CallN.pureA Qlp (QlD c d hd ) (Go0 ?_)
    obtain ⟨b1, b2, b3, b4⟩ := Ql3 c d
    have bsq := Qk6 c d
    have ha := Qle c hd
    generalize hL : QaW c d = L at *
    by_cases h4 : (Qg c d).2 < 0
    ·have hb : QbH c d = ⟨0, 1, 1, []⟩ := if_pos h4
     refine Br.yes (decide_eq_true h4) (Go0 ?_)
     rw [hb] at b1 b2 b3 b4 bsq
     refine CallN.pureA QiG (QjG c d hd ) (Go0 ?_)
     rw [hL]
     refine CallN.pureA QjE (QiC c d L hd (by omega) ) (Go0 ?_)
     cases c5 : badL c d L with
     | true =>
      refine Br.yes rfl (Go0 ?_)
      have e : QH c d = 14 := by unfold QH; rw [if_pos h1, if_pos h2, if_pos h3, if_pos (by rw [QfQ, hL]; exact c5)]
      rw [hno e (by decide), e]
      exact RM.i0
     | false =>
      refine Br.no rfl (Go0 ?_)
      have hbf : ¬ badF c d = true := by rw [QfQ, hL, c5]; exact Bool.false_ne_true
      refine Lp.mkK hΓ (ι := Nat) [2, 3, 4, 8, 9, 10] (fun k => [(11, .c (.int .i64 k))]) (fun k => [.vr c.cells, .vr d.cells, .vr (default : Img).cells, .vr (Bas.cells (⟨0, 1, 1, []⟩ : Bas))]) (fun k => k ≤ ((⟨0, 1, 1, []⟩ : Bas)).ents.length ∧ ∀ j, j < k → (QO (⟨0, 1, 1, []⟩ : Bas) L (((⟨0, 1, 1, []⟩ : Bas)).ents.getD j default).block).isNone = false) (fun k => ((⟨0, 1, 1, []⟩ : Bas)).ents.length - k) 0 ⟨Nat.zero_le _, fun i hi => absurd hi (Nat.not_lt_zero _)⟩ ?_ ?_
      ·exact Mv.k0
      ·rintro k ⟨hk, hk2⟩
       refine Go1 fun _h=>?_
       refine Br.of (fun h6=>Go0 ?_) (fun h6=>Go0 ?_)
       ·have w0 := Qa (↑k + 1) (by omega) (by omega)
        have hkl : k < ((⟨0, 1, 1, []⟩ : Bas)).ents.length := Int.ofNat_lt.1 h6
        refine Dr.mkE hΓ hMix [] [(11, 13)] (by kernel_rfl) (Go0 ?_)
        refine CallP.auto QdN (QdK (⟨0, 1, 1, []⟩ : Bas) L (((⟨0, 1, 1, []⟩ : Bas)).ents.getD k default).block (by omega) (by omega) ) (Go0 ?_)
        cases c6 : (QO (⟨0, 1, 1, []⟩ : Bas) L (((⟨0, 1, 1, []⟩ : Bas)).ents.getD k default).block).isNone with
        | true =>
         refine Br.yes (by rw [Option.isNone_iff_eq_none.1 c6]; rfl) (Go0 ?_)
         have hlo : QcN c d = true := by unfold QcN; rw [hb, hL]; exact (QbW (p := fun e => (QO (⟨0, 1, 1, []⟩ : Bas) L e.block).isNone) hkl c6 hk2).1
         have e : QH c d = 14 := by unfold QH; rw [if_pos h1, if_pos h2, if_pos h3, if_neg hbf, if_pos hlo]
         rw [hno e (by decide), e]
         exact RM.i0
        | false =>
         refine Br.no (by rw [← Option.not_isNone, c6]; rfl) (Go0 ?_)
         refine ⟨k + 1, ⟨by omega, fun j hj => ?_⟩, by omega, ?_⟩
         ·rcases Nat.lt_succ_iff_lt_or_eq.1 hj with q | rfl
          ·exact hk2 j q
          ·exact c6
         ·exact Mv.k0
       ·have hke : k = ((⟨0, 1, 1, []⟩ : Bas)).ents.length := Nat.le_antisymm hk (Int.ofNat_le.1 h6)
        have hlo : ¬ QcN c d = true := by
         unfold QcN
         rw [hb, hL]
         intro q
         have z := QbP (l := ((⟨0, 1, 1, []⟩ : Bas)).ents) (p := fun e => (QO (⟨0, 1, 1, []⟩ : Bas) L e.block).isNone) (fun j hj => hk2 j (by rw [hke]; exact hj))
         rw [z] at q
         cases q
        have e : QH c d = 0 := by unfold QH; rw [if_pos h1, if_pos h2, if_pos h3, if_neg hbf, if_neg hlo]
        have ei : QbQ c d = QaP c d := if_pos e
        rw [ei, e]
        refine CallN.pureA QgV (Qhd c.shards (by omega) (by omega) ) (Go0 ?_)
        refine Lp.mkK hΓ (ι := Nat) [2, 3, 4, 8, 9, 10, 14] (fun i => [(16, .c (.int .i64 i))]) (fun i => [.vr c.cells, .vr d.cells, .vr (default : Img).cells, .vr (Bas.cells (⟨0, 1, 1, []⟩ : Bas)), .vr [Qh (QaZ (QbX c.shards) (Qal (⟨0, 1, 1, []⟩ : Bas) L i))]]) (fun i => i ≤ c.blocks.toNat) (fun i => c.blocks.toNat - i) 0 (Nat.zero_le _) ?_ ?_
        ·exact Mv.k0
        ·rintro i hi
         have hml : (QaZ (QbX c.shards) (Qal (⟨0, 1, 1, []⟩ : Bas) L i)).length = c.shards.toNat := by rw [Qe3]; exact List.length_replicate
         have hms := Qgb (Qf0 c.shards) (Qal (⟨0, 1, 1, []⟩ : Bas) L i)
         have hwl := Qe9 (⟨0, 1, 1, []⟩ : Bas) L i
         refine Go0 ?_
         refine Br.of (fun h7=>Go0 ?_) (fun h7=>Go0 ?_)
         ·have w0 := Qa (↑i + 1) (by omega) (by omega)
          refine CallN.pureA QdN (QdK (⟨0, 1, 1, []⟩ : Bas) L i (by omega) (by omega) ) (Go0 ?_)
          cases c7 : QO (⟨0, 1, 1, []⟩ : Bas) L i with
          | none =>
           refine Br.no rfl (Go0 ?_)
           refine ⟨i + 1, by omega, by omega, ?_⟩
           rw [QdD, show QaI (⟨0, 1, 1, []⟩ : Bas) L i = [] by unfold QaI; rw [c7], List.append_nil]
           exact Mv.k0
          | some f =>
           by_cases c8 : f.r.kind = 1 ∨ ((⟨0, 1, 1, []⟩ : Bas)).cut ≤ f.r.version
           ·refine Br.yes (win_cond.2 c8) (Go0 ?_)
            refine CallN.pureA Qge (Qgk (QaZ (QbX c.shards) (Qal (⟨0, 1, 1, []⟩ : Bas) L i)) ⟨i, f.r.kind, f.r.version, f.r.move, f.zone, f.offset⟩ (by omega) (fun j => by have := hms j; omega) ) (Go0 ?_)
            refine ⟨i + 1, by omega, by omega, ?_⟩
            rw [QdD, show QaI (⟨0, 1, 1, []⟩ : Bas) L i = [⟨i, f.r.kind, f.r.version, f.r.move, f.zone, f.offset⟩] by unfold QaI; rw [c7]; exact if_pos c8, QfU]
            exact Mv.k0
           ·refine Br.no (Bool.eq_false_iff.2 fun q => c8 (win_cond.1 q)) (Go0 ?_)
            refine ⟨i + 1, by omega, by omega, ?_⟩
            rw [QdD, show QaI (⟨0, 1, 1, []⟩ : Bas) L i = [] by unfold QaI; rw [c7]; exact if_neg c8, List.append_nil]
            exact Mv.k0
         ·have hie : i = c.blocks.toNat := by omega
          subst hie
          have wn : IntKind.i64.wrap (((⟨0, 1, 1, []⟩ : Bas)).next - 1) = ((⟨0, 1, 1, []⟩ : Bas)).next - 1 := Qa _ (by omega) (by omega)
          refine Dr.mk hΓ hMix (by kernel_rfl) (Go0 ?_)
          refine CallP.auto Qg9 (QgP L (by omega) ) (Go0 ?_)
          rw [wn, bsq]
          rw [show QaP c d = ⟨QaZ (QbX c.shards) (Qal (⟨0, 1, 1, []⟩ : Bas) L c.blocks.toNat), max (Qcs L) (((⟨0, 1, 1, []⟩ : Bas)).next - 1), (Qg c d).1.seq, (Qg c d).2⟩ by unfold QaP winL; rw [hb, hL]]
          exact RM.i0
    ·have hb : QbH c d = (Qg c d).1 := if_neg h4
     refine Br.no (decide_eq_false h4) (Go0 ?_)
     rw [hb] at b1 b2 b3 b4 bsq
     refine CallN.pureA QiG (QjG c d hd ) (Go0 ?_)
     rw [hL]
     refine CallN.pureA QjE (QiC c d L hd (by omega) ) (Go0 ?_)
     cases c5 : badL c d L with
     | true =>
      refine Br.yes rfl (Go0 ?_)
      have e : QH c d = 14 := by unfold QH; rw [if_pos h1, if_pos h2, if_pos h3, if_pos (by rw [QfQ, hL]; exact c5)]
      rw [hno e (by decide), e]
      exact RM.i0
     | false =>
      refine Br.no rfl (Go0 ?_)
      have hbf : ¬ badF c d = true := by rw [QfQ, hL, c5]; exact Bool.false_ne_true
      refine Lp.mkK hΓ (ι := Nat) [2, 3, 4, 8, 9, 10] (fun k => [(11, .c (.int .i64 k))]) (fun k => [.vr c.cells, .vr d.cells, .vr (default : Img).cells, .vr (Bas.cells (Qg c d).1)]) (fun k => k ≤ ((Qg c d).1).ents.length ∧ ∀ j, j < k → (QO (Qg c d).1 L (((Qg c d).1).ents.getD j default).block).isNone = false) (fun k => ((Qg c d).1).ents.length - k) 0 ⟨Nat.zero_le _, fun i hi => absurd hi (Nat.not_lt_zero _)⟩ ?_ ?_
      ·exact Mv.k0
      ·rintro k ⟨hk, hk2⟩
       refine Go1 fun _h=>?_
       refine Br.of (fun h6=>Go0 ?_) (fun h6=>Go0 ?_)
       ·have w0 := Qa (↑k + 1) (by omega) (by omega)
        have hkl : k < ((Qg c d).1).ents.length := Int.ofNat_lt.1 h6
        refine Dr.mkE hΓ hMix [] [(11, 13)] (by kernel_rfl) (Go0 ?_)
        refine CallP.auto QdN (QdK (Qg c d).1 L (((Qg c d).1).ents.getD k default).block (by omega) (by omega) ) (Go0 ?_)
        cases c6 : (QO (Qg c d).1 L (((Qg c d).1).ents.getD k default).block).isNone with
        | true =>
         refine Br.yes (by rw [Option.isNone_iff_eq_none.1 c6]; rfl) (Go0 ?_)
         have hlo : QcN c d = true := by unfold QcN; rw [hb, hL]; exact (QbW (p := fun e => (QO (Qg c d).1 L e.block).isNone) hkl c6 hk2).1
         have e : QH c d = 14 := by unfold QH; rw [if_pos h1, if_pos h2, if_pos h3, if_neg hbf, if_pos hlo]
         rw [hno e (by decide), e]
         exact RM.i0
        | false =>
         refine Br.no (by rw [← Option.not_isNone, c6]; rfl) (Go0 ?_)
         refine ⟨k + 1, ⟨by omega, fun j hj => ?_⟩, by omega, ?_⟩
         ·rcases Nat.lt_succ_iff_lt_or_eq.1 hj with q | rfl
          ·exact hk2 j q
          ·exact c6
         ·exact Mv.k0
       ·have hke : k = ((Qg c d).1).ents.length := Nat.le_antisymm hk (Int.ofNat_le.1 h6)
        have hlo : ¬ QcN c d = true := by
         unfold QcN
         rw [hb, hL]
         intro q
         have z := QbP (l := ((Qg c d).1).ents) (p := fun e => (QO (Qg c d).1 L e.block).isNone) (fun j hj => hk2 j (by rw [hke]; exact hj))
         rw [z] at q
         cases q
        have e : QH c d = 0 := by unfold QH; rw [if_pos h1, if_pos h2, if_pos h3, if_neg hbf, if_neg hlo]
        have ei : QbQ c d = QaP c d := if_pos e
        rw [ei, e]
        refine CallN.pureA QgV (Qhd c.shards (by omega) (by omega) ) (Go0 ?_)
        refine Lp.mkK hΓ (ι := Nat) [2, 3, 4, 8, 9, 10, 14] (fun i => [(16, .c (.int .i64 i))]) (fun i => [.vr c.cells, .vr d.cells, .vr (default : Img).cells, .vr (Bas.cells (Qg c d).1), .vr [Qh (QaZ (QbX c.shards) (Qal (Qg c d).1 L i))]]) (fun i => i ≤ c.blocks.toNat) (fun i => c.blocks.toNat - i) 0 (Nat.zero_le _) ?_ ?_
        ·exact Mv.k0
        ·rintro i hi
         have hml : (QaZ (QbX c.shards) (Qal (Qg c d).1 L i)).length = c.shards.toNat := by rw [Qe3]; exact List.length_replicate
         have hms := Qgb (Qf0 c.shards) (Qal (Qg c d).1 L i)
         have hwl := Qe9 (Qg c d).1 L i
         refine Go0 ?_
         refine Br.of (fun h7=>Go0 ?_) (fun h7=>Go0 ?_)
         ·have w0 := Qa (↑i + 1) (by omega) (by omega)
          refine CallN.pureA QdN (QdK (Qg c d).1 L i (by omega) (by omega) ) (Go0 ?_)
          cases c7 : QO (Qg c d).1 L i with
          | none =>
           refine Br.no rfl (Go0 ?_)
           refine ⟨i + 1, by omega, by omega, ?_⟩
           rw [QdD, show QaI (Qg c d).1 L i = [] by unfold QaI; rw [c7], List.append_nil]
           exact Mv.k0
          | some f =>
           by_cases c8 : f.r.kind = 1 ∨ ((Qg c d).1).cut ≤ f.r.version
           ·refine Br.yes (win_cond.2 c8) (Go0 ?_)
            refine CallN.pureA Qge (Qgk (QaZ (QbX c.shards) (Qal (Qg c d).1 L i)) ⟨i, f.r.kind, f.r.version, f.r.move, f.zone, f.offset⟩ (by omega) (fun j => by have := hms j; omega) ) (Go0 ?_)
            refine ⟨i + 1, by omega, by omega, ?_⟩
            rw [QdD, show QaI (Qg c d).1 L i = [⟨i, f.r.kind, f.r.version, f.r.move, f.zone, f.offset⟩] by unfold QaI; rw [c7]; exact if_pos c8, QfU]
            exact Mv.k0
           ·refine Br.no (Bool.eq_false_iff.2 fun q => c8 (win_cond.1 q)) (Go0 ?_)
            refine ⟨i + 1, by omega, by omega, ?_⟩
            rw [QdD, show QaI (Qg c d).1 L i = [] by unfold QaI; rw [c7]; exact if_neg c8, List.append_nil]
            exact Mv.k0
         ·have hie : i = c.blocks.toNat := by omega
          subst hie
          have wn : IntKind.i64.wrap (((Qg c d).1).next - 1) = ((Qg c d).1).next - 1 := Qa _ (by omega) (by omega)
          refine Dr.mk hΓ hMix (by kernel_rfl) (Go0 ?_)
          refine CallP.auto Qg9 (QgP L (by omega) ) (Go0 ?_)
          rw [wn, bsq]
          rw [show QaP c d = ⟨QaZ (QbX c.shards) (Qal (Qg c d).1 L c.blocks.toNat), max (Qcs L) (((Qg c d).1).next - 1), (Qg c d).1.seq, (Qg c d).2⟩ by unfold QaP winL; rw [hb, hL]]
          exact RM.i0
   ·refine Br.yes (Decidable.byContradiction fun q => h3 ?_) ?_
    ·by_cases g : (d.zones.length : Int) = c.zones
     ·by_cases g2 : d.size = c.size
      ·exact ⟨g, g2⟩
      ·exact absurd (by rw [bne_iff_ne.2 g2]; simp) q
     ·exact absurd (by rw [bne_iff_ne.2 g]; simp) q
    ·refine Go0 ?_
     have e : QH c d = 11 := by unfold QH; rw [if_pos h1, if_pos h2, if_neg h3]
     rw [hno e (by decide), e]
     exact RM.i0
  ·refine Br.yes (by simpa using h2) (Go0 ?_)
   have e : QH c d = check d := by unfold QH; rw [if_pos h1, if_neg h2]
   rw [hno e h2, e]
   exact RM.i0
 ·refine Br.yes (by simpa using h1) (Go0 ?_)
  have e : QH c d = Qn c := if_neg h1
  rw [hno e h1, e]
  exact RM.i0
theorem Qhu : HB 11 := hB Tryz.func11
end Go.Proofs
end
