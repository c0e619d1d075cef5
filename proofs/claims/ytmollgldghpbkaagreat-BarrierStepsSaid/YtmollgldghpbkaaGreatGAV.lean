/- Contracts, lemmas; no condition. -/
import Derived.Test.YtmollgldghpbkaaGreatStAV
import Derived.Test.YtmollgldghpbkaaGreatEvAV
set_option linter.all false
section
open Go Go.Am
namespace Go.Proofs
set_option maxRecDepth 20000
theorem Fw.ints {H : List O} {id e n t : Nat} {x : Bool} {g : Nat → Nat → C} {l : List Int} (hid : getL H id = some (.arr e 1 n g)) (ht : t = n) (hn : n = l.length) (hg : ∀ i, i < n → ∀ j, j < 1 → g i j = Qam .i64 l i j) : Fw H (.sl id 1 t t x) (Qi l) := by
 subst ht
 exact Fw.slP hid rfl hn hg (fun _ _ => rfl)
theorem Qek (a b : List Int) (z : Int) (ha : a.length ≤ 1000000) (hb : b.length ≤ 1000000) : PS 215 [.a [Qi a, Qi b], .c (.int .i64 z)] (.c (.bool (hasC a b z))) := by
 refine PSpec.rm ?_
 refine ov0 hΓ Tryz.func215 18 0 [.tmp 4] Tryz.ntmps215 Tryz.results215 ?_
 refine CallN.pureA Qbx (Qbs a b ha hb ) (Go0 ?_)
 refine RM.immW rfl (WS.c (WC.bool ?_))
 rw [Bool.eq_iff_iff, hasC_iff]
 simp
 grind
theorem Qer : HB 215 := hB Tryz.func215
theorem Qc8 (l : List Int) (i n : Int) (hl : l.length ≤ 1000000) (h0 : 0 ≤ i) (h1 : i < l.length) (hw : IntKind.i64.wrap (l.getD i.toNat default + n) = l.getD i.toNat default + n) : PS 216 [.c (Qi l), .c (.int .i64 i), .c (.int .i64 n)] (.c (Qi (QbN l i n))) := by
 have hi : i.toNat < l.length := by omega
 refine PSpec.rm ?_
 refine ov0 hΓ Tryz.func216 21 0 [.tmp 6] Tryz.ntmps216 Tryz.results216 ?_
 refine Frc.mk (.c (.int .i64 (l.getD i.toNat default))) rfl (Go0 ?_)
 refine RM.allC (Fw.ints rfl rfl (by simp) ?_)
 intro a _ b hb
 refine (QiQ hi a b hb).trans ?_
 unfold QbN
 rw [hw]
theorem Qc3 : HB 216 := hB Tryz.func216
theorem Qb1 (a b : List Int) (z : Int) (ha : a.length ≤ 1000000) (hb : b.length ≤ 1000000) : PS 170 [.a [Qi a, Qi b], .c (.int .i64 z)] (.t [.inr [Qi a, Qi (Qa1 a b z).1], .inl (.bool (Qa1 a b z).2)]) := by
 refine PSpec.rm ?_
 refine ov0 hΓ Tryz.func170 26 0 [.cell 4 34, .tmp 5] Tryz.ntmps170 Tryz.results170 ?_
 by_cases c : hasC a b z = true
 ·have c1 := hasC_iff.1 c
  have c2 := countsOk_iff2.1 c1.1
  have c3 := c2.2 z.toNat om
  have c4 := c1.2.1
  have hzb : z < b.length := by omega
  refine CallN.pureA Qer (Qek a b z ha hb ) (Go0 ?_)
  by_cases h : b.getD z.toNat default = 1099511627776
  ·refine Br.yes (by simp [-List.getD_eq_getElem?_getD, -Int.default_eq_zero, c, h]) ?_
   refine Go0 ?_
   rw [show Qa1 a b z = (b, false) from if_neg (fun k => k.2 h)]
   exact RM.i0
  ·refine Br.no (by simp [-List.getD_eq_getElem?_getD, -Int.default_eq_zero, c, h]) ?_
   refine Go0 ?_
   refine Dr.mk hΓ hMix (by kernel_rfl) (Go0 ?_)
   refine CallP.auto Qc3 (Qc8 b z 1 hb c1.2.1 hzb (Qa _ om om) ) (Go0 ?_)
   rw [show Qa1 a b z = (QbN b z 1, true) from if_pos ⟨c, h⟩]
   exact RM.i0
 ·refine CallN.pureA Qer (Qek a b z ha hb ) (Go0 ?_)
  refine Br.yes (by simp [c]) (Go0 ?_)
  rw [show Qa1 a b z = (b, false) from if_neg (fun k => c k.1)]
  exact RM.i0
theorem Qb3 : HB 170 := hB Tryz.func170
set_option maxHeartbeats 4000000 in
theorem Qdd (a b : List Int) (o f : Ent) (had is : Bool) (ha : a.length ≤ 1000000) (hb : b.length ≤ 1000000) : PS 176 [.a [Qi a, Qi b], .a o.cells, .a f.cells, .c (.bool had), .c (.bool is)] (.t [.inr [Qi (Qat a b o.zone f.zone had is).1, Qi b], .inl (.bool (Qat a b o.zone f.zone had is).2)]) := by
 refine PSpec.rm ?_
 refine ov0 hΓ Tryz.func176 61 0 [.cell 10 34, .tmp 11] Tryz.ntmps176 Tryz.results176 ?_
 refine CallN.pureA Qbx (Qbs a b ha hb ) (Go0 ?_)
 refine CallG.auto Qer (fun _ => Qek a b o.zone ha hb ) (Go0 ?_)
 refine CallG.auto Qer (fun _ => Qek a b f.zone ha hb ) (Go0 ?_)
 refine Need.mk (fun h => by rw [h]; rfl) (Go0 ?_)
 by_cases c : QC a b = true ∧ (had = true → hasC a b o.zone = true) ∧ (is = true → hasC a b f.zone = true)
 ·have c2 := countsOk_iff2.1 c.1
  refine Br.no (by cases had <;> cases is <;> simp_all) ?_
  refine Go0 ?_
  cases had <;> cases is
  ·refine Br.no rfl (Go0 ?_)
   refine Br.no rfl (Go0 ?_)
   refine CallN.pureA Qbx (Qbs a b ha hb ) (Go0 ?_)
   by_cases hv : QC (QdE a o.zone f.zone false false) b = true
   ·refine Br.no (congrArg not hv) (Go0 ?_)
    rw [show Qat a b o.zone f.zone false false = (QdE a o.zone f.zone false false, true) from if_pos ⟨c.1, c.2.1, c.2.2, hv⟩]
    exact RM.i0
   ·refine Br.yes (congrArg not (Qg hv)) (Go0 ?_)
    rw [show Qat a b o.zone f.zone false false = (a, false) from if_neg (fun k => hv k.2.2.2)]
    exact RM.i0
  ·have c4 := hasC_iff.1 (c.2.2 rfl)
   have c5 := c2.2 f.zone.toNat om
   refine Br.no rfl (Go0 ?_)
   refine Br.yes rfl (Go0 ?_)
   refine CallN.pureA Qc3 (Qc8 a f.zone 1 ha c4.2.1 c4.2.2 (Qa _ om om) ) (Go0 ?_)
   refine CallN.pureA Qbx (Qbs (QbN a f.zone 1) b (by simpa using ha) hb ) (Go0 ?_)
   by_cases hv : QC (QdE a o.zone f.zone false true) b = true
   ·refine Br.no (congrArg not hv) (Go0 ?_)
    rw [show Qat a b o.zone f.zone false true = (QdE a o.zone f.zone false true, true) from if_pos ⟨c.1, c.2.1, c.2.2, hv⟩]
    exact RM.i0
   ·refine Br.yes (congrArg not (Qg hv)) (Go0 ?_)
    rw [show Qat a b o.zone f.zone false true = (a, false) from if_neg (fun k => hv k.2.2.2)]
    exact RM.i0
  ·have c4 := hasC_iff.1 (c.2.1 rfl)
   have c5 := c2.2 o.zone.toNat om
   refine Br.yes rfl (Go0 ?_)
   refine CallN.pureA Qc3 (Qc8 a o.zone (-1) ha c4.2.1 c4.2.2 (Qa _ om om) ) (Go0 ?_)
   refine Br.no rfl (Go0 ?_)
   refine CallN.pureA Qbx (Qbs (QbN a o.zone (-1)) b (by simpa using ha) hb ) (Go0 ?_)
   by_cases hv : QC (QdE a o.zone f.zone true false) b = true
   ·refine Br.no (congrArg not hv) (Go0 ?_)
    rw [show Qat a b o.zone f.zone true false = (QdE a o.zone f.zone true false, true) from if_pos ⟨c.1, c.2.1, c.2.2, hv⟩]
    exact RM.i0
   ·refine Br.yes (congrArg not (Qg hv)) (Go0 ?_)
    rw [show Qat a b o.zone f.zone true false = (a, false) from if_neg (fun k => hv k.2.2.2)]
    exact RM.i0
  ·have c4 := hasC_iff.1 (c.2.1 rfl)
   have c5 := c2.2 o.zone.toNat om
   have c6 := hasC_iff.1 (c.2.2 rfl)
   have c7 := c2.2 f.zone.toNat om
   have c8 := QjD (n := -1) c4.2.1 c4.2.2 f.zone.toNat
   have c9 : -1 ≤ (QbN a o.zone (-1)).getD f.zone.toNat default ∧ (QbN a o.zone (-1)).getD f.zone.toNat default ≤ 1099511627776 := by
    rw [c8]; split <;> omega
   refine Br.yes rfl (Go0 ?_)
   refine CallN.pureA Qc3 (Qc8 a o.zone (-1) ha c4.2.1 c4.2.2 (Qa _ om om) ) (Go0 ?_)
   refine Br.yes rfl (Go0 ?_)
   refine CallN.pureA Qc3 (Qc8 (QbN a o.zone (-1)) f.zone 1 (by simpa using ha) c6.2.1 (by simpa using c6.2.2) (Qa _ om om) ) (Go0 ?_)
   refine CallN.pureA Qbx (Qbs (QbN (QbN a o.zone (-1)) f.zone 1) b (by simpa using ha) hb ) (Go0 ?_)
   by_cases hv : QC (QdE a o.zone f.zone true true) b = true
   ·refine Br.no (congrArg not hv) (Go0 ?_)
    rw [show Qat a b o.zone f.zone true true = (QdE a o.zone f.zone true true, true) from if_pos ⟨c.1, c.2.1, c.2.2, hv⟩]
    exact RM.i0
   ·refine Br.yes (congrArg not (Qg hv)) (Go0 ?_)
    rw [show Qat a b o.zone f.zone true true = (a, false) from if_neg (fun k => hv k.2.2.2)]
    exact RM.i0
 ·refine Br.yes (by
   refine Decidable.byContradiction fun e => c ?_
   cases had <;> cases is <;> simp_all) ?_
  refine Go0 ?_
  rw [show Qat a b o.zone f.zone had is = (a, false) from if_neg (fun k => c ⟨k.1, k.2.1, k.2.2.1⟩)]
  exact RM.i0
theorem Qda : HB 176 := hB Tryz.func176
theorem QfJ (o : List Int) (i : Int) (ho : o.length ≤ 1000000) : PS 168 [.a [Qi o], .c (.int .i64 i)] (.c (.bool (Qez o i))) := by
 refine PSpec.rm ?_
 refine ov0 hΓ Tryz.func168 26 0 [.tmp 4] Tryz.ntmps168 Tryz.results168 ?_
 refine CallN.pureA Qe7 (Qe4 o ho ) (Go0 ?_)
 refine RM.immW rfl (WS.c (WC.bool ?_))
 unfold Qez
 rw [Bool.eq_iff_iff]
 simp [-List.getD_eq_getElem?_getD]
 grind
theorem QfL : HB 168 := hB Tryz.func168
theorem Qrx (o : List Int) (i t : Int) (ho : o.length ≤ 1000000) (h0 : 0 ≤ i) (h1 : i < o.length) : PS 177 [.a [Qi o], .c (.int .i64 i), .c (.int .i64 t)] (.a [Qi (o.set i.toNat t)]) := by
 have hi : i.toNat < o.length := by omega
 refine PSpec.rm ?_
 refine ov0 hΓ Tryz.func177 18 0 [.cell 6 36] Tryz.ntmps177 Tryz.results177 ?_
 exact RM.allA (FwL.cons (Fw.ints rfl rfl (by simp) (fun a _ b hb => QiQ hi a b hb)) FwL.nil)
theorem QqR : HB 177 := hB Tryz.func177
theorem freeL_iff {o : List Int} {i : Int} : Qez o i = true ↔ Qaj o = true ∧ 0 ≤ i ∧ i < o.length ∧ o.getD i.toNat default = -1 := by
 unfold Qez; rw [Bool.and_eq_true, decide_eq_true_eq]
theorem QdZ (o : List Int) (i t : Int) (ho : o.length ≤ 1000000) : PS 103 [.a [Qi o], .c (.int .i64 i), .c (.int .i64 t)] (.t [.inr [Qi (Qbm o i t).1], .inl (.bool (Qbm o i t).2)]) := by
 refine PSpec.rm ?_
 refine ov0 hΓ Tryz.func103 21 0 [.cell 6 36, .tmp 7] Tryz.ntmps103 Tryz.results103 ?_
 refine CallN.pureA QfL (QfJ o i ho ) (Go0 ?_)
 by_cases c : Qez o i = true ∧ 0 ≤ t
 ·have c1 := freeL_iff.1 c.1
  refine Br.no (by simp [c.1]; omega) (Go0 ?_)
  refine CallN.pureA QqR (Qrx o i t ho c1.2.1 c1.2.2.1 ) (Go0 ?_)
  rw [show Qbm o i t = (o.set i.toNat t, true) from if_pos c]
  exact RM.i0
 ·refine Br.yes (by
   refine Decidable.byContradiction fun e => c ?_
   simp at e
   exact ⟨e.1, om⟩) ?_
  refine Go0 ?_
  rw [show Qbm o i t = (o, false) from if_neg c]
  exact RM.i0
theorem Qd0 : HB 103 := hB Tryz.func103
theorem QrB (g : Int) (p : List Int) (r : List Ret) (q v : Int) (hp : p.length ≤ 1000000) (h0 : 0 ≤ q) (h1 : q < p.length) : PS 165 [.a [.int .i64 g, Qi p, retC r], .c (.int .i64 q), .c (.int .i64 v)] (.a [.int .i64 g, Qi (p.set q.toNat v), retC r]) := by
 have hi : q.toNat < p.length := by omega
 refine PSpec.rm ?_
 refine ov0 hΓ Tryz.func165 18 0 [.cell 6 39] Tryz.ntmps165 Tryz.results165 ?_
 exact RM.allA (FwL.cons (Fw.same rfl) (FwL.cons (Fw.ints rfl rfl (by simp) (fun a _ b hb => QiQ hi a b hb)) (FwL.cons (Fw.same rfl) FwL.nil)))
theorem Qqs : HB 165 := hB Tryz.func165
theorem Qse (g : Int) (p : List Int) (r : List Ret) (q : Int) (hp : p.length ≤ 1000000) (hr : r.length ≤ 1000000) : PS 96 [.a [.int .i64 g, Qi p, retC r], .c (.int .i64 q)] (.t [.inr [.int .i64 g, Qi (pinM g p r q).1, retC r], .inl (.bool (pinM g p r q).2)]) := by
 refine PSpec.rm ?_
 refine ov0 hΓ Tryz.func96 34 0 [.cell 4 39, .tmp 5] Tryz.ntmps96 Tryz.results96 ?_
 refine CallN.pureA QcJ (QcL g p r hp hr ) (Go0 ?_)
 by_cases c : QA g p r = true ∧ 0 ≤ q ∧ q < p.length ∧ p.getD q.toNat default = -1
 ·refine Br.no (Bool.eq_false_iff.2 fun ebye => by simp [-List.getD_eq_getElem?_getD, -Int.default_eq_zero, c.1,c.2.1,c.2.2.1,c.2.2.2] at ebye <;> grind) ?_; conv=>whnf
  refine Go0 ?_
  refine CallN.pureA Qqs (QrB g p r q g hp c.2.1 c.2.2.1 ) (Go0 ?_)
  rw [show pinM g p r q = (p.set q.toNat g, true) from if_pos c]
  exact RM.i0
 ·refine Br.yes (Decidable.byContradiction fun ebye => c (by simp [-List.getD_eq_getElem?_getD, -Int.default_eq_zero] at ebye <;> grind)) ?_; conv=>whnf
  refine Go0 ?_
  rw [show pinM g p r q = (p, false) from if_neg c]
  exact RM.i0
theorem Qsb : HB 96 := hB Tryz.func96
theorem QkN (g : Int) (p : List Int) (r : List Ret) (z : Int) (hr : r.length ≤ 1000000) : PS 217 [.a [.int .i64 g, Qi p, retC r], .c (.int .i64 z)] (.c (.bool (QaX r z))) := by
 refine PSpec.rm ?_
 refine ov hΓ Tryz.func217 11 0 [.tmp 4] Tryz.ntmps217 Tryz.results217 ?_
 refine Go1 fun _h=>?_
 refine CallN.pureA Qfa (QeV g p r z r.length hr (Nat.le_refl _) ) (Go0 ?_)
 rw [List.take_length]
 exact RM.i0
theorem Qkw : HB 217 := hB Tryz.func217
theorem Qu0 {l : List Ret} {x : Ret} {t : List C} {n i j : Nat} (hn : n = l.length) (hi : i < l.length + 1) (hj : j < 2) : appG (retG l) n (QaC 2 (.int .i64 x.zone :: .int .i64 x.epoch :: t)) i j = retG (l ++ [x]) i j :=
 Qb8 (f := Ret.cell) hn (fun j hj => by
  match j, hj with
  | 0, _ => rfl
  | 1, _ => rfl) hi hj
theorem QlC (g : Int) (p : List Int) (r : List Ret) (z : Int) (hp : p.length ≤ 1000000) (hr : r.length ≤ 1000000) : PS 93 [.a [.int .i64 g, Qi p, retC r], .c (.int .i64 z)] (.t [.inr [.int .i64 g, Qi p, retC (Qau g p r z).1], .inl (.bool (Qau g p r z).2)]) := by
 refine PSpec.rm ?_
 refine ov0 hΓ Tryz.func93 34 0 [.cell 4 39, .tmp 5] Tryz.ntmps93 Tryz.results93 ?_
 refine CallN.pureA QcJ (QcL g p r hp hr ) (Go0 ?_)
 refine CallG.auto Qfa (fun _ => QeV g p r z r.length hr (Nat.le_refl _) ) (Go0 ?_)
 rw [List.take_length]
 by_cases c : QA g p r = true ∧ 0 ≤ z ∧ QaX r z = false
 ·refine Br.no (Bool.eq_false_iff.2 fun ebye => by simp [-List.getD_eq_getElem?_getD, -Int.default_eq_zero, c.1,c.2.1,c.2.2] at ebye <;> grind) ?_; conv=>whnf
  refine Go0 ?_
  refine Dr.mkE hΓ hMix [4294967296] [(4, 3), (5, 3), (6, 3), (7, 3), (8, 3)] (by kernel_rfl) (Go0 ?_)
  rw [show Qau g p r z = (r ++ [⟨z, g⟩], true) from if_pos c]
  refine RM.allT (FwT.consL (FwL.cons (Fw.same rfl) (FwL.cons (Fw.same rfl) (FwL.cons (Fw.slP rfl rfl (by simp) (fun i hi j hj => Qu0 (x := ⟨z, g⟩) (by simp) om hj) (fun i j => QfC _ _)) FwL.nil))) (FwT.consC (Fw.same rfl) FwT.nil))
 ·refine Br.yes (Decidable.byContradiction fun ebye => c (by simp [-List.getD_eq_getElem?_getD, -Int.default_eq_zero] at ebye <;> grind)) ?_; conv=>whnf
  refine Go0 ?_
  rw [show Qau g p r z = (r, false) from if_neg c]
  exact RM.i0
theorem QlI : HB 93 := hB Tryz.func93
theorem QgK (g : Int) (p : List Int) (r : List Ret) (hp : p.length ≤ 1000000) (hr : r.length ≤ 1000000) : PS 94 [.a [.int .i64 g, Qi p, retC r]] (.t [.inr [.int .i64 (advM g p r).1, Qi p, retC r], .inl (.bool (advM g p r).2)]) := by
 refine PSpec.rm ?_
 refine ov0 hΓ Tryz.func94 43 0 [.cell 2 39, .tmp 3] Tryz.ntmps94 Tryz.results94 ?_
 refine CallN.pureA QcJ (QcL g p r hp hr ) (Go0 ?_)
 by_cases c : QA g p r = true ∧ g ≠ 1099511627776
 ·have hg : 0 ≤ g ∧ g ≤ 1099511627776 := by
   have := c.1
   unfold QA at this
   rw [Bool.and_eq_true, decide_eq_true_eq] at this
   omega
  have w1 := Qa (g + 1) om om
  refine Br.no (by simp [c.1]; exact c.2) (Go0 ?_)
  refine Lp.mkK hΓ (ι := Nat) [1, 2] (fun i => [(4, .c (.int .i64 i))]) (fun _ => [.vr [.int .i64 g, Qi p, retC r], .vr [.int .i64 0, Qi [], retC []]]) (fun k => k ≤ p.length ∧ ∀ i, i < k → p.getD i default = -1 ∨ p.getD i default = g) (fun i => p.length - i) 0 ⟨Nat.zero_le _, fun j hj => absurd hj (Nat.not_lt_zero _)⟩ ?_ ?_
  ·exact Mv.k0
  ·rintro k ⟨hk, hk2⟩
   refine Go1 fun _h=>?_
   refine Br.of (fun h1=>Go0 ?_) (fun h1=>Go0 ?_)
   ·refine Dr.mk hΓ hMix (by kernel_rfl) (Go0 ?_)
    have w0 := Qa (↑k + 1) om om
    by_cases d : p.getD k default = -1 ∨ p.getD k default = g
    ·refine Br.no (Bool.eq_false_iff.2 fun ebye => by simp [-List.getD_eq_getElem?_getD, -Int.default_eq_zero, d] at ebye <;> grind) ?_; conv=>whnf
     refine Go0 ?_
     refine ⟨k + 1, ⟨om, QD hk2 d⟩, om, ?_⟩
     exact Mv.k0
    ·refine Br.yes (Decidable.byContradiction fun ebye => d (by simp [-List.getD_eq_getElem?_getD, -Int.default_eq_zero] at ebye <;> grind)) ?_; conv=>whnf
     refine Go0 ?_
     rw [show advM g p r = (g, false) from if_neg fun z => by
      have := z.2.2
      unfold Qm3 at this
      rw [decide_eq_true_eq] at this
      exact d (this k om)]
     exact RM.i0
   ·rw [show advM g p r = (g + 1, true) from if_pos ⟨c.1, c.2, decide_eq_true fun i hi => hk2 i om⟩]
    exact RM.i0
 ·refine Br.yes (by
   refine Decidable.byContradiction fun e => c ?_
   simp at e
   exact e) ?_
  refine Go0 ?_
  rw [show advM g p r = (g, false) from if_neg fun z => c ⟨z.1, z.2.1⟩]
  exact RM.i0
theorem Qgw : HB 94 := hB Tryz.func94
def Qdy (c : Conf) (slot : Int) : List Int := if Qw c = 0 ∧ 0 ≤ slot ∧ slot ≤ 1 then tabL (fun k => slot * Qo c + (k : Nat)) (Qo c).toNat else []
theorem Qiy (c : Conf) (slot : Int) : PS 107 [.a c.cells, .c (.int .i64 slot)] (.c (Qi (Qdy c slot))) := by
 refine PSpec.rm ?_
 refine ov0 hΓ Tryz.func107 36 0 [.tmp 4] Tryz.ntmps107 Tryz.results107 ?_
 refine CallN.pureA Qcs (Qcq c ) (Go0 ?_)
 by_cases h : Qw c = 0 ∧ 0 ≤ slot ∧ slot ≤ 1
 ·have hr := (Qv h.1).1
  have hs := Qae hr
  refine Br.no (Bool.eq_false_iff.2 fun ebye => by simp [-List.getD_eq_getElem?_getD, -Int.default_eq_zero, h.1,h.2.1,h.2.2] at ebye <;> grind) ?_; conv=>whnf
  refine Go0 ?_
  refine CallN.pureA QgF (Qgn c hr ) (Go0 ?_)
  refine Lp.reserve 3 1 (Qam .i64 []) 5 rfl ?_
  refine Lp.mkK hΓ (ι := Nat) [1, 4, 6] (fun k => [(7, .c (.int .i64 k)), (5, .c (.sl 1 1 k k false))]) (fun k => [.vr c.cells, .arr 3 1 k (Qam .i64 (tabL (fun k => slot * Qo c + (k : Nat)) k))]) (fun k => k ≤ (Qo c).toNat) (fun k => (Qo c).toNat - k) 0 (Nat.zero_le _) ?_ ?_
  ·exact Mv.k0
  ·intro k hk
   refine Go0 ?_
   have hsl : slot = 0 ∨ slot = 1 := by omega
   refine Br.of (fun h1=>Go0 ?_) (fun h1=>Go0 ?_)
   ·have w0 := Qa (↑k + 1) om om
    refine ⟨k + 1, om, om, ?_⟩
    refine Mv.k1 ?_
    intro i hi j hj
    have e1 : IntKind.i64.wrap (IntKind.i64.wrap (slot * Qo c) + (k : Int)) = slot * Qo c + (k : Nat) := by
     rcases hsl with rfl | rfl
     ·rw [Qa (0 * Qo c) om om, Qa _ om om]
     ·rw [Qa (1 * Qo c) om om, Qa _ om om]
    rw [e1, Qs1]
    exact WC.eq (Qdg (by simp) (by simp; omega) hj) rfl
   ·have : k = (Qo c).toNat := by omega
    subst this
    rw [show Qdy c slot = tabL (fun k => slot * Qo c + (k : Nat)) (Qo c).toNat from if_pos h]
    exact RM.allC (Fw.ints rfl rfl (by simp) (fun _ _ _ _ => rfl))
 ·refine Br.yes (Decidable.byContradiction fun ebye => h (by simp [-List.getD_eq_getElem?_getD, -Int.default_eq_zero] at ebye <;> grind)) ?_; conv=>whnf
  refine Go0 ?_
  rw [show Qdy c slot = [] from if_neg h]
  exact RM.i0
theorem QiB : HB 107 := hB Tryz.func107
theorem QtC {l : List Int} {n : Int} {k : Nat} (hk : k < l.length) (h : l.getD k default = n) : n ∈ l := by
 rw [Qp _ _ hk] at h
 exact h ▸ List.getElem_mem hk
theorem Quy {l : List Int} {n : Int} (h : ∀ i, i < l.length → l.getD i default ≠ n) : n ∉ l := fun q => by
 obtain ⟨i, hi, e⟩ := List.getElem_of_mem q
 exact h i hi (by rw [Qp _ _ hi]; exact e)
theorem Qi9 (l : List Int) (n : Int) (hl : l.length ≤ 1000000) : PS 186 [.c (Qi l), .c (.int .i64 n)] (.c (.bool (decide (n ∈ l)))) := by
 refine PSpec.rm ?_
 refine ov0 hΓ Tryz.func186 18 0 [.tmp 4] Tryz.ntmps186 Tryz.results186 ?_
 refine Lp.mkK hΓ (ι := Nat) [0, 1] (fun i => [(5, .c (.int .i64 i))]) (fun _ => []) (fun k => k ≤ l.length ∧ ∀ i, i < k → l.getD i default ≠ n) (fun i => l.length - i) 0 ⟨Nat.zero_le _, fun j hj => absurd hj (Nat.not_lt_zero _)⟩ ?_ ?_
 ·exact Mv.k0
 ·rintro k ⟨hk, hk2⟩
  refine Go1 fun _h=>?_
  refine Br.of (fun h1=>Go0 ?_) (fun h1=>Go0 ?_)
  ·have w0 := Qa (↑k + 1) om om
   refine Br.of (fun h2=>Go0 ?_) (fun h2=>Go0 ?_)
   ·rw [decide_eq_true (QtC (l := l) om h2)]
    exact RM.i0
   ·refine ⟨k + 1, ⟨om, QD hk2 h2⟩, om, ?_⟩
    exact Mv.k0
  ·rw [decide_eq_false (Quy fun i hi => hk2 i om)]
   exact RM.i0
theorem QjE : HB 186 := hB Tryz.func186
theorem freeOk_iff2 {c : Conf} {l : List Int} : QdD c l = true ↔ ∀ i, i < l.length → QO c (l.getD i default) = true ∧ (0 < i → l.getD (i - 1) default < l.getD i default) := by
 unfold QdD
 rw [decide_eq_true_eq]
theorem poolOk_iff2 {c : Conf} {l : List Int} {h n : Int} : poolOk c l h n = true ↔ Qw c = 0 ∧ QdD c l = true ∧ QbY c l h = true ∧ QbY c l n = true ∧ (h = -1 ∨ h ≠ n) := by
 unfold poolOk
 simp only [Bool.and_eq_true, decide_eq_true_eq]
theorem laneOk_iff2 {c : Conf} {l : List Int} {h : Int} : QbY c l h = true ↔ h = -1 ∨ QO c h = true ∧ h ∉ l := by
 unfold QbY
 rw [decide_eq_true_eq]
set_option maxHeartbeats 4000000 in
theorem Qh1 (c : Conf) (l : List Int) (h n : Int) (hl : l.length ≤ 1000000) : PS 116 [.a [Qi l, .int .i64 h, .int .i64 n], .a c.cells] (.c (.bool (poolOk c l h n))) := by
 have no : ¬ poolOk c l h n = true → poolOk c l h n = false := Qg
 refine PSpec.rm ?_
 refine ov0 hΓ Tryz.func116 83 0 [.tmp 4] Tryz.ntmps116 Tryz.results116 ?_
 refine CallN.pureA Qcs (Qcq c ) (Go0 ?_)
 by_cases h0 : Qw c = 0
 ·refine Br.no (by simp [h0]) (Go0 ?_)
  refine Lp.mkK hΓ (ι := Nat) [2, 3] (fun i => [(5, .c (.int .i64 i))]) (fun _ => [.vr [Qi l, .int .i64 h, .int .i64 n], .vr c.cells]) (fun k => k ≤ l.length ∧ ∀ i, i < k → QO c (l.getD i default) = true ∧ (0 < i → l.getD (i - 1) default < l.getD i default)) (fun i => l.length - i) 0 ⟨Nat.zero_le _, fun j hj => absurd hj (Nat.not_lt_zero _)⟩ ?_ ?_
  ·exact Mv.k0
  ·rintro k ⟨hk, hk2⟩
   refine Go1 fun _h=>?_
   refine Br.of (fun h1=>Go0 ?_) (fun h1=>Go0 ?_)
   ·refine Dr.mk hΓ hMix (by kernel_rfl) (Go0 ?_)
    refine CallP.auto Qdv (Qdz c (l.getD k default) ) (Go0 ?_)
    have w0 := Qa (↑k + 1) om om
    rcases Nat.eq_zero_or_pos k with k0 | k0
    ·subst k0
     refine Go0 ?_
     by_cases d : QO c (l.getD 0 default) = true
     ·refine Br.no (Bool.eq_false_iff.2 fun ebye => by simp [-List.getD_eq_getElem?_getD, -Int.default_eq_zero, d] at ebye <;> grind) ?_; conv=>whnf
      refine Go0 ?_
      refine ⟨0 + 1, ⟨om, QD hk2 ⟨d, fun z => absurd z (Nat.lt_irrefl 0)⟩⟩, om, ?_⟩
      exact Mv.k0
     ·refine Br.yes (Decidable.byContradiction fun ebye => d (by simp [-List.getD_eq_getElem?_getD, -Int.default_eq_zero] at ebye <;> grind)) ?_; conv=>whnf
      refine Go0 ?_
      rw [no (fun z => d (freeOk_iff2.1 (poolOk_iff2.1 z).2.1 0 om).1)]
      exact RM.i0
    ·have w2 := Qa ((k : Int) - 1) om om
     have w3 : ((k : Int) - 1).toNat = k - 1 := by omega
     rw [w2]
     refine Go0 ?_
     rw [w3]
     by_cases d : QO c (l.getD k default) = true ∧ l.getD (k - 1) default < l.getD k default
     ·refine Br.no (Bool.eq_false_iff.2 fun ebye => by simp [-List.getD_eq_getElem?_getD, -Int.default_eq_zero, d.1,d.2] at ebye <;> grind) ?_; conv=>whnf
      refine Go0 ?_
      refine ⟨k + 1, ⟨om, QD hk2 ⟨d.1, fun _ => d.2⟩⟩, om, ?_⟩
      exact Mv.k0
     ·refine Br.yes (Decidable.byContradiction fun ebye => d (by simp [-List.getD_eq_getElem?_getD, -Int.default_eq_zero] at ebye <;> grind)) ?_; conv=>whnf
      refine Go0 ?_
      rw [no (fun z => d (by have := freeOk_iff2.1 (poolOk_iff2.1 z).2.1 k om; exact ⟨this.1, this.2 k0⟩))]
      exact RM.i0
   ·have hf : QdD c l = true := freeOk_iff2.2 fun i hi => hk2 i om
    refine Lp.roll hΓ 3 (Go0 ?_)
    refine Br.yes rfl (Go0 ?_)
    refine Dr.mk hΓ hMix (by kernel_rfl) (Go0 ?_)
    refine CallP.autoG Qdv (fun _ => Qdz c h ) (Go0 ?_)
    refine CallP.autoG QjE (fun _ => Qi9 l h hl ) (Go0 ?_)
    by_cases lh : QbY c l h = true
    ·have lh2 := laneOk_iff2.1 lh
     refine Br.no (Bool.eq_false_iff.2 fun ebye => by simp [-List.getD_eq_getElem?_getD, -Int.default_eq_zero, lh2] at ebye <;> grind) ?_; conv=>whnf
     refine Go0 ?_
     refine Br.yes rfl (Go0 ?_)
     refine Dr.mk hΓ hMix (by kernel_rfl) (Go0 ?_)
     refine CallP.autoG Qdv (fun _ => Qdz c n ) (Go0 ?_)
     refine CallP.autoG QjE (fun _ => Qi9 l n hl ) (Go0 ?_)
     by_cases ln : QbY c l n = true
     ·have ln2 := laneOk_iff2.1 ln
      refine Br.no (Bool.eq_false_iff.2 fun ebye => by simp [-List.getD_eq_getElem?_getD, -Int.default_eq_zero, ln2] at ebye <;> grind) ?_; conv=>whnf
      refine Go0 ?_
      refine Br.no rfl (Go0 ?_)
      refine RM.immW rfl (WS.c (WC.bool ?_))
      rw [Bool.eq_iff_iff, poolOk_iff2]
      simp [h0, hf, lh, ln]
     ·have ln2 := fun z => ln (laneOk_iff2.2 z)
      refine Br.yes (Decidable.byContradiction fun ebye => ln2 (by simp [-List.getD_eq_getElem?_getD, -Int.default_eq_zero] at ebye <;> grind)) ?_; conv=>whnf
      refine Go0 ?_
      rw [no (fun z => ln (poolOk_iff2.1 z).2.2.2.1)]
      exact RM.i0
    ·have lh2 := fun z => lh (laneOk_iff2.2 z)
     refine Br.yes (Decidable.byContradiction fun ebye => lh2 (by simp [-List.getD_eq_getElem?_getD, -Int.default_eq_zero] at ebye <;> grind)) ?_; conv=>whnf
     refine Go0 ?_
     rw [no (fun z => lh (poolOk_iff2.1 z).2.2.1)]
     exact RM.i0
 ·refine Br.yes (by simpa using h0) (Go0 ?_)
  rw [no (fun z => h0 (poolOk_iff2.1 z).1)]
  exact RM.i0
theorem Qha : HB 116 := hB Tryz.func116
end Go.Proofs
end
