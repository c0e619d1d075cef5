/- Contracts, lemmas; no condition. -/
import Derived.Test.YtmollgldghpbkaaGreatCtG
import Derived.Test.YtmollgldghpbkaaGreatModC
set_option linter.all false
section
open Go Go.Am
namespace Go.Proofs
set_option maxRecDepth 20000
theorem Qko {l : List Req} {x : Req} {t : List C} {n i j : Nat} (hn : n = l.length) (hi : i < l.length + 1) (hj : j < 4) : appG (reqG l) n (QaC 4 (.int .i64 x.serial :: .int .i64 x.kind :: .int .i64 x.block :: .str x.data :: t)) i j = reqG (l ++ [x]) i j :=
 Qb8 (f := Req.cell) hn (fun j hj => by
  match j, hj with
  | 0, _ => rfl
  | 1, _ => rfl
  | 2, _ => rfl
  | 3, _ => rfl) hi hj
theorem rowG_drop {α : Type} [Inhabited α] {f : α → Nat → C} {l : List α} {k i j : Nat} : rowG f (l.drop k) i j = rowG f l (k + i) j := by
 simp only [rowG, List.getD, List.getElem?_drop]
theorem QfQ (r : Rng) (hr : r.items.length ≤ 1000000) : PS 138 [.a r.cells] (.a r.cells) := by
 refine PSpec.rm ?_
 refine ov0 hΓ Tryz.func138 9 0 [.cell 2 98] Tryz.ntmps138 Tryz.results138 ?_
 refine Dr.mk hΓ hMix (by kernel_rfl) (Go0 ?_)
 refine CallP.auto QgU (QgT r.items om ) (Go0 ?_)
 exact RM.i0
theorem QfW : HB 138 := hB Tryz.func138
theorem QlF (r : Rng) (hr : r.items.length ≤ 1000000) : PS 60 [.a r.cells] (.t [.inr (Qah r).1.cells, .inr (Qah r).2.1.cells, .inl (.bool (Qah r).2.2)]) := by
 refine PSpec.rm ?_
 refine ov0 hΓ Tryz.func60 28 0 [.cell 2 98, .cell 3 66, .tmp 4] Tryz.ntmps60 Tryz.results60 ?_
 refine CallN.pureA QfW (QfQ r hr ) (Go0 ?_)
 refine CallN.pureA QcQ (QcY r hr ) (Go0 ?_)
 by_cases h : QX r = true ∧ 0 < r.items.length
 ·refine Br.no (Bool.eq_false_iff.2 fun ebye => by simp [-List.getD_eq_getElem?_getD, -Int.default_eq_zero, h.1] at ebye <;> grind) ?_; conv=>whnf
  refine Go0 ?_
  refine Dr.mkE hΓ hMix [] [(1, 5), (2, 5), (3, 5), (4, 5)] (by kernel_rfl) (Go0 ?_)
  rw [show Qah r = (⟨r.depth, r.items.drop 1⟩, r.items.getD 0 default, true) from if_pos h]
  refine RM.i1 ?_
  ·have e : (r.items.drop 1).length = r.items.length - 1 := by simp
   exact WC.leF rfl (leF.isl e.symm (fun i _ j _ => leF.of_eq rowG_drop.symm) (fun e => by cases e))
 ·refine Br.yes (Decidable.byContradiction fun ebye => h (by simp [-List.getD_eq_getElem?_getD, -Int.default_eq_zero] at ebye <;> grind)) ?_; conv=>whnf
  refine Go0 ?_
  rw [show Qah r = (r, default, false) from if_neg h]
  exact RM.i0
theorem QlX : HB 60 := hB Tryz.func60
theorem QoR {r : Rng} {x : Req} (h : ¬ QX r = true) : QU r x = (r, 6) := if_neg h
theorem QmL (r : Rng) (x : Req) (hr : r.items.length ≤ 1000000) : PS 65 [.a r.cells, .a x.cells] (.t [.inr (QU r x).1.cells, .inl (.int .i64 (QU r x).2)]) := by
 refine PSpec.rm ?_
 refine ov0 hΓ Tryz.func65 61 0 [.cell 4 98, .tmp 5] Tryz.ntmps65 Tryz.results65 ?_
 refine CallN.pureA QfW (QfQ r hr ) (Go0 ?_)
 refine CallN.pureA QcQ (QcY r hr ) (Go0 ?_)
 by_cases h : QX r = true
 ·refine Br.no (Bool.eq_false_iff.2 fun ebye => by simp [-List.getD_eq_getElem?_getD, -Int.default_eq_zero, h] at ebye <;> grind) ?_; conv=>whnf
  refine Go1 fun _h=>?_
  refine Br.of (fun h2=>Go0 ?_) (fun h2=>Go0 ?_)
  ·rw [show QU r x = (r, 13) by unfold QU; rw [if_pos h, if_pos h2]]
   exact RM.i0
  ·refine Dr.mk hΓ hMix (by kernel_rfl) (Go0 ?_)
   refine Need.mk (fun g => by
    simp only [Bool.cond_false_right, Bool.and_eq_true, decide_eq_true_eq, Bool.not_eq_true'] at g
    have w1 : IntKind.i64.wrap (↑r.items.length - 1) = ↑r.items.length - 1 := Qa _ om om
    rw [w1]; omega) ?_
   conv=>whnf
   refine Need.mk (fun g => by
    simp only [Bool.cond_false_right, Bool.and_eq_true, decide_eq_true_eq, Bool.not_eq_true'] at g
    have w1 : IntKind.i64.wrap (↑r.items.length - 1) = ↑r.items.length - 1 := Qa _ om om
    rw [w1]; omega) ?_
   refine Go0 ?_
   have hp : 0 < r.items.length → (IntKind.i64.wrap (↑r.items.length - 1)).toNat = r.items.length - 1 := fun h0 => by rw [Qa _ om om]; omega
   have hn : QU r x = if x.serial < 0 ∨ 0 < r.items.length ∧ x.serial ≤ (r.items.getD (r.items.length - 1) default).serial then (r, 17) else (⟨r.depth, r.items ++ [x]⟩, 0) := by
    unfold QU; rw [if_pos h, if_neg h2]
   by_cases c : x.serial < 0 ∨ 0 < r.items.length ∧ x.serial ≤ (r.items.getD (r.items.length - 1) default).serial
   ·refine Br.yes ?_ ?_
    ·rcases c with c | ⟨c, d⟩
     ·simp [c]
     ·rw [hp c]; simp [-List.getD_eq_getElem?_getD, d]; omega
    refine Go0 ?_
    rw [hn, if_pos c]
    exact RM.i0
   ·refine Br.no ?_ ?_
    ·refine Bool.eq_false_iff.2 fun e => c ?_
     by_cases c0 : 0 < r.items.length
     ·rw [hp c0] at e
      simp [-List.getD_eq_getElem?_getD] at e
      omega
     ·have : r.items.length = 0 := by omega
      simp [-List.getD_eq_getElem?_getD, this] at e
      omega
    refine Go1 fun _h=>?_
    refine Dr.mkE hΓ hMix [4294967296] [] (by kernel_rfl) (Go0 ?_)
    rw [hn, if_neg c]
    refine RM.allT (FwT.consL (FwL.cons (Fw.same rfl) (FwL.cons (Fw.slP rfl rfl (by simp) (fun i hi j hj => Qko (x := x) rfl hi hj) (fun _ _ => Qct _ _)) FwL.nil)) (FwT.consC (Fw.same rfl) FwT.nil))
 ·refine Br.yes (Decidable.byContradiction fun ebye => h (by simp [-List.getD_eq_getElem?_getD, -Int.default_eq_zero] at ebye <;> grind)) ?_; conv=>whnf
  refine Go0 ?_
  rw [QoR h]
  exact RM.i0
theorem QnL : HB 65 := hB Tryz.func65
theorem QjC {g g' : Nat → Nat → C} {k j0 : Nat} {ys : List C} {i j : Nat} (h : g i j = g' i j) : updG g k j0 ys i j = updG g' k j0 ys i j := by
 unfold updG
 rw [h]
theorem QsO {l : List Wrk} {q : Nat} {st : Int} (hq : q < l.length) (i j : Nat) (hj : j < 12) : updG (wrkG l) q 0 [.int .i64 st] i j = wrkG (l.set q { l.getD q default with state := st }) i j := by
 refine QcC hq (es := 12) (fun j hj => ?_) i j hj
 match j, hj with
 | 0, _ => rfl
 | 1, _ => rfl
 | 2, _ => rfl
 | 3, _ => rfl
 | 4, _ => rfl
 | 5, _ => rfl
 | 6, _ => rfl
 | 7, _ => rfl
 | 8, _ => rfl
 | 9, _ => rfl
 | 10, _ => rfl
 | 11, _ => rfl
theorem Qnz {α : Type} {l : List α} {q : Nat} {x d : α} (hq : q < l.length) : (l.set q x).getD q d = x := by
 simp [List.getD, hq]
theorem Qgv {l : List Wrk} {q : Nat} {w : Wrk} {st : Int} {ys : List C} (hq : q < l.length) (hy : ys = w.cells) (i j : Nat) (hj : j < 12) : updG (updG (wrkG l) q 0 ys) q 0 [.int .i64 st] i j = wrkG (l.set q { w with state := st }) i j := by
 rw [QjC (Qb0 hq hy i j hj), QsO (by simpa using hq) i j hj, Qnz hq, List.set_set]
set_option maxHeartbeats 8000000 in
theorem QqI (s : St) (hs : s.small) (l : List Ent) (hall : Qu s.map = true → AllS s.map l) (q : Int) : PS 21 [.a s.cells, .c (.int .i64 q)] (.t [.inr (Qn true s q).1.cells, .inl (.bool (Qn true s q).2)]) := by
 refine PSpec.rm ?_
 refine ov0 hΓ Tryz.func21 119 0 [.cell 4 58, .tmp 5] Tryz.ntmps21 Tryz.results21 ?_
 refine CallN.autoI [] QhG (Qhu s hs l hall) plh (Go0 ?_)
 refine Frc.mk (.c (.int .i64 (s.works.getD q.toNat default).state)) rfl (Go0 ?_)
 by_cases hc : Qz s = true ∧ 0 ≤ q ∧ q < s.works.length ∧ (s.works.getD q.toNat default).state = 0
 ·have hq0 := hc.2.1
  have hq1 := hc.2.2.1
  have hlen : s.rings.length = s.works.length := (Qgk (s := s) (by have := hc.1; unfold Qz at this; rw [Bool.and_eq_true] at this; exact this.1)).1
  have hq2 : q < s.rings.length := by omega
  have hq1' : q.toNat < s.works.length := by omega
  have hq2' : q.toNat < s.rings.length := by omega
  refine Br.no (Bool.eq_false_iff.2 fun ebye => by simp [-List.getD_eq_getElem?_getD, -Int.default_eq_zero, hc.1,hc.2.2.2] at ebye <;> grind) ?_; conv=>whnf
  refine Go0 ?_
  refine Frc.mk (.a (s.rings.getD q.toNat default).cells) rfl (Go0 ?_)
  refine CallN.pureA QlX (QlF (s.rings.getD q.toNat default) (hs.items _) ) (Go0 ?_)
  generalize ht : Qah (s.rings.getD q.toNat default) = t
  obtain ⟨r, x, ok⟩ := t
  cases ok with
  | false =>
   refine Br.yes rfl (Go0 ?_)
   rw [show Qn true s q = (s, false) by unfold Qn; rw [if_pos hc, ht]; rfl]
   refine RM.allT (FwT.consL (FwL.own (a := 2) (b := 3) (c := 4) rfl rfl rfl) (FwT.consC (Fw.same rfl) FwT.nil))
  | true =>
   refine Br.no rfl (Go0 ?_)
   refine Dr.mkE hΓ hMix [] [(9, 14), (11, 14), (12, 14)] (by kernel_rfl) (Go0 ?_)
   refine CallN.pureA QeX (QeR s.cfg x ) (Go0 ?_)
   by_cases he : cmdE s.cfg x = 0
   ·have hk : x.kind = 1 ∨ x.kind = 2 ∨ x.kind = 3 ∨ x.kind = 4 := by
     unfold cmdE at he
     split at he
     ·cases he
     ·omega
    have hb : Qn true s q = ((s.setRing q.toNat r).setWork q.toNat ⟨QaZ x.kind, x, default, ByteArray.empty⟩, true) := by
     unfold Qn; rw [if_pos hc, ht]; simp only [if_true, if_pos he]
    obtain ⟨ser, kind, block, data⟩ := x
    refine Br.no (by rw [he]; rfl) ?_
    rcases hk with hk | hk | hk | hk <;> simp only at hk <;> subst hk
    ·refine Go0 ?_
     rw [hb]
     refine RM.allT (FwT.consL (FwL.ownG ((s.setRing q.toNat r).setWork q.toNat ⟨QaZ 1, ⟨ser, 1, block, data⟩, default, ByteArray.empty⟩) (a := 2) (b := 3) (c := 4) rfl rfl rfl (List.length_set).symm (List.length_set).symm rfl (fun i _ j hj => QZ hq2' rfl i j hj) (fun i _ j hj => Qgv (w := ⟨0, ⟨ser, 1, block, data⟩, default, ByteArray.empty⟩) hq1' rfl i j hj) (fun _ _ _ _ => rfl)) (FwT.consC (Fw.same rfl) FwT.nil))
    ·refine Go0 ?_
     rw [hb]
     refine RM.allT (FwT.consL (FwL.ownG ((s.setRing q.toNat r).setWork q.toNat ⟨QaZ 2, ⟨ser, 2, block, data⟩, default, ByteArray.empty⟩) (a := 2) (b := 3) (c := 4) rfl rfl rfl (List.length_set).symm (List.length_set).symm rfl (fun i _ j hj => QZ hq2' rfl i j hj) (fun i _ j hj => Qgv (w := ⟨0, ⟨ser, 2, block, data⟩, default, ByteArray.empty⟩) hq1' rfl i j hj) (fun _ _ _ _ => rfl)) (FwT.consC (Fw.same rfl) FwT.nil))
    ·refine Go0 ?_
     rw [hb]
     refine RM.allT (FwT.consL (FwL.ownG ((s.setRing q.toNat r).setWork q.toNat ⟨QaZ 3, ⟨ser, 3, block, data⟩, default, ByteArray.empty⟩) (a := 2) (b := 3) (c := 4) rfl rfl rfl (List.length_set).symm (List.length_set).symm rfl (fun i _ j hj => QZ hq2' rfl i j hj) (fun i _ j hj => Qgv (w := ⟨0, ⟨ser, 3, block, data⟩, default, ByteArray.empty⟩) hq1' rfl i j hj) (fun _ _ _ _ => rfl)) (FwT.consC (Fw.same rfl) FwT.nil))
    ·refine Go0 ?_
     rw [hb]
     refine RM.allT (FwT.consL (FwL.ownG ((s.setRing q.toNat r).setWork q.toNat ⟨QaZ 4, ⟨ser, 4, block, data⟩, default, ByteArray.empty⟩) (a := 2) (b := 3) (c := 4) rfl rfl rfl (List.length_set).symm (List.length_set).symm rfl (fun i _ j hj => QZ hq2' rfl i j hj) (fun i _ j hj => Qgv (w := ⟨0, ⟨ser, 4, block, data⟩, default, ByteArray.empty⟩) hq1' rfl i j hj) (fun _ _ _ _ => rfl)) (FwT.consC (Fw.same rfl) FwT.nil))
   ·refine Br.yes (by simpa using he) (Go0 ?_)
    have lr : s.rings.length = ((s.setRing q.toNat r).setWork q.toNat ⟨0, x, default, ByteArray.empty⟩).rings.length := (List.length_set).symm
    have lw : s.works.length = ((s.setRing q.toNat r).setWork q.toNat ⟨0, x, default, ByteArray.empty⟩).works.length := (List.length_set).symm
    refine CallN.autoI [5,2,3,4] Qee (Qd4 ((s.setRing q.toNat r).setWork q.toNat ⟨0, x, default, ByteArray.empty⟩) true q x (cmdE s.cfg x) ByteArray.empty hs.evs) plh (h := by (repeat' (first | exact WA.nil | refine WA.cons rfl ?_ ?_ | exact WB.nil | refine WB.cons ?_ ?_ | exact WT.nil | refine WT.cons ?_ ?_ | exact WH.nil | refine WH.cons ?_ ?_ | exact WR.nil | refine WR.cons rfl ?_ ?_ | refine WO.vr ?_ | exact WO.dead | exact WO.mpS | refine WO.mpA ?_ | exact WO.arrPA (fun i j => Qb _ _ _) | refine WO.arrA ?_ | exact WS.u | refine WS.c ?_ | refine WS.a ?_ | refine WS.t ?_ | exact WL.nil | refine WL.cons ?_ ?_ | exact WTL.nil | refine WTL.consC ?_ ?_ | refine WTL.consL ?_ ?_ | exact WC.nils | exact WC.nil rfl | exact WC.nilp | refine WC.fzA | exact WC.ptr rfl leN | exact WC.mpr rfl leN | refine WC.slA | refine WC.intA | refine WC.int ?_ | refine WC.boolA | refine WC.bool ?_ | refine WC.strA | refine WC.str ?_ | exact WC.imm rfl)) <;> first | exact fun i _ j hj => WC.eq (QZ hq2' rfl i j hj) (QB _ _) | exact fun i _ j hj => WC.eq (Qb0 (w := ⟨0, x, default, ByteArray.empty⟩) hq1' rfl i j hj) (Qj _ _)) ?_; conv=>whnf
    have hw : q < (((s.setRing q.toNat r).setWork q.toNat ⟨0, x, default, ByteArray.empty⟩).addEv (QN true q x (cmdE s.cfg x) ByteArray.empty)).works.length := by
     show q < ((s.works.set q.toNat ⟨0, x, default, ByteArray.empty⟩).length : Int)
     rw [List.length_set]; exact hq1
    refine Go0 ?_
    rw [show Qn true s q = (((s.setRing q.toNat r).setWork q.toNat default).addEv (QN true q x (cmdE s.cfg x) ByteArray.empty), true) by
     unfold Qn; rw [if_pos hc, ht]; simp only [if_true, if_neg he]]
    refine RM.allT (FwT.consL (FwL.ownG (((s.setRing q.toNat r).setWork q.toNat default).addEv (QN true q x (cmdE s.cfg x) ByteArray.empty)) (a := 2) (b := 3) (c := 4) rfl rfl rfl rfl ?_ rfl (fun _ _ _ _ => rfl) ?_ (fun _ _ _ _ => rfl)) (FwT.consC (Fw.same rfl) FwT.nil))
    ·show (s.works.set q.toNat ⟨0, x, default, ByteArray.empty⟩).length = (s.works.set q.toNat default).length
     rw [List.length_set, List.length_set]
    ·intro i _ j hj
     refine (Qb0 (l := s.works.set q.toNat ⟨0, x, default, ByteArray.empty⟩) (q := q.toNat) (w := default) (by rw [List.length_set]; exact hq1') rfl i j hj).trans ?_
     rw [List.set_set]
     rfl
 ·refine Br.yes (Decidable.byContradiction fun ebye => hc (by simp [-List.getD_eq_getElem?_getD, -Int.default_eq_zero] at ebye <;> grind)) ?_; conv=>whnf
  refine Go0 ?_
  rw [show Qn true s q = (s, false) from if_neg hc]
  refine RM.allT (FwT.consL (FwL.own (a := 2) (b := 3) (c := 4) rfl rfl rfl) (FwT.consC (Fw.same rfl) FwT.nil))
theorem Qqo : HB 21 := hB Tryz.func21
theorem QmF {s : St} (h : Qz s = true) : QaH s = true := by
 unfold Qz at h; rw [Bool.and_eq_true] at h; exact h.1
theorem QsE (l : List Evt) : (Qcu l).length ≤ l.length := QdI l _
set_option maxHeartbeats 8000000 in
theorem Qox (s : St) (hs : s.small) (l : List Ent) (hall : Qu s.map = true → AllS s.map l) (q : Int) (x : Req) : PS 24 [.a s.cells, .c (.int .i64 q), .a [.int .i64 x.kind, .int .i64 x.block, .str x.data]] (.t [.inr (QI s q x).1.cells, .inl (.int .i64 (QI s q x).2)]) := by
 refine PSpec.rm ?_
 have he1 := hs.evs
 have he2 := QsE s.evs
 refine ov0 hΓ Tryz.func24 120 0 [.cell 6 58, .tmp 7] Tryz.ntmps24 Tryz.results24 ?_
 refine CallN.autoI [] QhG (Qhu s hs l hall) plh (Go0 ?_)
 by_cases hv : Qz s = true
 ·refine Br.no (by rw [hv]; rfl) (Go0 ?_)
  have hp := Qgk (QmF hv)
  by_cases hq : 0 ≤ q ∧ q < s.rings.length
  ·have hq0 := hq.1
   have hq1 := hq.2
   have hq2 : q.toNat < s.rings.length := by omega
   refine Br.no (Bool.eq_false_iff.2 fun ebye => by simp [-List.getD_eq_getElem?_getD, -Int.default_eq_zero, hv] at ebye <;> grind) ?_; conv=>whnf
   refine Go0 ?_
   refine Dr.mkE hΓ hMix [64] [(0, 7), (1, 7), (2, 7), (3, 7), (4, 7)] (by kernel_rfl) (Go0 ?_)
   refine CallE.reads QhH (PSpec.len (QhM s hs.evs)) (BwA.cons (BwS.a (BwL.own (a := 3) (b := 4) (c := 5) rfl rfl rfl)) BwA.nil) rfl (Go0 ?_)
   have w0 : IntKind.i64.wrap (↑s.evs.length + ↑(Qcu s.evs).length) = ↑s.evs.length + ↑(Qcu s.evs).length := Qa _ om om
   by_cases hl : 398 < s.evs.length + (Qcu s.evs).length ∨ 1099511627776 ≤ s.serial
   ·refine Br.yes (by rw [w0]; simp; omega) (Go0 ?_)
    rw [show QI s q x = (s, 19) by unfold QI; rw [if_pos hv, if_pos hq, if_pos hl]]
    refine RM.allT (FwT.consL (FwL.own (a := 3) (b := 4) (c := 5) rfl rfl rfl) (FwT.consC (Fw.same rfl) FwT.nil))
   ·refine Br.no (by rw [w0]; simp; omega) (Go0 ?_)
    have w1 := Qa (s.serial + 1) om om
    have hb : QI s q x = (let y : Req := { x with serial := s.serial }
    if s.closed = true then
     (({ s with serial := s.serial + 1 }.addEv (QN false q y 0 ByteArray.empty)).addEv (QN true q y 12 ByteArray.empty), 0)
    else
     let r := QU (s.rings.getD q.toNat default) y
     if r.2 ≠ 0 then (s, r.2)
     else ({ (s.setRing q.toNat r.1) with serial := s.serial + 1 }.addEv (QN false q y 0 ByteArray.empty), 0)) := by unfold QI; rw [if_pos hv, if_pos hq, if_neg hl]
    by_cases hcl : s.closed = true
    ·refine Br.no (by rw [hcl]; rfl) (Go0 ?_)
     refine CallN.autoI [6,3,4,5] Qee (Qd4 { s with serial := s.serial + 1 } false q { x with serial := s.serial } 0 ByteArray.empty hs.evs) plh (Go0 ?_)
     refine Br.yes hcl (Go0 ?_)
     refine CallN.autoI [6,3,4,5] Qee (Qd4 (St.addEv { s with serial := s.serial + 1 } (QN false q { x with serial := s.serial } 0 ByteArray.empty)) true q { x with serial := s.serial } 12 ByteArray.empty (by simp [St.addEv]; omega)) plh (Go0 ?_)
     rw [hb, if_pos hcl]
     refine RM.allT (FwT.consL (FwL.own (a := 3) (b := 4) (c := 5) rfl rfl rfl) (FwT.consC (Fw.same rfl) FwT.nil))
    ·refine Br.yes (by rw [Qg hcl]; rfl) (Go0 ?_)
     refine Dr.mkE hΓ hMix [] [(11, 13)] (by kernel_rfl) (Go0 ?_)
     refine Frc.mk (.a (s.rings.getD q.toNat default).cells) rfl (Go0 ?_)
     refine CallP.auto QnL (QmL (s.rings.getD q.toNat default) { x with serial := s.serial } (hs.items _) ) (Go0 ?_)
     generalize ht : QU (s.rings.getD q.toNat default) { x with serial := s.serial } = t
     obtain ⟨r, e⟩ := t
     by_cases he : e = 0
     ·subst he
      refine Br.no rfl (Go0 ?_)
      have lr : s.rings.length = ({ (s.setRing q.toNat r) with serial := s.serial + 1 } : St).rings.length := (List.length_set).symm
      refine CallN.autoI [6,3,4,5] Qee (Qd4 { (s.setRing q.toNat r) with serial := s.serial + 1 } false q { x with serial := s.serial } 0 ByteArray.empty hs.evs) plh (h := by (repeat' (first | exact WA.nil | refine WA.cons rfl ?_ ?_ | exact WB.nil | refine WB.cons ?_ ?_ | exact WT.nil | refine WT.cons ?_ ?_ | exact WH.nil | refine WH.cons ?_ ?_ | exact WR.nil | refine WR.cons rfl ?_ ?_ | refine WO.vr ?_ | exact WO.dead | exact WO.mpS | refine WO.mpA ?_ | exact WO.arrPA (fun i j => Qb _ _ _) | refine WO.arrA ?_ | exact WS.u | refine WS.c ?_ | refine WS.a ?_ | refine WS.t ?_ | exact WL.nil | refine WL.cons ?_ ?_ | exact WTL.nil | refine WTL.consC ?_ ?_ | refine WTL.consL ?_ ?_ | exact WC.nils | exact WC.nil rfl | exact WC.nilp | refine WC.fzA | exact WC.ptr rfl leN | exact WC.mpr rfl leN | refine WC.slA | refine WC.intA | refine WC.int ?_ | refine WC.boolA | refine WC.bool ?_ | refine WC.strA | refine WC.str ?_ | exact WC.imm rfl)) <;> first | exact fun i _ j hj => WC.eq (QZ hq2 rfl i j hj) (QB _ _)) ?_; conv=>whnf
      refine Go0 ?_
      refine Br.no (Qg hcl) (Go0 ?_)
      rw [hb, if_neg hcl]
      simp only [ht]
      rw [if_neg (by simp)]
      refine RM.allT (FwT.consL (FwL.own (a := 3) (b := 4) (c := 5) rfl rfl rfl) (FwT.consC (Fw.same rfl) FwT.nil))
     ·refine Br.yes (by simpa using he) (Go0 ?_)
      rw [hb, if_neg hcl]
      simp only [ht]
      rw [if_pos he]
      refine RM.allT (FwT.consL (FwL.own (a := 3) (b := 4) (c := 5) rfl rfl rfl) (FwT.consC (Fw.same rfl) FwT.nil))
  ·refine Br.yes (Decidable.byContradiction fun ebye => hq (by simp [-List.getD_eq_getElem?_getD, -Int.default_eq_zero] at ebye <;> grind)) ?_; conv=>whnf
   refine Go0 ?_
   rw [show QI s q x = (s, 1) by unfold QI; rw [if_pos hv, if_neg hq]]
   refine RM.allT (FwT.consL (FwL.own (a := 3) (b := 4) (c := 5) rfl rfl rfl) (FwT.consC (Fw.same rfl) FwT.nil))
 ·refine Br.yes (by rw [Qg hv]; rfl) (Go0 ?_)
  rw [show QI s q x = (s, 6) from if_neg hv]
  refine RM.allT (FwT.consL (FwL.own (a := 3) (b := 4) (c := 5) rfl rfl rfl) (FwT.consC (Fw.same rfl) FwT.nil))
theorem Qn0 : HB 24 := hB Tryz.func24
def QdA (blocks size : Int) : Int := 2 * (blocks + 2 + size - 1).tdiv size + 6
def Qad (d : DiceM) : Conf :=
 ⟨QdA (1 + d.step.next 6) (3 + d.next 4) + d.step.step.step.step.step.next 3, 3 + d.next 4, 1 + d.step.next 6, 1 + d.step.step.next 3, 1 + d.step.step.step.next 3, 1 + d.step.step.step.step.next 3⟩
def QeF (d : DiceM) : DiceM := d.step.step.step.step.step.step
theorem Qlv {d : DiceM} (h : d.ok) : (QeF d).ok := h.step.step.step.step.step.step
theorem QjZ (d : DiceM) (hd : d.ok) : CS 20 [.c (.ptr 0 0)] [.vr d.cells] fun s H => s = .a (Qad d).cells ∧ H = [.vr (QeF d).cells] := by
 refine CSpec.rm ?_
 refine ov0 hΓ Tryz.func20 37 1 [.cell 2 26] Tryz.ntmps20 Tryz.results20 ?_
 refine CallN.autoQ [0] Ql (Qm d hd 4) (Go0 ?_)
 refine CallN.autoQ [0] Ql (Qm d.step hd.step 6) (Go0 ?_)
 refine CallN.autoQ [0] Ql (Qm d.step.step hd.step.step 3) (Go0 ?_)
 refine CallN.autoQ [0] Ql (Qm d.step.step.step hd.step.step.step 3) (Go0 ?_)
 refine CallN.autoQ [0] Ql (Qm d.step.step.step.step hd.step.step.step.step 3) (Go0 ?_)
 have r1 := d.next_range (n := 4) om om
 have r2 := d.step.next_range (n := 6) om om
 have r3 := d.step.step.next_range (n := 3) om om
 have r4 := d.step.step.step.next_range (n := 3) om om
 have r5 := d.step.step.step.step.next_range (n := 3) om om
 have r6 := d.step.step.step.step.step.next_range (n := 3) om om
 have w1 := Qa (3 + d.next 4) om om
 have w2 := Qa (1 + d.step.next 6) om om
 refine Dr.mkE hΓ hMix [38] [(0, 13), (1, 13), (2, 13), (3, 13), (4, 13), (5, 13), (6, 13), (7, 13), (8, 13), (9, 13), (10, 13), (11, 13)] (by kernel_rfl) (Go0 ?_)
 refine CallE.autoQ [0] Ql (Qm d.step.step.step.step.step hd.step.step.step.step.step 3) (Go0 ?_)
 refine ⟨_, _, ?_, rfl, rfl⟩
 have hq : 0 ≤ (1 + d.step.next 6 + 2 + (3 + d.next 4) - 1).tdiv (3 + d.next 4) ∧ (1 + d.step.next 6 + 2 + (3 + d.next 4) - 1).tdiv (3 + d.next 4) ≤ 100 := by
  rw [Int.tdiv_eq_ediv_of_nonneg om]
  exact ⟨Int.ediv_nonneg om om, Int.ediv_le_of_le_mul om om⟩
 have e1 : IntKind.i64.wrap (IntKind.i64.wrap (2 * IntKind.i64.wrap ((IntKind.i64.wrap (IntKind.i64.wrap (IntKind.i64.wrap (IntKind.i64.wrap (1 + d.step.next 6) + 2) + IntKind.i64.wrap (3 + d.next 4)) - 1)).tdiv (IntKind.i64.wrap (3 + d.next 4)))) + 6) = QdA (1 + d.step.next 6) (3 + d.next 4) := by
  rw [w1, w2, Qa (1 + d.step.next 6 + 2) om om, Qa (1 + d.step.next 6 + 2 + (3 + d.next 4)) om om, Qa (1 + d.step.next 6 + 2 + (3 + d.next 4) - 1) om om]
  rw [Qa ((1 + d.step.next 6 + 2 + (3 + d.next 4) - 1).tdiv (3 + d.next 4)) om om, Qa (2 * (1 + d.step.next 6 + 2 + (3 + d.next 4) - 1).tdiv (3 + d.next 4)) om om]
  exact Qa _ om om
 have e2 : IntKind.i64.wrap (QdA (1 + d.step.next 6) (3 + d.next 4) + d.step.step.step.step.step.next 3) = QdA (1 + d.step.next 6) (3 + d.next 4) + d.step.step.step.step.step.next 3 := Qa _ (by unfold QdA; omega) (by unfold QdA; omega)
 have f6 : IntKind.i64.wrap (1 + d.step.step.step.step.next 3) = (Qad d).shards := Qa _ om om
 have f5 : IntKind.i64.wrap (1 + d.step.step.step.next 3) = (Qad d).depth := Qa _ om om
 have f4 : IntKind.i64.wrap (1 + d.step.step.next 3) = (Qad d).queues := Qa _ om om
 have f3 : IntKind.i64.wrap (1 + d.step.next 6) = (Qad d).blocks := w2
 have f2 : IntKind.i64.wrap (3 + d.next 4) = (Qad d).size := w1
 have f1 : IntKind.i64.wrap (IntKind.i64.wrap (IntKind.i64.wrap (2 * IntKind.i64.wrap ((IntKind.i64.wrap (IntKind.i64.wrap (IntKind.i64.wrap (IntKind.i64.wrap (1 + d.step.next 6) + 2) + IntKind.i64.wrap (3 + d.next 4)) - 1)).tdiv (IntKind.i64.wrap (3 + d.next 4)))) + 6) + d.step.step.step.step.step.next 3) = (Qad d).zones := by rw [e1]; exact e2
 rw [show QeF d = d.step.step.step.step.step.step from rfl]
 clear w1 w2 e1 e2 r1 r2 r3 r4 r5 r6 hq
 refine RM.wkW ?_ ?_ leN
 ·exact wb0
 ·refine WS.a (WL.cons (WC.int f1) (WL.cons (WC.int f2) (WL.cons (WC.int f3) (WL.cons (WC.int f4) (WL.cons (WC.int f5) (WL.cons (WC.int f6) WL.nil))))))
theorem QjS : HB 20 := hB Tryz.func20
theorem QiM (d : DiceM) : Qw (Qad d) = 0 := by
 have r1 := d.next_range (n := 4) om om
 have r2 := d.step.next_range (n := 6) om om
 have r3 := d.step.step.next_range (n := 3) om om
 have r4 := d.step.step.step.next_range (n := 3) om om
 have r5 := d.step.step.step.step.next_range (n := 3) om om
 have r6 := d.step.step.step.step.step.next_range (n := 3) om om
 unfold Qad
 generalize d.next 4 = a at *
 generalize d.step.next 6 = b at *
 generalize d.step.step.next 3 = q at *
 generalize d.step.step.step.next 3 = p at *
 generalize d.step.step.step.step.next 3 = m at *
 generalize d.step.step.step.step.step.next 3 = z at *
 have hs : 1 ≤ (1 + b + 2 + (3 + a) - 1).tdiv (3 + a) ∧ (1 + b + 2 + (3 + a) - 1).tdiv (3 + a) ≤ 4 := by
  rw [Int.tdiv_eq_ediv_of_nonneg om]
  exact ⟨(Int.le_ediv_iff_mul_le om).2 om, Int.ediv_le_of_le_mul om om⟩
 have hr : QbQ ⟨QdA (1 + b) (3 + a) + z, 3 + a, 1 + b, 1 + q, 1 + p, 1 + m⟩ = true := by
  rw [confR_iff]; simp only [QdA]; omega
 unfold Qw
 rw [if_pos hr, if_neg]
 simp only [Qq, capN, Qo, QdA]
 generalize (1 + b + 2 + (3 + a) - 1).tdiv (3 + a) = t at *
 have h3 : (2 * t + 6 + z - 2 * t - 3) * (3 + a - 1) ≥ 3 * 2 := Int.mul_le_mul om om om om
 have h4 : (2 * t + 6 + z - 2 * t - 3) * (3 + a - 1) = (3 + z) * (2 + a) := by congr 1 <;> omega
 rintro (h | h)
 ·omega
 ·rw [h4] at h h3
  omega
end Go.Proofs
end
