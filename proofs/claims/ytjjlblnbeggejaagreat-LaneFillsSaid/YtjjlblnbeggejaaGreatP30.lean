/- Contracts, lemmas; no condition. -/
import Derived.Test.YtjjlblnbeggejaaGreatP29
import Derived.Test.YtjjlblnbeggejaaGreatP23
import Derived.Test.YtjjlblnbeggejaaGreatP22
import Derived.Test.YtjjlblnbeggejaaGreatP12
set_option linter.all false
section
open Go Go.Am
namespace Go.Proofs
set_option maxRecDepth 20000
def St.cellsK (s : St) (id : Nat) : List C := s.cellsW (rngC s.rings) (.sl id 12 s.works.length s.works.length false) (evC s.evs)
def St.wobj (s : St) : O := .arr 94 12 s.works.length (wrkG s.works)
theorem BwL.wk {H : List O} {s : St} {a e n : Nat} {g : Nat → Nat → C} {x : Bool} (ha : getL H a = some (.arr e 12 n g)) (hn : n = s.works.length) (hg : ∀ i, i < n → ∀ j, j < 12 → g i j = wrkG s.works i j) :
  BwL H (s.cellsW (rngC s.rings) (.sl a 12 n n x) (evC s.evs)) s.cells := by
 subst hn
 have rb : Bw H (.sl a 12 s.works.length s.works.length x) (wrkC s.works) := Bw.sl ha rfl (fun i hi j hj => by rw [hg i hi j hj]; exact Bw.same (QaW _ _)) (fun e => by cases e)
 unfold St.cells St.cellsW St.cellsX St.cellsZ
 repeat' (first | exact BwL.nil | refine BwL.cons ?_ ?_ | exact rb | exact Bw.same rfl)
theorem FwL.evs {H : List O} {s : St} {fr mp rg wk fr' mp' rg' wk' : C} {id e n : Nat} {g : Nat → Nat → C} {x : Bool} {l : List Evt} (hid : getL H id = some (.arr e 8 n g)) (hn : n = l.length) (hg : ∀ i, i < n → ∀ j, j < 8 → g i j = evG l i j) (h1 : Fw H fr fr') (h2 : Fw H mp mp') (h3 : Fw H rg rg') (h4 : Fw H wk wk') :
  FwL H (s.cellsZ fr mp rg wk (.sl id 8 n n x)) ({ s with evs := l }.cellsZ fr' mp' rg' wk' (evC l)) := by
 have h5 : Fw H (.sl id 8 n n x) (evC l) := Fw.slP hid rfl hn hg (fun i j => Qd5 _ _)
 unfold St.cellsZ
 repeat' (first | exact FwL.nil | refine FwL.cons ?_ ?_ | exact h1 | exact h2 | exact h3 | exact h4 | exact h5 | exact Fw.same rfl)
theorem QmK {l : List Ent} {e : Ent} {k k' : Nat} {t : List C} {Z : Nat → Nat → C} {n1 n2 k2 i j : Nat} (hk : k ≤ l.length) (h1 : n1 = k) (h2 : n2 = k + 1) (h3 : k2 = k') (hj : j < 6) :
  appG (appG (appG Z 0 (entG l)) n1 (QaE 6 (e.cells ++ t))) n2 (fun i j => entG l (k2 + i) j) i j = entG (l.take k ++ e :: l.drop k') i j := by
 subst h1 h2 h3
 have hlen : (l.take n1).length = n1 := by rw [List.length_take]; omega
 unfold appG
 simp only [Nat.not_lt_zero, if_false, Nat.sub_zero]
 unfold entG rowG
 by_cases c1 : i < n1 + 1
 ·rw [if_pos c1]
  by_cases c2 : i < n1
  ·rw [if_pos c2]
   congr 1
   simp only [List.getD]
   rw [List.getElem?_append_left (by omega), List.getElem?_take, if_pos c2]
  ·rw [if_neg c2]
   have : i = n1 := by omega
   subst this
   rw [show (l.take i ++ e :: l.drop k2).getD i default = e by
    simp only [List.getD]
    rw [List.getElem?_append_right (by omega), hlen, Nat.sub_self]
    rfl]
   rw [Nat.sub_self]
   match j, hj with
   | 0, _ => rfl
   | 1, _ => rfl
   | 2, _ => rfl
   | 3, _ => rfl
   | 4, _ => rfl
   | 5, _ => rfl
 ·rw [if_neg c1]
  congr 1
  simp only [List.getD]
  rw [List.getElem?_append_right (by omega), hlen, show i - n1 = (i - (n1 + 1)) + 1 by omega, List.getElem?_cons_succ, List.getElem?_drop]
set_option maxHeartbeats 4000000 in
theorem Qlp (l : List Ent) (e : Ent) (hl : l.length ≤ 1000000) : PS 101 [.c (Qap l), .a e.cells] (.t [.inl (Qap (QaP l e).1), .inr (QaP l e).2.1.cells, .inl (.bool (QaP l e).2.2)]) := by
 refine PSpec.rm ?_
 refine ov hΓ Tryz.func101 59 0 [.tmp 4, .cell 5 47, .tmp 6] Tryz.ntmps101 Tryz.results101 ?_
 ((conv=>whnf);(repeat' ((first|refine Nd ?_|refine Hv fun _h=>?_);conv=>whnf)))
 refine CallN.pureA Qdq (Qdp l hl ) ?_
 ((conv=>whnf);(repeat' ((first|refine Nd ?_|refine Hv fun _h=>?_);conv=>whnf)))
 by_cases hv : QM l = true
 ·refine Br.no (by rw [hv]; rfl) ?_
  ((conv=>whnf);(repeat' ((first|refine Nd ?_|refine Hv fun _h=>?_);conv=>whnf)))
  refine CallN.pureA QhK (QhN e ) ?_
  ((conv=>whnf);(repeat' ((first|refine Nd ?_|refine Hv fun _h=>?_);conv=>whnf)))
  by_cases he : QaQ e = true
  ·refine Br.no (by rw [he]; rfl) ?_
   ((conv=>whnf);(repeat' ((first|refine Nd ?_|refine Hv fun _h=>?_);conv=>whnf)))
   have hple := QdU l e.block
   refine CallN.pureA Qfe (Qfi l e.block hl ) ?_
   ((conv=>whnf);(repeat' ((first|refine Nd ?_|refine Hv fun _h=>?_);conv=>whnf)))
   refine CallN.pureA Qjt (Qjv l e.block hl ) ?_
   ((conv=>whnf);(repeat' ((first|refine Nd ?_|refine Hv fun _h=>?_);conv=>whnf)))
   have hf2 : (QO l e.block).2 = hasM l e.block := by
    unfold QO
    by_cases q : hasM l e.block = true
    ·rw [if_pos ⟨hv, q⟩, q]
    ·rw [if_neg (fun z => q z.2), Qq q]
   by_cases c : (QO l e.block).2 = true ∧ e.version ≤ (QO l e.block).1.version
   ·refine Br.yes (by simp [-List.getD_eq_getElem?_getD, c.1]; exact c.2) ?_
    ((conv=>whnf);(repeat' ((first|refine Nd ?_|refine Hv fun _h=>?_);conv=>whnf)))
    refine Dr.mk hΓ hMix (by kernel_rfl) ?_; conv=>whnf
    ((conv=>whnf);(repeat' ((first|refine Nd ?_|refine Hv fun _h=>?_);conv=>whnf)))
    rw [show QaP l e = (l, (QO l e.block).1, false) by unfold QaP; rw [if_pos hv, if_pos he, if_pos c]]
    exact RM.i0
   ·refine Br.no (Bool.eq_false_iff.2 fun z => c (by simpa using z)) ?_
    ((conv=>whnf);(repeat' ((first|refine Nd ?_|refine Hv fun _h=>?_);conv=>whnf)))
    have hi : QaP l e = (putE l e, (QO l e.block).1, true) := by unfold QaP; rw [if_pos hv, if_pos he, if_neg c]
    have w1 := Qa ((Qo l e.block : Int) + 1) (by omega) (by omega)
    by_cases hm : hasM l e.block = true
    ·have hm' := (hasM_iff.1 hm).1
     refine Br.yes (hf2.trans hm) ?_
     ((conv=>whnf);(repeat' ((first|refine Nd ?_|refine Hv fun _h=>?_);conv=>whnf)))
     rw [w1]
     ((conv=>whnf);(repeat' ((first|refine Nd ?_|refine Hv fun _h=>?_);conv=>whnf)))
     refine Dr.mkE hΓ hMix [] [(5, 4)] (by kernel_rfl) ?_; conv=>whnf
     ((conv=>whnf);(repeat' ((first|refine Nd ?_|refine Hv fun _h=>?_);conv=>whnf)))
     have hpe : putE l e = l.take (Qo l e.block) ++ e :: l.drop (Qo l e.block + 1) := by unfold putE; rw [if_pos hm]
     have hpl : (putE l e).length = Qo l e.block + 1 + (l.length - (Qo l e.block + 1)) := by rw [hpe]; simp; omega
     rw [hi]
     refine RM.allT (FwT.consC (Fw.slP rfl rfl (by rw [hpl]; simp only [Int.toNat_natCast]; omega) (fun i _ j hj => (QmK (e := e) hple (by simp) (by simp) (show (((Qo l e.block : Nat) : Int) + 1).toNat = Qo l e.block + 1 by omega) hj).trans (by rw [hpe])) (fun _ _ => Qaw _ _)) (FwT.consL (FwL.cons (Fw.same rfl) (FwL.cons (Fw.same rfl) (FwL.cons (Fw.same rfl) (FwL.cons (Fw.same rfl) (FwL.cons (Fw.same rfl) (FwL.cons (Fw.same rfl) FwL.nil)))))) (FwT.consC (Fw.same rfl) FwT.nil)))
    ·refine Br.no (hf2.trans (Qq hm)) ?_
     ((conv=>whnf);(repeat' ((first|refine Nd ?_|refine Hv fun _h=>?_);conv=>whnf)))
     refine Dr.mkE hΓ hMix [] [(5, 4)] (by kernel_rfl) ?_; conv=>whnf
     ((conv=>whnf);(repeat' ((first|refine Nd ?_|refine Hv fun _h=>?_);conv=>whnf)))
     have hpe : putE l e = l.take (Qo l e.block) ++ e :: l.drop (Qo l e.block) := by unfold putE; rw [if_neg hm]
     have hpl : (putE l e).length = Qo l e.block + 1 + (l.length - Qo l e.block) := by rw [hpe]; simp; omega
     rw [hi]
     refine RM.allT (FwT.consC (Fw.slP rfl rfl (by rw [hpl]; simp only [Int.toNat_natCast]; omega) (fun i _ j hj => (QmK (e := e) hple (by simp) (by simp) (show (((Qo l e.block : Nat) : Int)).toNat = Qo l e.block by omega) hj).trans (by rw [hpe])) (fun _ _ => Qaw _ _)) (FwT.consL (FwL.cons (Fw.same rfl) (FwL.cons (Fw.same rfl) (FwL.cons (Fw.same rfl) (FwL.cons (Fw.same rfl) (FwL.cons (Fw.same rfl) (FwL.cons (Fw.same rfl) FwL.nil)))))) (FwT.consC (Fw.same rfl) FwT.nil)))
  ·refine Br.yes (by rw [Qq he]; rfl) ?_
   ((conv=>whnf);(repeat' ((first|refine Nd ?_|refine Hv fun _h=>?_);conv=>whnf)))
   rw [show QaP l e = (l, default, false) by unfold QaP; rw [if_pos hv, if_neg he]]
   exact RM.i0
 ·refine Br.yes (by rw [Qq hv]; rfl) ?_
  ((conv=>whnf);(repeat' ((first|refine Nd ?_|refine Hv fun _h=>?_);conv=>whnf)))
  rw [show QaP l e = ([], default, false) from if_neg hv]
  exact RM.i0
theorem QlF : HB 101 := hB Tryz.func101
theorem Qrq {l : List Ent} {p : Nat} {tz to : Int} (hp : p < l.length) (i j : Nat) (hj : j < 6) : updG (entG l) p 4 [.int .i64 tz, .int .i64 to] i j = entG (l.set p { l.getD p default with zone := tz, offset := to }) i j := by
 refine QeA hp (es := 6) (fun j hj => ?_) i j hj
 match j, hj with
 | 0, _ => rfl
 | 1, _ => rfl
 | 2, _ => rfl
 | 3, _ => rfl
 | 4, _ => rfl
 | 5, _ => rfl
theorem Qsh {l : List Ent} {p : Nat} {mv : Int} (hp : p < l.length) (i j : Nat) (hj : j < 6) : updG (entG l) p 3 [.int .i64 mv] i j = entG (l.set p { l.getD p default with move := mv }) i j := by
 refine QeA hp (es := 6) (fun j hj => ?_) i j hj
 match j, hj with
 | 0, _ => rfl
 | 1, _ => rfl
 | 2, _ => rfl
 | 3, _ => rfl
 | 4, _ => rfl
 | 5, _ => rfl
theorem Qr9 {l : List Ent} {p : Nat} {tz to mv : Int} {e : Ent} (hp : p < l.length) (he : e = l.getD p default) (i j : Nat) (hj : j < 6) : updG (updG (entG l) p 4 [.int .i64 tz, .int .i64 to]) p 3 [.int .i64 mv] i j = entG (l.set p { e with zone := tz, offset := to, move := mv }) i j := by
 subst he
 rw [Qqg (Qrq hp i j hj), Qsh (by simpa using hp) i j hj, QsG hp, List.set_set]
set_option maxHeartbeats 4000000 in
theorem Qom (l : List Ent) (b v fz fo tz to move : Int) (hl : l.length ≤ 1000000) : PS 262 [.c (Qap l), .c (.int .i64 b), .c (.int .i64 v), .a [.int .i64 fz, .int .i64 fo], .a [.int .i64 tz, .int .i64 to], .c (.int .i64 move)] (.t [.inl (Qap (relE l b v fz fo tz to move).1), .inl (.bool (relE l b v fz fo tz to move).2)]) := by
 refine PSpec.rm ?_
 refine ov hΓ Tryz.func262 77 0 [.tmp 12, .tmp 13] Tryz.ntmps262 Tryz.results262 ?_
 ((conv=>whnf);(repeat' ((first|refine Nd ?_|refine Hv fun _h=>?_);conv=>whnf)))
 refine CallN.pureA Qdq (Qdp l hl ) ?_
 ((conv=>whnf);(repeat' ((first|refine Nd ?_|refine Hv fun _h=>?_);conv=>whnf)))
 by_cases hv : QM l = true
 ·refine Br.no (by rw [hv]; rfl) ?_
  ((conv=>whnf);(repeat' ((first|refine Nd ?_|refine Hv fun _h=>?_);conv=>whnf)))
  refine CallN.pureA Qjt (Qjv l b hl ) ?_
  ((conv=>whnf);(repeat' ((first|refine Nd ?_|refine Hv fun _h=>?_);conv=>whnf)))
  by_cases c : (QO l b).2 = true ∧ (QO l b).1.version = v ∧ (QO l b).1.zone = fz ∧ (QO l b).1.offset = fo ∧ 0 ≤ tz ∧ 0 ≤ to ∧ 0 ≤ move ∧ move ≤ 255
  ·have hi : relE l b v fz fo tz to move = (l.set (Qo l b) { (QO l b).1 with zone := tz, offset := to, move := move }, true) := by unfold relE; rw [if_pos hv, if_pos c]
   refine Br.no (Bool.eq_false_iff.2 fun ebye => by simp [-List.getD_eq_getElem?_getD, -Int.default_eq_zero, c.1,c.2.1,c.2.2.1,c.2.2.2.1,c.2.2.2.2] at ebye <;> grind) ?_; conv=>whnf
   ((conv=>whnf);(repeat' ((first|refine Nd ?_|refine Hv fun _h=>?_);conv=>whnf)))
   have hple := QdU l b
   refine CallN.pureA Qfe (Qfi l b hl ) ?_
   ((conv=>whnf);(repeat' ((first|refine Nd ?_|refine Hv fun _h=>?_);conv=>whnf)))
   have hm : hasM l b = true := by
    have h2 := c.1
    unfold QO at h2
    by_cases q : hasM l b = true
    ·exact q
    ·rw [if_neg (fun z => q z.2)] at h2; cases h2
   have hlt := (hasM_iff.1 hm).1
   have hfe : (QO l b).1 = l.getD (Qo l b) default := by unfold QO; rw [if_pos ⟨hv, hm⟩]
   ((conv=>whnf);(repeat' ((first|refine Nd ?_|refine Hv fun _h=>?_);conv=>whnf)))
   rw [hi]
   exact RM.allT (FwT.consC (Fw.slP rfl rfl (by simp) (fun i _ j hj => Qr9 hlt hfe i j hj) (fun _ _ => Qaw _ _)) (FwT.consC (Fw.same rfl) FwT.nil))
  ·refine Br.yes (Decidable.byContradiction fun ebye => c (by simp [-List.getD_eq_getElem?_getD, -Int.default_eq_zero] at ebye <;> grind)) ?_; conv=>whnf
   ((conv=>whnf);(repeat' ((first|refine Nd ?_|refine Hv fun _h=>?_);conv=>whnf)))
   rw [show relE l b v fz fo tz to move = (l, false) by unfold relE; rw [if_pos hv, if_neg c]]
   exact RM.i0
 ·refine Br.yes (by rw [Qq hv]; rfl) ?_
  ((conv=>whnf);(repeat' ((first|refine Nd ?_|refine Hv fun _h=>?_);conv=>whnf)))
  rw [show relE l b v fz fo tz to move = ([], false) from if_neg hv]
  exact RM.i0
theorem Qob : HB 262 := hB Tryz.func262
theorem QiZ (m : List (List Ent)) (i : Int) (l : List Ent) (hm : m.length ≤ 1000000) (h0 : 0 ≤ i) (h1 : i < m.length) : PS 102 [.a [QC m], .c (.int .i64 i), .c (Qap l)] (.a [QC (m.set i.toNat l)]) := by
 have hi : i.toNat < m.length := by omega
 refine PSpec.rm ?_
 refine ov hΓ Tryz.func102 18 0 [.cell 6 32] Tryz.ntmps102 Tryz.results102 ?_
 ((conv=>whnf);(repeat' ((first|refine Nd ?_|refine Hv fun _h=>?_);conv=>whnf)))
 refine RM.allA (FwL.cons (Fw.slP rfl rfl (by simp) (fun a _ j hj => QeA (f := fun (l : List Ent) (_ : Nat) => Qap l) (x := l) hi (es := 1) (fun j hj => ?_) a j hj) (fun _ _ => rfl)) FwL.nil)
 have : j = 0 := by omega
 subst this
 rfl
theorem Qjf : HB 102 := hB Tryz.func102
theorem QkP {m : List (List Ent)} {b : Int} (h : Qx m = true) (hb : 0 ≤ b) : Qaj m b = (QE m b : Nat) := by
 have := Qbw h
 unfold Qaj
 rw [if_neg (by omega), QhX h hb]
set_option maxHeartbeats 2000000 in
theorem Qqa (m : List (List Ent)) (e : Ent) (hm : m.length ≤ 1000000) (hs : ∀ i, (m.getD i default).length ≤ 1000000) : PS 28 [.a [QC m], .a e.cells] (.t [.inr [QC (Qax m e).1], .inr (Qax m e).2.1.cells, .inl (.bool (Qax m e).2.2)]) := by
 refine PSpec.rm ?_
 refine ov hΓ Tryz.func28 45 0 [.cell 4 32, .cell 5 47, .tmp 6] Tryz.ntmps28 Tryz.results28 ?_
 ((conv=>whnf);(repeat' ((first|refine Nd ?_|refine Hv fun _h=>?_);conv=>whnf)))
 refine CallN.pureA Qff (Qe4 m hm hs ) ?_
 ((conv=>whnf);(repeat' ((first|refine Nd ?_|refine Hv fun _h=>?_);conv=>whnf)))
 by_cases c : Qx m = true ∧ 0 ≤ e.block
 ·have hlt := Qd4 c.1 c.2
  refine Br.no (Bool.eq_false_iff.2 fun ebye => by simp [-List.getD_eq_getElem?_getD, -Int.default_eq_zero, c.1,c.2] at ebye <;> grind) ?_; conv=>whnf
  ((conv=>whnf);(repeat' ((first|refine Nd ?_|refine Hv fun _h=>?_);conv=>whnf)))
  refine CallN.pureA Qgr (QgO m e.block hm ) ?_
  rw [QkP c.1 c.2]
  ((conv=>whnf);(repeat' ((first|refine Nd ?_|refine Hv fun _h=>?_);conv=>whnf)))
  refine Dr.mkE hΓ hMix [] [(10, 13)] (by kernel_rfl) ?_; conv=>whnf
  ((conv=>whnf);(repeat' ((first|refine Nd ?_|refine Hv fun _h=>?_);conv=>whnf)))
  refine CallP.auto QlF (Qlp (m.getD (QE m e.block) default) e (hs _) ) ?_
  ((conv=>whnf);(repeat' ((first|refine Nd ?_|refine Hv fun _h=>?_);conv=>whnf)))
  by_cases d : (QaP (m.getD (QE m e.block) default) e).2.2 = true
  ·refine Br.no (by rw [d]; rfl) ?_
   ((conv=>whnf);(repeat' ((first|refine Nd ?_|refine Hv fun _h=>?_);conv=>whnf)))
   refine Dr.mkE hΓ hMix [] [(4, 5)] (by kernel_rfl) ?_; conv=>whnf
   ((conv=>whnf);(repeat' ((first|refine Nd ?_|refine Hv fun _h=>?_);conv=>whnf)))
   refine CallP.auto Qjf (QiZ m (QE m e.block : Nat) (QaP (m.getD (QE m e.block) default) e).1 hm (by omega) (by omega) ) ?_
   ((conv=>whnf);(repeat' ((first|refine Nd ?_|refine Hv fun _h=>?_);conv=>whnf)))
   rw [show Qax m e = (m.set (QE m e.block) (QaP (m.getD (QE m e.block) default) e).1, (QaP (m.getD (QE m e.block) default) e).2.1, true) by unfold Qax; rw [if_pos c, if_pos d]]
   exact RM.i0
  ·refine Br.yes (by rw [Qq d]; rfl) ?_
   ((conv=>whnf);(repeat' ((first|refine Nd ?_|refine Hv fun _h=>?_);conv=>whnf)))
   refine Dr.mkE hΓ hMix [] [(1, 2)] (by kernel_rfl) ?_; conv=>whnf
   ((conv=>whnf);(repeat' ((first|refine Nd ?_|refine Hv fun _h=>?_);conv=>whnf)))
   rw [show Qax m e = (m, (QaP (m.getD (QE m e.block) default) e).2.1, false) by unfold Qax; rw [if_pos c, if_neg d]]
   exact RM.i0
 ·refine Br.yes (Decidable.byContradiction fun ebye => c (by simp [-List.getD_eq_getElem?_getD, -Int.default_eq_zero] at ebye <;> grind)) ?_; conv=>whnf
  ((conv=>whnf);(repeat' ((first|refine Nd ?_|refine Hv fun _h=>?_);conv=>whnf)))
  rw [show Qax m e = (m, default, false) from if_neg c]
  exact RM.i0
theorem QqJ : HB 28 := hB Tryz.func28
set_option maxHeartbeats 2000000 in
theorem QnL (m : List (List Ent)) (b v fz fo tz to move : Int) (hm : m.length ≤ 1000000) (hs : ∀ i, (m.getD i default).length ≤ 1000000) : PS 203 [.a [QC m], .c (.int .i64 b), .c (.int .i64 v), .a [.int .i64 fz, .int .i64 fo], .a [.int .i64 tz, .int .i64 to], .c (.int .i64 move)] (.t [.inr [QC (relM m b v fz fo tz to move).1], .inl (.bool (relM m b v fz fo tz to move).2)]) := by
 refine PSpec.rm ?_
 refine ov hΓ Tryz.func203 49 0 [.cell 12 32, .tmp 13] Tryz.ntmps203 Tryz.results203 ?_
 ((conv=>whnf);(repeat' ((first|refine Nd ?_|refine Hv fun _h=>?_);conv=>whnf)))
 refine CallN.pureA Qff (Qe4 m hm hs ) ?_
 ((conv=>whnf);(repeat' ((first|refine Nd ?_|refine Hv fun _h=>?_);conv=>whnf)))
 by_cases c : Qx m = true ∧ 0 ≤ b
 ·have hlt := Qd4 c.1 c.2
  refine Br.no (Bool.eq_false_iff.2 fun ebye => by simp [-List.getD_eq_getElem?_getD, -Int.default_eq_zero, c.1,c.2] at ebye <;> grind) ?_; conv=>whnf
  ((conv=>whnf);(repeat' ((first|refine Nd ?_|refine Hv fun _h=>?_);conv=>whnf)))
  refine CallN.pureA Qgr (QgO m b hm ) ?_
  rw [QkP c.1 c.2]
  ((conv=>whnf);(repeat' ((first|refine Nd ?_|refine Hv fun _h=>?_);conv=>whnf)))
  refine Dr.mk hΓ hMix (by kernel_rfl) ?_; conv=>whnf
  ((conv=>whnf);(repeat' ((first|refine Nd ?_|refine Hv fun _h=>?_);conv=>whnf)))
  refine CallP.auto Qob (Qom (m.getD (QE m b) default) b v fz fo tz to move (hs _) ) ?_
  ((conv=>whnf);(repeat' ((first|refine Nd ?_|refine Hv fun _h=>?_);conv=>whnf)))
  by_cases d : (relE (m.getD (QE m b) default) b v fz fo tz to move).2 = true
  ·refine Br.no (by rw [d]; rfl) ?_
   ((conv=>whnf);(repeat' ((first|refine Nd ?_|refine Hv fun _h=>?_);conv=>whnf)))
   refine CallN.pureA Qjf (QiZ m (QE m b : Nat) (relE (m.getD (QE m b) default) b v fz fo tz to move).1 hm (by omega) (by omega) ) ?_
   ((conv=>whnf);(repeat' ((first|refine Nd ?_|refine Hv fun _h=>?_);conv=>whnf)))
   rw [show relM m b v fz fo tz to move = (m.set (QE m b) (relE (m.getD (QE m b) default) b v fz fo tz to move).1, true) by unfold relM; rw [if_pos c, if_pos d]]
   exact RM.i0
  ·refine Br.yes (by rw [Qq d]; rfl) ?_
   ((conv=>whnf);(repeat' ((first|refine Nd ?_|refine Hv fun _h=>?_);conv=>whnf)))
   rw [show relM m b v fz fo tz to move = (m, false) by unfold relM; rw [if_pos c, if_neg d]]
   exact RM.i0
 ·refine Br.yes (Decidable.byContradiction fun ebye => c (by simp [-List.getD_eq_getElem?_getD, -Int.default_eq_zero] at ebye <;> grind)) ?_; conv=>whnf
  ((conv=>whnf);(repeat' ((first|refine Nd ?_|refine Hv fun _h=>?_);conv=>whnf)))
  rw [show relM m b v fz fo tz to move = (m, false) from if_neg c]
  exact RM.i0
theorem Qnt : HB 203 := hB Tryz.func203
end Go.Proofs
end
