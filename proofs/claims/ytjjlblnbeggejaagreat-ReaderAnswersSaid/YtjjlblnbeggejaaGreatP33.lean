/- Contracts, lemmas; no condition. -/
import Derived.Test.YtjjlblnbeggejaaGreatP32
import Derived.Test.YtjjlblnbeggejaaGreatP28
import Derived.Test.YtjjlblnbeggejaaGreatP26
import Derived.Test.YtjjlblnbeggejaaGreatP12
import Derived.Test.YtjjlblnbeggejaaGreatP17
set_option linter.all false
section
open Go Go.Am
namespace Go.Proofs
set_option maxRecDepth 20000
variable {l : List Ent} {e : Ent} {p : Nat} {mv : Int}
theorem QmK {k k' : Nat} {t : List C} {Z : Nat → Nat → C} {n1 n2 k2 i j : Nat} (hk : k ≤ l.length) (h1 : n1 = k) (h2 : n2 = k + 1) (h3 : k2 = k') (hj : j < 6) :
  appG (appG (appG Z 0 (entG l)) n1 (QaE 6 (e.cells ++ t))) n2 (fun i j => entG l (k2 + i) j) i j = entG (l.take k ++ e :: l.drop k') i j := by
 subst h1 h2 h3
 have hlen : (l.take n1).length = n1 := by rw [QxO]; omega
 unfold appG
 simp only [QxN, if_false, Nat.sub_zero]
 unfold entG rowG
 by_cases c1 : i < n1 + 1
 ·rw [Qxt c1]
  by_cases c2 : i < n1
  ·rw [Qxt c2]
   congr 1
   simp only [List.getD]
   rw [QxS om, Qye, Qxt c2]
  ·rw [Qxu c2]
   have : i = n1 := by omega
   subst this
   rw [show (l.take i ++ e :: l.drop k2).getD i default = e by
    simp only [List.getD]
    rw [QxY om, hlen, Nat.sub_self]
    rfl]
   rw [Nat.sub_self]
   match j, hj with
   | 0, _ => rfl
   | 1, _ => rfl
   | 2, _ => rfl
   | 3, _ => rfl
   | 4, _ => rfl
   | 5, _ => rfl
 ·rw [Qxu c1]
  congr 1
  simp only [List.getD]
  rw [QxY om, hlen, show i - n1 = (i - (n1 + 1)) + 1 by omega, List.getElem?_cons_succ, QyE]
set_option maxHeartbeats 4000000 in
theorem Qlp (l : List Ent) (e : Ent) (hl : l.length ≤ 1000000) : PS 101 [.c (Qap l), .a e.cells] (.t [.inl (Qap (QaP l e).1), .inr (QaP l e).2.1.cells, .inl (.bool (QaP l e).2.2)]) := by
 refine PSpec.rm ?_
 refine ov hΓ Tryz.func101 59 0 [.tmp 4, .cell 5 47, .tmp 6] Tryz.ntmps101 Tryz.results101 ?_
 ((conv=>whnf);(repeat' ((first|refine Nd ?_|refine Hv fun _h=>?_);conv=>whnf)))
 refine QuU Qdq (Qdp l hl ) ?_
 ((conv=>whnf);(repeat' ((first|refine Nd ?_|refine Hv fun _h=>?_);conv=>whnf)))
 by_cases hv : QM l = true
 ·refine Br.no (by rw [hv]; rfl) ?_
  ((conv=>whnf);(repeat' ((first|refine Nd ?_|refine Hv fun _h=>?_);conv=>whnf)))
  refine QuU QhK (QhN e ) ?_
  ((conv=>whnf);(repeat' ((first|refine Nd ?_|refine Hv fun _h=>?_);conv=>whnf)))
  by_cases he : QaQ e = true
  ·refine Br.no (by rw [he]; rfl) ?_
   ((conv=>whnf);(repeat' ((first|refine Nd ?_|refine Hv fun _h=>?_);conv=>whnf)))
   have hple := QdU l e.block
   refine QuU Qfe (Qfi l e.block hl ) ?_
   ((conv=>whnf);(repeat' ((first|refine Nd ?_|refine Hv fun _h=>?_);conv=>whnf)))
   refine QuU Qjt (Qjv l e.block hl ) ?_
   ((conv=>whnf);(repeat' ((first|refine Nd ?_|refine Hv fun _h=>?_);conv=>whnf)))
   have hf2 : (QO l e.block).2 = hasM l e.block := by
    unfold QO
    by_cases q : hasM l e.block = true
    ·rw [Qxt ⟨hv, q⟩, q]
    ·rw [Qxu (fun z => q z.2), Qq q]
   by_cases c : (QO l e.block).2 = true ∧ e.version ≤ (QO l e.block).1.version
   ·refine Br.yes (by simp [-List.getD_eq_getElem?_getD, c.1]; exact c.2) ?_
    ((conv=>whnf);(repeat' ((first|refine Nd ?_|refine Hv fun _h=>?_);conv=>whnf)))
    refine Dr.mk hΓ hMix (by kernel_rfl) ?_; conv=>whnf
    ((conv=>whnf);(repeat' ((first|refine Nd ?_|refine Hv fun _h=>?_);conv=>whnf)))
    rw [show QaP l e = (l, (QO l e.block).1, false) by unfold QaP; rw [Qxt hv, Qxt he, Qxt c]]
    exact QuV
   ·refine Br.no (QxG.2 fun z => c (by simpa using z)) ?_
    ((conv=>whnf);(repeat' ((first|refine Nd ?_|refine Hv fun _h=>?_);conv=>whnf)))
    have hi : QaP l e = (putE l e, (QO l e.block).1, true) := by unfold QaP; rw [Qxt hv, Qxt he, Qxu c]
    have w1 := Qa ((Qo l e.block : Int) + 1) om om
    by_cases hm : hasM l e.block = true
    ·have hm' := (hasM_iff.1 hm).1
     refine Br.yes (hf2.trans hm) ?_
     ((conv=>whnf);(repeat' ((first|refine Nd ?_|refine Hv fun _h=>?_);conv=>whnf)))
     rw [w1]
     ((conv=>whnf);(repeat' ((first|refine Nd ?_|refine Hv fun _h=>?_);conv=>whnf)))
     refine Qvd hΓ hMix [] [(5, 4)] (by kernel_rfl) ?_; conv=>whnf
     ((conv=>whnf);(repeat' ((first|refine Nd ?_|refine Hv fun _h=>?_);conv=>whnf)))
     have hpe : putE l e = l.take (Qo l e.block) ++ e :: l.drop (Qo l e.block + 1) := by unfold putE; rw [Qxt hm]
     have hpl : (putE l e).length = Qo l e.block + 1 + (l.length - (Qo l e.block + 1)) := by rw [hpe]; simp; omega
     rw [hi]
     refine QvC (FwT.consC (QvI rfl rfl (by rw [hpl]; simp only [Qxy]; omega) (fun i _ j hj => (QmK (e := e) hple (by simp) (by simp) (show (((Qo l e.block : Nat) : Int) + 1).toNat = Qo l e.block + 1 by omega) hj).trans (by rw [hpe])) (fun _ _ => Qaw _ _)) (FwT.consL (FwL.cons (Fw.same rfl) (FwL.cons (Fw.same rfl) (FwL.cons (Fw.same rfl) (FwL.cons (Fw.same rfl) (FwL.cons (Fw.same rfl) (FwL.cons (Fw.same rfl) FwL.nil)))))) (FwT.consC (Fw.same rfl) FwT.nil)))
    ·refine Br.no (hf2.trans (Qq hm)) ?_
     ((conv=>whnf);(repeat' ((first|refine Nd ?_|refine Hv fun _h=>?_);conv=>whnf)))
     refine Qvd hΓ hMix [] [(5, 4)] (by kernel_rfl) ?_; conv=>whnf
     ((conv=>whnf);(repeat' ((first|refine Nd ?_|refine Hv fun _h=>?_);conv=>whnf)))
     have hpe : putE l e = l.take (Qo l e.block) ++ e :: l.drop (Qo l e.block) := by unfold putE; rw [Qxu hm]
     have hpl : (putE l e).length = Qo l e.block + 1 + (l.length - Qo l e.block) := by rw [hpe]; simp; omega
     rw [hi]
     refine QvC (FwT.consC (QvI rfl rfl (by rw [hpl]; simp only [Qxy]; omega) (fun i _ j hj => (QmK (e := e) hple (by simp) (by simp) (show (((Qo l e.block : Nat) : Int)).toNat = Qo l e.block by omega) hj).trans (by rw [hpe])) (fun _ _ => Qaw _ _)) (FwT.consL (FwL.cons (Fw.same rfl) (FwL.cons (Fw.same rfl) (FwL.cons (Fw.same rfl) (FwL.cons (Fw.same rfl) (FwL.cons (Fw.same rfl) (FwL.cons (Fw.same rfl) FwL.nil)))))) (FwT.consC (Fw.same rfl) FwT.nil)))
  ·refine Br.yes (by rw [Qq he]; rfl) ?_
   ((conv=>whnf);(repeat' ((first|refine Nd ?_|refine Hv fun _h=>?_);conv=>whnf)))
   rw [show QaP l e = (l, default, false) by unfold QaP; rw [Qxt hv, Qxu he]]
   exact QuV
 ·refine Br.yes (by rw [Qq hv]; rfl) ?_
  ((conv=>whnf);(repeat' ((first|refine Nd ?_|refine Hv fun _h=>?_);conv=>whnf)))
  rw [show QaP l e = ([], default, false) from Qxu hv]
  exact QuV
theorem QlF : HB 101 := hB Tryz.func101
theorem Qrq {tz zto : Int} (hp : p < l.length) (i j : Nat) (hj : j < 6) : updG (entG l) p 4 [.int .i64 tz, .int .i64 zto] i j = entG (l.set p { l.getD p default with zone := tz, offset := zto }) i j := by
 refine QeA hp (es := 6) (fun j hj => ?_) i j hj
 match j, hj with
 | 0, _ => rfl
 | 1, _ => rfl
 | 2, _ => rfl
 | 3, _ => rfl
 | 4, _ => rfl
 | 5, _ => rfl
theorem Qsh (hp : p < l.length) (i j : Nat) (hj : j < 6) : updG (entG l) p 3 [.int .i64 mv] i j = entG (l.set p { l.getD p default with move := mv }) i j := by
 refine QeA hp (es := 6) (fun j hj => ?_) i j hj
 match j, hj with
 | 0, _ => rfl
 | 1, _ => rfl
 | 2, _ => rfl
 | 3, _ => rfl
 | 4, _ => rfl
 | 5, _ => rfl
theorem Qr9 {tz zto : Int} (hp : p < l.length) (he : e = l.getD p default) (i j : Nat) (hj : j < 6) : updG (updG (entG l) p 4 [.int .i64 tz, .int .i64 zto]) p 3 [.int .i64 mv] i j = entG (l.set p { e with zone := tz, offset := zto, move := mv }) i j := by
 subst he
 rw [Qqg (Qrq hp i j hj), Qsh (by simpa using hp) i j hj, QsG hp, List.set_set]
set_option maxHeartbeats 4000000 in
theorem Qom (l : List Ent) (b v fz fo tz zto move : Int) (hl : l.length ≤ 1000000) : PS 262 [.c (Qap l), .c (.int .i64 b), .c (.int .i64 v), .a [.int .i64 fz, .int .i64 fo], .a [.int .i64 tz, .int .i64 zto], .c (.int .i64 move)] (.t [.inl (Qap (relE l b v fz fo tz zto move).1), .inl (.bool (relE l b v fz fo tz zto move).2)]) := by
 refine PSpec.rm ?_
 refine ov hΓ Tryz.func262 77 0 [.tmp 12, .tmp 13] Tryz.ntmps262 Tryz.results262 ?_
 ((conv=>whnf);(repeat' ((first|refine Nd ?_|refine Hv fun _h=>?_);conv=>whnf)))
 refine QuU Qdq (Qdp l hl ) ?_
 ((conv=>whnf);(repeat' ((first|refine Nd ?_|refine Hv fun _h=>?_);conv=>whnf)))
 by_cases hv : QM l = true
 ·refine Br.no (by rw [hv]; rfl) ?_
  ((conv=>whnf);(repeat' ((first|refine Nd ?_|refine Hv fun _h=>?_);conv=>whnf)))
  refine QuU Qjt (Qjv l b hl ) ?_
  ((conv=>whnf);(repeat' ((first|refine Nd ?_|refine Hv fun _h=>?_);conv=>whnf)))
  by_cases c : (QO l b).2 = true ∧ (QO l b).1.version = v ∧ (QO l b).1.zone = fz ∧ (QO l b).1.offset = fo ∧ 0 ≤ tz ∧ 0 ≤ zto ∧ 0 ≤ move ∧ move ≤ 255
  ·have hi : relE l b v fz fo tz zto move = (l.set (Qo l b) { (QO l b).1 with zone := tz, offset := zto, move := move }, true) := by unfold relE; rw [Qxt hv, Qxt c]
   refine Br.no (QxG.2 fun ebye => by simp [-List.getD_eq_getElem?_getD, -Int.default_eq_zero, c.1,c.2.1,c.2.2.1,c.2.2.2.1,c.2.2.2.2] at ebye <;> grind) ?_; conv=>whnf
   ((conv=>whnf);(repeat' ((first|refine Nd ?_|refine Hv fun _h=>?_);conv=>whnf)))
   have hple := QdU l b
   refine QuU Qfe (Qfi l b hl ) ?_
   ((conv=>whnf);(repeat' ((first|refine Nd ?_|refine Hv fun _h=>?_);conv=>whnf)))
   have hm : hasM l b = true := by
    have h2 := c.1
    unfold QO at h2
    by_cases q : hasM l b = true
    ·exact q
    ·rw [Qxu (fun z => q z.2)] at h2; cases h2
   have hlt := (hasM_iff.1 hm).1
   have hfe : (QO l b).1 = l.getD (Qo l b) default := by unfold QO; rw [Qxt ⟨hv, hm⟩]
   ((conv=>whnf);(repeat' ((first|refine Nd ?_|refine Hv fun _h=>?_);conv=>whnf)))
   rw [hi]
   exact QvC (FwT.consC (QvI rfl rfl (by simp) (fun i _ j hj => Qr9 hlt hfe i j hj) (fun _ _ => Qaw _ _)) (FwT.consC (Fw.same rfl) FwT.nil))
  ·refine Br.yes (QxC fun ebye => c (by simp [-List.getD_eq_getElem?_getD, -Int.default_eq_zero] at ebye <;> grind)) ?_; conv=>whnf
   ((conv=>whnf);(repeat' ((first|refine Nd ?_|refine Hv fun _h=>?_);conv=>whnf)))
   rw [show relE l b v fz fo tz zto move = (l, false) by unfold relE; rw [Qxt hv, Qxu c]]
   exact QuV
 ·refine Br.yes (by rw [Qq hv]; rfl) ?_
  ((conv=>whnf);(repeat' ((first|refine Nd ?_|refine Hv fun _h=>?_);conv=>whnf)))
  rw [show relE l b v fz fo tz zto move = ([], false) from Qxu hv]
  exact QuV
theorem Qob : HB 262 := hB Tryz.func262
theorem QiZ (m : List (List Ent)) (i : Int) (l : List Ent) (hm : m.length ≤ 1000000) (h0 : 0 ≤ i) (h1 : i < m.length) : PS 102 [.a [QC m], .c (.int .i64 i), .c (Qap l)] (.a [QC (m.set i.toNat l)]) := by
 have hi : i.toNat < m.length := by omega
 refine PSpec.rm ?_
 refine ov hΓ Tryz.func102 18 0 [.cell 6 32] Tryz.ntmps102 Tryz.results102 ?_
 ((conv=>whnf);(repeat' ((first|refine Nd ?_|refine Hv fun _h=>?_);conv=>whnf)))
 refine Qwz (FwL.cons (QvI rfl rfl (by simp) (fun a _ j hj => QeA (f := fun (l : List Ent) (_ : Nat) => Qap l) (x := l) hi (es := 1) (fun j hj => ?_) a j hj) (fun _ _ => rfl)) FwL.nil)
 have : j = 0 := by omega
 subst this
 rfl
theorem Qjf : HB 102 := hB Tryz.func102
theorem QkP {m : List (List Ent)} {b : Int} (h : Qx m = true) (hb : 0 ≤ b) : Qaj m b = (QE m b : Nat) := by
 have := Qbw h
 unfold Qaj
 rw [Qxu om, QhX h hb]
theorem Qvc (m : List (List Ent)) (b : Int) (hm : m.length ≤ 1000000) (hs : ∀ i, (m.getD i default).length ≤ 1000000) : PS 26 [.a [QC m], .c (.int .i64 b)] (.t [.inr (QfX m b).1.cells, .inl (.bool (QfX m b).2)]) := by
 refine PSpec.rm ?_
 refine ov hΓ Tryz.func26 25 0 [.cell 4 47, .tmp 5] Tryz.ntmps26 Tryz.results26 ?_
 ((conv=>whnf);(repeat' ((first|refine Nd ?_|refine Hv fun _h=>?_);conv=>whnf)))
 refine QuU Qff (Qe4 m hm hs ) ?_
 ((conv=>whnf);(repeat' ((first|refine Nd ?_|refine Hv fun _h=>?_);conv=>whnf)))
 by_cases c : Qx m = true ∧ 0 ≤ b
 ·have hlt := Qd4 c.1 c.2
  have hint := QhX c.1 c.2
  refine Br.no (QxG.2 fun ebye => by simp [-List.getD_eq_getElem?_getD, -Int.default_eq_zero, c.1,c.2] at ebye <;> grind) ?_; conv=>whnf
  ((conv=>whnf);(repeat' ((first|refine Nd ?_|refine Hv fun _h=>?_);conv=>whnf)))
  refine Dr.mk hΓ hMix (by kernel_rfl) ?_; conv=>whnf
  ((conv=>whnf);(repeat' ((first|refine Nd ?_|refine Hv fun _h=>?_);conv=>whnf)))
  refine CallP.auto Qgr (QgO m b hm ) ?_
  rw [QkP c.1 c.2]
  ((conv=>whnf);(repeat' ((first|refine Nd ?_|refine Hv fun _h=>?_);conv=>whnf)))
  refine CallP.auto Qjt (Qjv (m.getD (QE m b) default) b (hs _) ) ?_
  ((conv=>whnf);(repeat' ((first|refine Nd ?_|refine Hv fun _h=>?_);conv=>whnf)))
  rw [show QfX m b = QO (m.getD (QE m b) default) b from Qxt c]
  exact QuV
 ·refine Br.yes (QxC fun ebye => c (by simp [-List.getD_eq_getElem?_getD, -Int.default_eq_zero] at ebye <;> grind)) ?_; conv=>whnf
  ((conv=>whnf);(repeat' ((first|refine Nd ?_|refine Hv fun _h=>?_);conv=>whnf)))
  rw [show QfX m b = (default, false) from Qxu c]
  exact QuV
theorem Qvt : HB 26 := hB Tryz.func26
set_option maxHeartbeats 2000000 in
theorem Qqa (m : List (List Ent)) (e : Ent) (hm : m.length ≤ 1000000) (hs : ∀ i, (m.getD i default).length ≤ 1000000) : PS 28 [.a [QC m], .a e.cells] (.t [.inr [QC (Qax m e).1], .inr (Qax m e).2.1.cells, .inl (.bool (Qax m e).2.2)]) := by
 refine PSpec.rm ?_
 refine ov hΓ Tryz.func28 45 0 [.cell 4 32, .cell 5 47, .tmp 6] Tryz.ntmps28 Tryz.results28 ?_
 ((conv=>whnf);(repeat' ((first|refine Nd ?_|refine Hv fun _h=>?_);conv=>whnf)))
 refine QuU Qff (Qe4 m hm hs ) ?_
 ((conv=>whnf);(repeat' ((first|refine Nd ?_|refine Hv fun _h=>?_);conv=>whnf)))
 by_cases c : Qx m = true ∧ 0 ≤ e.block
 ·have hlt := Qd4 c.1 c.2
  refine Br.no (QxG.2 fun ebye => by simp [-List.getD_eq_getElem?_getD, -Int.default_eq_zero, c.1,c.2] at ebye <;> grind) ?_; conv=>whnf
  ((conv=>whnf);(repeat' ((first|refine Nd ?_|refine Hv fun _h=>?_);conv=>whnf)))
  refine QuU Qgr (QgO m e.block hm ) ?_
  rw [QkP c.1 c.2]
  ((conv=>whnf);(repeat' ((first|refine Nd ?_|refine Hv fun _h=>?_);conv=>whnf)))
  refine Qvd hΓ hMix [] [(10, 13)] (by kernel_rfl) ?_; conv=>whnf
  ((conv=>whnf);(repeat' ((first|refine Nd ?_|refine Hv fun _h=>?_);conv=>whnf)))
  refine CallP.auto QlF (Qlp (m.getD (QE m e.block) default) e (hs _) ) ?_
  ((conv=>whnf);(repeat' ((first|refine Nd ?_|refine Hv fun _h=>?_);conv=>whnf)))
  by_cases d : (QaP (m.getD (QE m e.block) default) e).2.2 = true
  ·refine Br.no (by rw [d]; rfl) ?_
   ((conv=>whnf);(repeat' ((first|refine Nd ?_|refine Hv fun _h=>?_);conv=>whnf)))
   refine Qvd hΓ hMix [] [(4, 5)] (by kernel_rfl) ?_; conv=>whnf
   ((conv=>whnf);(repeat' ((first|refine Nd ?_|refine Hv fun _h=>?_);conv=>whnf)))
   refine CallP.auto Qjf (QiZ m (QE m e.block : Nat) (QaP (m.getD (QE m e.block) default) e).1 hm om om ) ?_
   ((conv=>whnf);(repeat' ((first|refine Nd ?_|refine Hv fun _h=>?_);conv=>whnf)))
   rw [show Qax m e = (m.set (QE m e.block) (QaP (m.getD (QE m e.block) default) e).1, (QaP (m.getD (QE m e.block) default) e).2.1, true) by unfold Qax; rw [Qxt c, Qxt d]]
   exact QuV
  ·refine Br.yes (by rw [Qq d]; rfl) ?_
   ((conv=>whnf);(repeat' ((first|refine Nd ?_|refine Hv fun _h=>?_);conv=>whnf)))
   refine Qvd hΓ hMix [] [(1, 2)] (by kernel_rfl) ?_; conv=>whnf
   ((conv=>whnf);(repeat' ((first|refine Nd ?_|refine Hv fun _h=>?_);conv=>whnf)))
   rw [show Qax m e = (m, (QaP (m.getD (QE m e.block) default) e).2.1, false) by unfold Qax; rw [Qxt c, Qxu d]]
   exact QuV
 ·refine Br.yes (QxC fun ebye => c (by simp [-List.getD_eq_getElem?_getD, -Int.default_eq_zero] at ebye <;> grind)) ?_; conv=>whnf
  ((conv=>whnf);(repeat' ((first|refine Nd ?_|refine Hv fun _h=>?_);conv=>whnf)))
  rw [show Qax m e = (m, default, false) from Qxu c]
  exact QuV
theorem QqJ : HB 28 := hB Tryz.func28
set_option maxHeartbeats 2000000 in
theorem QnL (m : List (List Ent)) (b v fz fo tz zto move : Int) (hm : m.length ≤ 1000000) (hs : ∀ i, (m.getD i default).length ≤ 1000000) : PS 203 [.a [QC m], .c (.int .i64 b), .c (.int .i64 v), .a [.int .i64 fz, .int .i64 fo], .a [.int .i64 tz, .int .i64 zto], .c (.int .i64 move)] (.t [.inr [QC (relM m b v fz fo tz zto move).1], .inl (.bool (relM m b v fz fo tz zto move).2)]) := by
 refine PSpec.rm ?_
 refine ov hΓ Tryz.func203 49 0 [.cell 12 32, .tmp 13] Tryz.ntmps203 Tryz.results203 ?_
 ((conv=>whnf);(repeat' ((first|refine Nd ?_|refine Hv fun _h=>?_);conv=>whnf)))
 refine QuU Qff (Qe4 m hm hs ) ?_
 ((conv=>whnf);(repeat' ((first|refine Nd ?_|refine Hv fun _h=>?_);conv=>whnf)))
 by_cases c : Qx m = true ∧ 0 ≤ b
 ·have hlt := Qd4 c.1 c.2
  refine Br.no (QxG.2 fun ebye => by simp [-List.getD_eq_getElem?_getD, -Int.default_eq_zero, c.1,c.2] at ebye <;> grind) ?_; conv=>whnf
  ((conv=>whnf);(repeat' ((first|refine Nd ?_|refine Hv fun _h=>?_);conv=>whnf)))
  refine QuU Qgr (QgO m b hm ) ?_
  rw [QkP c.1 c.2]
  ((conv=>whnf);(repeat' ((first|refine Nd ?_|refine Hv fun _h=>?_);conv=>whnf)))
  refine Dr.mk hΓ hMix (by kernel_rfl) ?_; conv=>whnf
  ((conv=>whnf);(repeat' ((first|refine Nd ?_|refine Hv fun _h=>?_);conv=>whnf)))
  refine CallP.auto Qob (Qom (m.getD (QE m b) default) b v fz fo tz zto move (hs _) ) ?_
  ((conv=>whnf);(repeat' ((first|refine Nd ?_|refine Hv fun _h=>?_);conv=>whnf)))
  by_cases d : (relE (m.getD (QE m b) default) b v fz fo tz zto move).2 = true
  ·refine Br.no (by rw [d]; rfl) ?_
   ((conv=>whnf);(repeat' ((first|refine Nd ?_|refine Hv fun _h=>?_);conv=>whnf)))
   refine QuU Qjf (QiZ m (QE m b : Nat) (relE (m.getD (QE m b) default) b v fz fo tz zto move).1 hm om om ) ?_
   ((conv=>whnf);(repeat' ((first|refine Nd ?_|refine Hv fun _h=>?_);conv=>whnf)))
   rw [show relM m b v fz fo tz zto move = (m.set (QE m b) (relE (m.getD (QE m b) default) b v fz fo tz zto move).1, true) by unfold relM; rw [Qxt c, Qxt d]]
   exact QuV
  ·refine Br.yes (by rw [Qq d]; rfl) ?_
   ((conv=>whnf);(repeat' ((first|refine Nd ?_|refine Hv fun _h=>?_);conv=>whnf)))
   rw [show relM m b v fz fo tz zto move = (m, false) by unfold relM; rw [Qxt c, Qxu d]]
   exact QuV
 ·refine Br.yes (QxC fun ebye => c (by simp [-List.getD_eq_getElem?_getD, -Int.default_eq_zero] at ebye <;> grind)) ?_; conv=>whnf
  ((conv=>whnf);(repeat' ((first|refine Nd ?_|refine Hv fun _h=>?_);conv=>whnf)))
  rw [show relM m b v fz fo tz zto move = (m, false) from Qxu c]
  exact QuV
theorem Qnt : HB 203 := hB Tryz.func203
theorem QtX (x : Int) : (x != 0) = decide (x ≠ 0) := by
 by_cases h : x = 0 <;> simp [h]
set_option maxHeartbeats 4000000 in
theorem QlZ (s : St) (h1 : s.map.length ≤ 1000000) (h2 : ∀ i, (s.map.getD i default).length ≤ 1000000) (h3 : s.live.length ≤ 1000000) (h4 : s.pend.length ≤ 1000000) (e : Ent) : CS 199 [.a (s.cellsK 0), .a e.cells] [s.wobj] fun r H => r = .a ((s.install e).cellsK 0) ∧ H = [(s.install e).wobj] := by
 refine CSpec.rm ?_
 refine ov hΓ Tryz.func199 32 1 [.cell 4 58] Tryz.ntmps199 Tryz.results199 ?_
 ((conv=>whnf);(repeat' ((first|refine Nd ?_|refine Hv fun _h=>?_);conv=>whnf)))
 refine QuU QqJ (Qqa s.map e h1 h2 ) ?_
 ((conv=>whnf);(repeat' ((first|refine Nd ?_|refine Hv fun _h=>?_);conv=>whnf)))
 by_cases c : (Qax s.map e).2.2 = true
 ·refine Br.yes c ?_
  ((conv=>whnf);(repeat' ((first|refine Nd ?_|refine Hv fun _h=>?_);conv=>whnf)))
  refine QuU Qgd (Qge s.live s.pend (Qax s.map e).2.1 e ((Qax s.map e).2.1.kind != 0) true h3 h4 ) ?_
  ((conv=>whnf);(repeat' ((first|refine Nd ?_|refine Hv fun _h=>?_);conv=>whnf)))
  rw [show s.install e = { s with live := (Qar s.live s.pend (Qax s.map e).2.1.zone e.zone ((Qax s.map e).2.1.kind != 0) true).1, map := (Qax s.map e).1 } by rw [QtX]; exact Qxt c]
  refine ⟨_, _, ?_, rfl, rfl⟩
  exact QvB
 ·refine Br.no (Qq c) ?_
  ((conv=>whnf);(repeat' ((first|refine Nd ?_|refine Hv fun _h=>?_);conv=>whnf)))
  rw [show s.install e = s from Qxu c]
  refine ⟨_, _, ?_, rfl, rfl⟩
  exact QvB
theorem QmD : HB 199 := hB Tryz.func199
set_option maxHeartbeats 4000000 in
theorem Qjd (s : St) (hs : s.small) (zone : Int) (r : Rec) : CS 142 [.a (s.cellsK 0), .c (.int .i64 zone), .a r.cells] [s.wobj] fun x H => x = .a ((s.add zone r).cellsK 0) ∧ H = [(s.add zone r).wobj] := by
 refine CSpec.rm ?_
 refine ov hΓ Tryz.func142 39 1 [.cell 6 58] Tryz.ntmps142 Tryz.results142 ?_
 ((conv=>whnf);(repeat' ((first|refine Nd ?_|refine Hv fun _h=>?_);conv=>whnf)))
 refine Qvd hΓ hMix [] [(8, 11), (9, 11)] (by kernel_rfl) ?_; conv=>whnf
 ((conv=>whnf);(repeat' ((first|refine Nd ?_|refine Hv fun _h=>?_);conv=>whnf)))
 refine CallP.auto Qdr (QdK r ) ?_
 ((conv=>whnf);(repeat' ((first|refine Nd ?_|refine Hv fun _h=>?_);conv=>whnf)))
 refine CallP.auto QcT (Qc7 s.dev hs.dev zone (encR r) ) ?_
 ((conv=>whnf);(repeat' ((first|refine Nd ?_|refine Hv fun _h=>?_);conv=>whnf)))
 by_cases c : Qj s.dev zone (encR r) = 0
 ·refine Br.no (by rw [c]; rfl) ?_
  ((conv=>whnf);(repeat' ((first|refine Nd ?_|refine Hv fun _h=>?_);conv=>whnf)))
  refine CallN.autoI [0] QmD (QlZ (s.put zone r) hs.map hs.shard hs.live hs.pend (recE r zone (QA s.dev zone (encR r)))) plh ?_; conv=>whnf
  ((conv=>whnf);(repeat' ((first|refine Nd ?_|refine Hv fun _h=>?_);conv=>whnf)))
  rw [show s.add zone r = (s.put zone r).install (recE r zone (QA s.dev zone (encR r))) from Qxt c]
  refine ⟨_, _, ?_, rfl, rfl⟩
  exact QvB
 ·refine Br.yes (by simpa using c) ?_
  ((conv=>whnf);(repeat' ((first|refine Nd ?_|refine Hv fun _h=>?_);conv=>whnf)))
  rw [show s.add zone r = s from Qxu c]
  refine ⟨_, _, ?_, rfl, rfl⟩
  exact QvB
theorem QjH : HB 142 := hB Tryz.func142
theorem Qhj {d : DiceM} (h : d.ok) : (recD d).ok := h.step.step.step
theorem Qh6 {z : Int} {p : DS} (h : p.1.ok) : ∀ k, (addTo z p k).1.ok
 | 0 => h
 | k + 1 => Qhj (Qh6 h k)
set_option maxHeartbeats 1000000 in
theorem Qjp (d : DiceM) (hd : d.ok) (s : St) (hn : 0 ≤ s.next ∧ s.next ≤ 1000000000) : CS 141 [.c (.ptr 0 0), .a (s.cellsK 1)] [.vr d.cells, s.wobj] fun x H => x = .t [.inr (recR d s.cfg.blocks s.next).cells, .inr (s.bump.cellsK 1)] ∧ H = [.vr (recD d).cells, s.bump.wobj] := by
 have w0 := Qa (s.next + 1) om om
 refine CSpec.rm ?_
 refine ov hΓ Tryz.func141 20 2 [.cell 4 109, .cell 5 58] Tryz.ntmps141 Tryz.results141 ?_
 ((conv=>whnf);(repeat' ((first|refine Nd ?_|refine Hv fun _h=>?_);conv=>whnf)))
 refine CallN.autoQ [0] Qfk (Qfb d hd s.cfg.blocks s.next) ?_; conv=>whnf
 ((conv=>whnf);(repeat' ((first|refine Nd ?_|refine Hv fun _h=>?_);conv=>whnf)))
 rw [w0]
 refine Qvd hΓ hMix [] [(1, 2)] (by kernel_rfl) ?_; conv=>whnf
 ((conv=>whnf);(repeat' ((first|refine Nd ?_|refine Hv fun _h=>?_);conv=>whnf)))
 refine ⟨_, _, ?_, rfl, rfl⟩
 exact QvB
theorem Qje : HB 141 := hB Tryz.func141
theorem Qcc (l : List Int) (n : Int) (hl : l.length ≤ 1000000) : PS 46 [.c (Qh l), .c (.int .i64 n)] (.c (Qh (Qah l n))) := by
 refine PSpec.rm ?_
 refine ov hΓ Tryz.func46 27 0 [.tmp 4] Tryz.ntmps46 Tryz.results46 ?_
 ((conv=>whnf);(repeat' ((first|refine Nd ?_|refine Hv fun _h=>?_);conv=>whnf)))
 refine Qwu 3 1 (QaK .i64 []) 5 rfl ?_
 refine QuY hΓ (ι := Nat) [0, 1, 4] (fun k => [(6, .c (.int .i64 k)), (5, .c (.sl 0 1 (Qah (l.take k) n).length (Qah (l.take k) n).length false))]) (fun k => [.arr 3 1 (Qah (l.take k) n).length (QaK .i64 (Qah (l.take k) n))]) (fun k => k ≤ l.length) (fun k => l.length - k) 0 (Qxx _) ?_ ?_
 ·exact QuW
 ·intro k hk
  have hlq : (Qah (l.take k) n).length ≤ l.length := Qza (List.length_filter_le _ _) (by rw [QxO]; omega)
  ((conv=>whnf);(repeat' ((first|refine Nd ?_|refine Hv fun _h=>?_);conv=>whnf)))
  refine Br.of (fun h1=>?_) (fun h1=>?_)<;>(try simp only [Qxy] at h1)<;>(conv=>whnf)
  ·((conv=>whnf);(repeat' ((first|refine Nd ?_|refine Hv fun _h=>?_);conv=>whnf)))
   have w0 := Qa (↑k + 1) om om
   have ht : Qah (l.take (k + 1)) n = if l.getD k default ≠ n then Qah (l.take k) n ++ [l.getD k default] else Qah (l.take k) n := by
    unfold Qah
    rw [Qb9 l om, List.filter_append, List.filter_cons, List.filter_nil]
    split <;> simp_all
   by_cases c : l.getD k default ≠ n
   ·rw [Qxt c] at ht
    refine Br.yes (Qy2.2 c) ?_
    ((conv=>whnf);(repeat' ((first|refine Nd ?_|refine Hv fun _h=>?_);conv=>whnf)))
    refine ⟨k + 1, om, om, ?_⟩
    rw [ht]
    refine Qvm ?_
    exact fun i hi j hj => WC.eq (Qh3 rfl om hj) rfl
   ·rw [Qxu c] at ht
    refine Br.no (QxG.2 fun z => c (Qy2.1 z)) ?_
    ((conv=>whnf);(repeat' ((first|refine Nd ?_|refine Hv fun _h=>?_);conv=>whnf)))
    refine ⟨k + 1, om, om, ?_⟩
    rw [ht]
    exact QuW
  ·((conv=>whnf);(repeat' ((first|refine Nd ?_|refine Hv fun _h=>?_);conv=>whnf)))
   have : k = l.length := by omega
   subst this
   rw [Qzc]
   exact Qwj (Qwc rfl rfl rfl (fun _ _ _ _ => rfl))
theorem Qck : HB 46 := hB Tryz.func46
set_option maxHeartbeats 4000000 in
theorem QrI (c : Conf) (n : Int) (r e : Nat) (d : DiceM) (hd : d.ok) (s : St) (h : Gd c n r e s) (hn : n + c.size ≤ 1000000) (hr : r ≤ 1000) (he : e ≤ 1000) (zone : Int) (hz : 0 ≤ zone ∧ zone < c.zones) : CS 57 [.c (.ptr 0 0), .a (s.cellsK 1), .c (.int .i64 zone)] [.vr d.cells, s.wobj] fun x H => x = .a ((fullF zone (d, s)).2.cellsK 1) ∧ H = [.vr (fullF zone (d, s)).1.cells, (fullF zone (d, s)).2.wobj] := by
 have hcf := confR_iff.1 (QR h.conf).1
 have w1 := Qa (c.size - 1) om om
 refine CSpec.rm ?_
 refine ov hΓ Tryz.func57 53 2 [.cell 6 58] Tryz.ntmps57 Tryz.results57 ?_
 ((conv=>whnf);(repeat' ((first|refine Nd ?_|refine Hv fun _h=>?_);conv=>whnf)))
 refine QuY hΓ (ι := Nat) [0, 2, 4, 6] (fun k => [(7, .c (.int .i64 k))]) (fun k => [.vr (addTo zone (d, s) k).1.cells, (addTo zone (d, s) k).2.wobj, .vr ((addTo zone (d, s) k).2.cellsK 1), .vr (default : St).cells]) (fun k => k ≤ (c.size - 1).toNat) (fun k => (c.size - 1).toNat - k) 0 (Qxx _) ?_ ?_
 ·exact QuW
 ·intro k hk
  have hg := h.addTo (p := (d, s)) zone k om
  have hok := Qh6 (z := zone) (p := (d, s)) hd k
  have e1 : addTo zone (d, s) (k + 1) = addF zone (addTo zone (d, s) k) := rfl
  have e2 : k = (c.size - 1).toNat → fullF zone (d, s) = ((addTo zone (d, s) k).1, (addTo zone (d, s) k).2.seal zone) := fun q => by
   subst q
   unfold fullF
   rw [show ((d, s) : DS).2.cfg.size = c.size by rw [h.cfg]]
  generalize addTo zone (d, s) k = p at *
  have hsm := hg.small om om
  have hpn := hg.val.parts.next
  have hpn2 := hg.next
  have hcz : p.2.cfg.size = c.size := by rw [hg.cfg]
  have hzl := hg.val.parts.zones
  rw [hg.cfg] at hzl
  ((conv=>whnf);(repeat' ((first|refine Nd ?_|refine Hv fun _h=>?_);conv=>whnf)))
  rw [hcz, w1]
  refine Br.of (fun h1=>?_) (fun h1=>?_)<;>(try simp only [Qxy] at h1)<;>(conv=>whnf)
  ·((conv=>whnf);(repeat' ((first|refine Nd ?_|refine Hv fun _h=>?_);conv=>whnf)))
   have w0 := Qa (↑k + 1) om om
   refine CallN.autoI [0, 1] Qje (Qjp p.1 hok p.2 ⟨om, om⟩) plh ?_; conv=>whnf
   ((conv=>whnf);(repeat' ((first|refine Nd ?_|refine Hv fun _h=>?_);conv=>whnf)))
   refine CallN.autoI [1] QjH (Qjd p.2.bump ((hg.bump om).small om om) zone (recR p.1 p.2.cfg.blocks p.2.next)) plh ?_; conv=>whnf
   ((conv=>whnf);(repeat' ((first|refine Nd ?_|refine Hv fun _h=>?_);conv=>whnf)))
   refine ⟨k + 1, om, om, ?_⟩
   rw [e1]
   exact QuW
  ·((conv=>whnf);(repeat' ((first|refine Nd ?_|refine Hv fun _h=>?_);conv=>whnf)))
   have : k = (c.size - 1).toNat := by omega
   rw [e2 this]
   refine QuU QiF (QiH (QlU p.2 zone) ) ?_
   ((conv=>whnf);(repeat' ((first|refine Nd ?_|refine Hv fun _h=>?_);conv=>whnf)))
   refine Qvd hΓ hMix [] [(8, 11), (9, 11)] (by kernel_rfl) ?_; conv=>whnf
   ((conv=>whnf);(repeat' ((first|refine Nd ?_|refine Hv fun _h=>?_);conv=>whnf)))
   refine CallP.auto Qdr (QdK (QU (QlU p.2 zone)) ) ?_
   ((conv=>whnf);(repeat' ((first|refine Nd ?_|refine Hv fun _h=>?_);conv=>whnf)))
   refine CallP.auto QcT (Qc7 p.2.dev hsm.dev zone (encR (QU (QlU p.2 zone))) ) ?_
   ((conv=>whnf);(repeat' ((first|refine Nd ?_|refine Hv fun _h=>?_);conv=>whnf)))
   refine ⟨_, _, ?_, rfl, rfl⟩
   exact QvB
theorem Qra : HB 57 := hB Tryz.func57
set_option maxHeartbeats 4000000 in
theorem Qe2 (s : St) (hs : s.small) (e : Ent) (zone : Int) : CS 144 [.a (s.cellsK 0), .a e.cells, .c (.int .i64 zone)] [s.wobj] fun x H => x = .a ((s.copied e zone).cellsK 0) ∧ H = [s.wobj] := by
 refine CSpec.rm ?_
 refine ov hΓ Tryz.func144 99 1 [.cell 6 58] Tryz.ntmps144 Tryz.results144 ?_
 ((conv=>whnf);(repeat' ((first|refine Nd ?_|refine Hv fun _h=>?_);conv=>whnf)))
 refine QuU Qlt (Qlh s.dev e.zone e.offset ) ?_
 ((conv=>whnf);(repeat' ((first|refine Nd ?_|refine Hv fun _h=>?_);conv=>whnf)))
 refine QuU Qnu (Qod (Q5 s.dev e.zone e.offset) ) ?_
 ((conv=>whnf);(repeat' ((first|refine Nd ?_|refine Hv fun _h=>?_);conv=>whnf)))
 refine QuU QpP (QpE (QaA (Q5 s.dev e.zone e.offset)).1 ) ?_
 ((conv=>whnf);(repeat' ((first|refine Nd ?_|refine Hv fun _h=>?_);conv=>whnf)))
 by_cases c : QdD s.dev e.zone e.offset = 0 ∧ (QaA (Q5 s.dev e.zone e.offset)).2 = true ∧ (QbV (QaA (Q5 s.dev e.zone e.offset)).1).2 = true
 ·refine Br.no (QxG.2 fun ebye => by simp [-List.getD_eq_getElem?_getD, -Int.default_eq_zero, c.1, c.2.1, c.2.2] at ebye <;> grind) ?_; conv=>whnf
  ((conv=>whnf);(repeat' ((first|refine Nd ?_|refine Hv fun _h=>?_);conv=>whnf)))
  refine Qvd hΓ hMix [] [(8, 11), (9, 11)] (by kernel_rfl) ?_; conv=>whnf
  ((conv=>whnf);(repeat' ((first|refine Nd ?_|refine Hv fun _h=>?_);conv=>whnf)))
  refine CallP.auto Qdr (QdK (QbV (QaA (Q5 s.dev e.zone e.offset)).1).1 ) ?_
  ((conv=>whnf);(repeat' ((first|refine Nd ?_|refine Hv fun _h=>?_);conv=>whnf)))
  refine CallP.auto QcT (Qc7 s.dev hs.dev zone (encR (QbV (QaA (Q5 s.dev e.zone e.offset)).1).1) ) ?_
  ((conv=>whnf);(repeat' ((first|refine Nd ?_|refine Hv fun _h=>?_);conv=>whnf)))
  generalize hr : (QbV (QaA (Q5 s.dev e.zone e.offset)).1).1 = r
  have hw := Qda s e zone
  by_cases a : Qj s.dev zone (encR r) = 0
  ·refine Br.no (by rw [a]; rfl) ?_
   ((conv=>whnf);(repeat' ((first|refine Nd ?_|refine Hv fun _h=>?_);conv=>whnf)))
   refine Qvd hΓ hMix [] [(3, 6), (4, 6)] (by kernel_rfl) ?_; conv=>whnf
   ((conv=>whnf);(repeat' ((first|refine Nd ?_|refine Hv fun _h=>?_);conv=>whnf)))
   refine QuU Qnt (QnL s.map e.block e.version e.zone e.offset zone (QA s.dev zone (encR r)) r.move hs.map hs.shard ) ?_
   ((conv=>whnf);(repeat' ((first|refine Nd ?_|refine Hv fun _h=>?_);conv=>whnf)))
   refine QuU Qgd (Qge s.live s.pend e { e with zone := zone, offset := QA s.dev zone (encR r), move := r.move } true true hs.live hs.pend ) ?_
   ((conv=>whnf);(repeat' ((first|refine Nd ?_|refine Hv fun _h=>?_);conv=>whnf)))
   have q : s.copied e zone = { s with dev := Qf s.dev zone (encR r), map := (relM s.map e.block e.version e.zone e.offset zone (QA s.dev zone (encR r)) r.move).1, live := (Qar s.live s.pend e.zone zone true true).1 } := by
    unfold St.copied
    rw [hr, Qxt ⟨c.1, c.2.1, c.2.2, a⟩]
   rw [q]
   refine ⟨_, _, ?_, rfl, rfl⟩
   exact QvB
  ·refine Br.yes (by simpa using a) ?_
   ((conv=>whnf);(repeat' ((first|refine Nd ?_|refine Hv fun _h=>?_);conv=>whnf)))
   rw [show s.copied e zone = s by unfold St.copied; rw [hr, Qxu fun z => a z.2.2.2]]
   refine ⟨_, _, ?_, rfl, rfl⟩
   exact QvB
 ·refine Br.yes (QxC fun ebye => c (by simp [-List.getD_eq_getElem?_getD, -Int.default_eq_zero] at ebye <;> grind)) ?_; conv=>whnf
  ((conv=>whnf);(repeat' ((first|refine Nd ?_|refine Hv fun _h=>?_);conv=>whnf)))
  rw [show s.copied e zone = s by unfold St.copied; rw [Qxu fun z => c ⟨z.1, z.2.1, z.2.2.1⟩]]
  refine ⟨_, _, ?_, rfl, rfl⟩
  exact QvB
theorem Qfh : HB 144 := hB Tryz.func144
theorem Qxl {ρ : Nat → Nat} {n : Nat} {id m id2 m2 : Nat} {g g2 : Nat → Nat → C} {c : C} (h : c.imm = true) : WC ρ n (fzC id m g (fzC id2 m2 g2 c)) c := by
 cases c with
 | ptr => cases h
 | ep => cases h
 | sl => cases h
 | mpr => cases h
 | fn f k g =>
  have : k = 0 := QxD h
  exact ⟨⟨rfl, rfl, fun j hj => by omega⟩⟩
 | _ => exact WC.imm rfl
set_option maxHeartbeats 4000000 in
theorem Qpv (c : Conf) (d : Dev) (h : QB c = 0) : CS 139 [.a c.cells, .a d.cells] [] fun x H => x = .a ((Qcl c d).cellsK 0) ∧ H = [(Qcl c d).wobj] := by
 refine CSpec.rm ?_
 have hr := (QR h).1
 have hq := confR_iff.1 hr
 have hs := Qak hr
 have hd := Qct hr
 have hd2 := (QR h).2.1
 have hdz : Qp c = c.zones - 2 * Qz c := rfl
 refine ov0 hΓ Tryz.func139 95 0 [.cell 4 58] Tryz.ntmps139 Tryz.results139 ?_
 refine QuU QfZ (QfS c h ) (Go0 ?_)
 refine QuU Qky (Qkx c.shards om om ) (Go0 ?_)
 refine QuU QiQ (Qi9 c.zones om om ) (Go0 ?_)
 refine QuU QiY (Qji c.shards om om ) (Go0 ?_)
 refine QuU QjB (QiR c.queues om om ) (Go0 ?_)
 refine Qxn hΓ hMix [] [] [(11, 12)] (by kernel_rfl) (by kernel_rfl) (Go0 ?_)
 refine QuY hΓ (ι := Nat) [2, 4, 5, 15] (fun k => [(16, .c (.int .i64 k))]) (fun k => [.vr c.cells, .vr d.cells, .vr (default : St).cells, .vr (Lay.cells c), .vr [QC (Qs c).map], .vr [Qh (Qs c).live, Qh (Qs c).pend], .vr [Qh (Qs c).owner], .vr [.int .i64 0, Qh (Qs c).pins, retC []], .arr 94 12 c.queues.toNat (wrkG (Qs c).works), .vr ((Qcl c d).cellsZ .nils (QC (Qs c).map) (.sl 10 2 k k false) (.sl 8 12 c.queues.toNat c.queues.toNat false) (evC [])), .arr 164 2 k (rngG (List.replicate k ⟨c.depth, []⟩))]) (fun k => k ≤ c.queues.toNat) (fun k => c.queues.toNat - k) 0 (Qxx _) ?_ ?_
 ·refine (Qv7 9 20 164 2 (rngG []) rfl rfl rfl rfl).trans ?_
  refine Qwy ?_ ?_
  ·exact fun i _ j hj => WC.eq (QoN rfl hj) (QaW _ _)
  ·exact Qv5 (hx := fun e => by cases e)
 ·intro q hq2
  refine Go0 ?_
  refine Br.of (fun h4=>Go0 ?_) (fun h4=>Go0 ?_)
  ·refine QuU Qi3 (Qjz c.depth om om ) (Go0 ?_)
   have w0 := Qa (↑q + 1) om om
   refine ⟨q + 1, om, om, ?_⟩
   refine Qvm ?_
   ·intro i hi j hj
    exact WC.eq ((Qot (x := ⟨c.depth, []⟩) (by simp) (by simpa using hi) hj).trans (by rw [List.replicate_succ'])) (Qau _ _)
  ·have : q = c.queues.toNat := by omega
   subst this
   refine QuY hΓ (ι := Nat) [2, 4, 15] (fun k => [(19, .c (.int .i64 (2 * Qz c + (k : Nat))))]) (fun k => [.vr c.cells, .vr d.cells, .vr (default : St).cells, .vr (Lay.cells c), .vr [QC (Qs c).map], .vr [Qh (Qs c).live, Qh (Qs c).pend], .vr [Qh (Qs c).owner], .vr [.int .i64 0, Qh (Qs c).pins, retC []], .arr 94 12 c.queues.toNat (wrkG (Qs c).works), .vr ((Qcl c d).cellsZ (.sl 11 1 k k false) (QC (Qs c).map) (.sl 10 2 c.queues.toNat c.queues.toNat false) (.sl 8 12 c.queues.toNat c.queues.toNat false) (evC [])), .arr 164 2 c.queues.toNat (rngG (List.replicate c.queues.toNat ⟨c.depth, []⟩)), .arr 3 1 k (QaK .i64 (QbC c k))]) (fun k => k ≤ (Qp c).toNat) (fun k => (Qp c).toNat - k) 0 (Qxx _) ?_ ?_
   ·refine (Qv7 9 17 3 1 (QaK .i64 []) rfl rfl rfl rfl).trans ?_
    exact QuW
   ·intro k hk
    refine Go0 ?_
    refine Br.of (fun h3=>Go0 ?_) (fun h3=>Go0 ?_)
    ·have w1 : IntKind.i64.wrap (2 * Qz c + ↑k + 1) = 2 * Qz c + ↑(k + 1) := by
      rw [Qa _ om om]; omega
     refine ⟨k + 1, om, om, ?_⟩
     refine Qvm ?_
     ·intro i hi j hj
      rw [Qhw]
      exact WC.eq (Qh3 (QbT c k).symm (by rw [QbT]; exact hi) hj) rfl
    ·have : k = (Qp c).toNat := by omega
     subst this
     have hlen : (Qcl c d).works.length = c.queues.toNat := by simp [Qcl, Qs]
     unfold St.cellsK St.wobj
     rw [hlen]
     refine ⟨_, _, ?_, rfl, rfl⟩
     refine RM.fz 10 rfl (Qxx _) (fun _ _ _ _ => Qau _ _) ?_
     refine RM.fz 11 rfl (Qxx _) (fun _ _ _ _ => QwH rfl) ?_
     refine Qwe [8] (by decide) ?_ ?_ <;> (first|exact wb0|refine wb1 ?_|refine wb2 ?_ ?_|refine wb3 ?_ ?_ ?_|refine wb4 ?_ ?_ ?_ ?_)
     ·exact fun i _ j _ => Qxl (QaW _ _)
     ·exact QwZ rfl rfl (QbT _ _).symm (fun _ _ _ _ => leF.fzI rfl)
     ·exact QwX rfl (by simp [Qcl, Qs]) (fun _ _ _ _ => leF.refl)
theorem QqF : HB 139 := hB Tryz.func139
theorem QrV (c : Conf) (h : QB c = 0) : CS 55 [.a c.cells] [] fun x H => x = .t [.inr ((Qs c).cellsK 0), .inl (.int .i64 0)] ∧ H = [(Qs c).wobj] := by
 refine CSpec.rm ?_
 have hr := (QR h).1
 have hq := confR_iff.1 hr
 refine ov0 hΓ Tryz.func55 28 0 [.cell 2 58, .tmp 3] Tryz.ntmps55 Tryz.results55 ?_
 refine QuU Qfg (Qfj c ) (Go0 ?_)
 refine Br.no (by simpa using h) (Go0 ?_)
 refine QuU Qgt (QgG c.zones c.size 3 3 om ) (Go0 ?_)
 refine Br.no (by simpa using Qhk h) (Go0 ?_)
 refine CallN.autoI [] QqF (Qpv c (newD c.zones c.size 3 3) h) plh (Go0 ?_)
 refine ⟨_, _, ?_, rfl, rfl⟩
 exact Qwe [3] (by decide) wb0 wb0
theorem Qsf : HB 55 := hB Tryz.func55
end Go.Proofs
end
