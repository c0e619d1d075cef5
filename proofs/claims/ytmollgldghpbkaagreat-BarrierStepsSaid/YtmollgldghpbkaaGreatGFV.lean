/- Contracts, lemmas; no condition. -/
import Derived.Test.YtmollgldghpbkaaGreatG8V
import Derived.Test.YtmollgldghpbkaaGreatStAV
import Derived.Test.YtmollgldghpbkaaGreatGAV
import Derived.Test.YtmollgldghpbkaaGreatCtIV
import Derived.Test.YtmollgldghpbkaaGreatKsV
set_option linter.all false
section
open Go Go.Am
namespace Go.Proofs
set_option maxRecDepth 20000
theorem QnG {l : List Ent} {e : Ent} {k k' : Nat} {t : List C} {Z : Nat → Nat → C} {n1 n2 k2 i j : Nat} (hk : k ≤ l.length) (h1 : n1 = k) (h2 : n2 = k + 1) (h3 : k2 = k') (hj : j < 6) :
  appG (appG (appG Z 0 (entG l)) n1 (QaC 6 (e.cells ++ t))) n2 (fun i j => entG l (k2 + i) j) i j = entG (l.take k ++ e :: l.drop k') i j := by
 subst h1 h2 h3
 have hlen : (l.take n1).length = n1 := by rw [List.length_take]; omega
 unfold appG
 simp only [Nat.not_lt_zero, if_false, Nat.sub_zero]
 unfold entG rowG
 by_cases c1 : i < n1 + 1
 ·rw [if_pos c1]
  by_cases c2 : i < n1
  ·rw [if_pos c2]
   congr 1
   simp only [List.getD]
   rw [List.getElem?_append_left om, List.getElem?_take, if_pos c2]
  ·rw [if_neg c2]
   have : i = n1 := by omega
   subst this
   rw [show (l.take i ++ e :: l.drop k2).getD i default = e by
    simp only [List.getD]
    rw [List.getElem?_append_right om, hlen, Nat.sub_self]
    rfl]
   rw [Nat.sub_self]
   match j, hj with
   | 0, _ => rfl
   | 1, _ => rfl
   | 2, _ => rfl
   | 3, _ => rfl
   | 4, _ => rfl
   | 5, _ => rfl
 ·rw [if_neg c1]
  congr 1
  simp only [List.getD]
  rw [List.getElem?_append_right om, hlen, show i - n1 = (i - (n1 + 1)) + 1 by omega, List.getElem?_cons_succ, List.getElem?_drop]
set_option maxHeartbeats 4000000 in
theorem Ql0 (l : List Ent) (e : Ent) (hl : l.length ≤ 1000000) : PS 245 [.c (Qaw l), .a e.cells] (.t [.inl (Qaw (Qa6 l e).1), .inr (Qa6 l e).2.1.cells, .inl (.bool (Qa6 l e).2.2)]) := by
 refine PSpec.rm ?_
 refine ov0 hΓ Tryz.func245 59 0 [.tmp 4, .cell 5 47, .tmp 6] Tryz.ntmps245 Tryz.results245 ?_
 refine CallN.pureA QvX (QvW l hl ) (Go0 ?_)
 by_cases hv : Q0 l = true
 ·refine Br.no (by rw [hv]; rfl) (Go0 ?_)
  refine CallN.pureA Qv2 (Qv3 e ) (Go0 ?_)
  by_cases he : Qbl e = true
  ·refine Br.no (by rw [he]; rfl) (Go0 ?_)
   have hple := Qfv l e.block
   refine CallN.pureA QvZ (QvY l e.block hl ) (Go0 ?_)
   refine CallN.pureA Qv1 (Qv0 l e.block hl ) (Go0 ?_)
   have hf2 : (QY l e.block).2 = hasM l e.block := by
    unfold QY
    by_cases q : hasM l e.block = true
    ·rw [if_pos ⟨hv, q⟩, q]
    ·rw [if_neg (fun z => q z.2), Qg q]
   by_cases c : (QY l e.block).2 = true ∧ e.version ≤ (QY l e.block).1.version
   ·refine Br.yes (by simp [-List.getD_eq_getElem?_getD, c.1]; exact c.2) ?_
    refine Go0 ?_
    refine Dr.mk hΓ hMix (by kernel_rfl) (Go0 ?_)
    rw [show Qa6 l e = (l, (QY l e.block).1, false) by unfold Qa6; rw [if_pos hv, if_pos he, if_pos c]]
    exact RM.i0
   ·refine Br.no (Bool.eq_false_iff.2 fun z => c (by simpa using z)) (Go0 ?_)
    have hi : Qa6 l e = (putE l e, (QY l e.block).1, true) := by unfold Qa6; rw [if_pos hv, if_pos he, if_neg c]
    have w1 := Qa ((Qy l e.block : Int) + 1) om om
    by_cases hm : hasM l e.block = true
    ·have hm' := (hasM_iff.1 hm).1
     refine Br.yes (hf2.trans hm) (Go0 ?_)
     rw [w1]
     refine Go0 ?_
     refine Dr.mkE hΓ hMix [] [(5, 4)] (by kernel_rfl) (Go0 ?_)
     have hpe : putE l e = l.take (Qy l e.block) ++ e :: l.drop (Qy l e.block + 1) := by unfold putE; rw [if_pos hm]
     have hpl : (putE l e).length = Qy l e.block + 1 + (l.length - (Qy l e.block + 1)) := by rw [hpe]; simp; omega
     rw [hi]
     refine RM.allT (FwT.consC (Fw.slP rfl rfl (by rw [hpl]; simp only [Int.toNat_natCast]; omega) (fun i _ j hj => (QnG (e := e) hple (by simp) (by simp) (show (((Qy l e.block : Nat) : Int) + 1).toNat = Qy l e.block + 1 by omega) hj).trans (by rw [hpe])) (fun _ _ => Qao _ _)) (FwT.consL (FwL.cons (Fw.same rfl) (FwL.cons (Fw.same rfl) (FwL.cons (Fw.same rfl) (FwL.cons (Fw.same rfl) (FwL.cons (Fw.same rfl) (FwL.cons (Fw.same rfl) FwL.nil)))))) (FwT.consC (Fw.same rfl) FwT.nil)))
    ·refine Br.no (hf2.trans (Qg hm)) (Go0 ?_)
     refine Dr.mkE hΓ hMix [] [(5, 4)] (by kernel_rfl) (Go0 ?_)
     have hpe : putE l e = l.take (Qy l e.block) ++ e :: l.drop (Qy l e.block) := by unfold putE; rw [if_neg hm]
     have hpl : (putE l e).length = Qy l e.block + 1 + (l.length - Qy l e.block) := by rw [hpe]; simp; omega
     rw [hi]
     refine RM.allT (FwT.consC (Fw.slP rfl rfl (by rw [hpl]; simp only [Int.toNat_natCast]; omega) (fun i _ j hj => (QnG (e := e) hple (by simp) (by simp) (show (((Qy l e.block : Nat) : Int)).toNat = Qy l e.block by omega) hj).trans (by rw [hpe])) (fun _ _ => Qao _ _)) (FwT.consL (FwL.cons (Fw.same rfl) (FwL.cons (Fw.same rfl) (FwL.cons (Fw.same rfl) (FwL.cons (Fw.same rfl) (FwL.cons (Fw.same rfl) (FwL.cons (Fw.same rfl) FwL.nil)))))) (FwT.consC (Fw.same rfl) FwT.nil)))
  ·refine Br.yes (by rw [Qg he]; rfl) (Go0 ?_)
   rw [show Qa6 l e = (l, default, false) by unfold Qa6; rw [if_pos hv, if_neg he]]
   exact RM.i0
 ·refine Br.yes (by rw [Qg hv]; rfl) (Go0 ?_)
  rw [show Qa6 l e = ([], default, false) from if_neg hv]
  exact RM.i0
theorem QlU : HB 245 := hB Tryz.func245
theorem QsL {l : List Ent} {p : Nat} {tz to : Int} (hp : p < l.length) (i j : Nat) (hj : j < 6) : updG (entG l) p 4 [.int .i64 tz, .int .i64 to] i j = entG (l.set p { l.getD p default with zone := tz, offset := to }) i j := by
 refine QcC hp (es := 6) (fun j hj => ?_) i j hj
 match j, hj with
 | 0, _ => rfl
 | 1, _ => rfl
 | 2, _ => rfl
 | 3, _ => rfl
 | 4, _ => rfl
 | 5, _ => rfl
theorem Quq {l : List Ent} {p : Nat} {mv : Int} (hp : p < l.length) (i j : Nat) (hj : j < 6) : updG (entG l) p 3 [.int .i64 mv] i j = entG (l.set p { l.getD p default with move := mv }) i j := by
 refine QcC hp (es := 6) (fun j hj => ?_) i j hj
 match j, hj with
 | 0, _ => rfl
 | 1, _ => rfl
 | 2, _ => rfl
 | 3, _ => rfl
 | 4, _ => rfl
 | 5, _ => rfl
theorem Qta {l : List Ent} {p : Nat} {tz to mv : Int} {e : Ent} (hp : p < l.length) (he : e = l.getD p default) (i j : Nat) (hj : j < 6) : updG (updG (entG l) p 4 [.int .i64 tz, .int .i64 to]) p 3 [.int .i64 mv] i j = entG (l.set p { e with zone := tz, offset := to, move := mv }) i j := by
 subst he
 rw [QjC (QsL hp i j hj), Quq (by simpa using hp) i j hj, Qnz hp, List.set_set]
set_option maxHeartbeats 4000000 in
theorem Qo4 (l : List Ent) (b v fz fo tz to move : Int) (hl : l.length ≤ 1000000) : PS 220 [.c (Qaw l), .c (.int .i64 b), .c (.int .i64 v), .a [.int .i64 fz, .int .i64 fo], .a [.int .i64 tz, .int .i64 to], .c (.int .i64 move)] (.t [.inl (Qaw (relE l b v fz fo tz to move).1), .inl (.bool (relE l b v fz fo tz to move).2)]) := by
 refine PSpec.rm ?_
 refine ov0 hΓ Tryz.func220 77 0 [.tmp 12, .tmp 13] Tryz.ntmps220 Tryz.results220 ?_
 refine CallN.pureA QvX (QvW l hl ) (Go0 ?_)
 by_cases hv : Q0 l = true
 ·refine Br.no (by rw [hv]; rfl) (Go0 ?_)
  refine CallN.pureA Qv1 (Qv0 l b hl ) (Go0 ?_)
  by_cases c : (QY l b).2 = true ∧ (QY l b).1.version = v ∧ (QY l b).1.zone = fz ∧ (QY l b).1.offset = fo ∧ 0 ≤ tz ∧ 0 ≤ to ∧ 0 ≤ move ∧ move ≤ 255
  ·have hi : relE l b v fz fo tz to move = (l.set (Qy l b) { (QY l b).1 with zone := tz, offset := to, move := move }, true) := by unfold relE; rw [if_pos hv, if_pos c]
   refine Br.no (Bool.eq_false_iff.2 fun ebye => by simp [-List.getD_eq_getElem?_getD, -Int.default_eq_zero, c.1,c.2.1,c.2.2.1,c.2.2.2.1,c.2.2.2.2] at ebye <;> grind) ?_; conv=>whnf
   refine Go0 ?_
   have hple := Qfv l b
   refine CallN.pureA QvZ (QvY l b hl ) (Go0 ?_)
   have hm : hasM l b = true := by
    have h2 := c.1
    unfold QY at h2
    by_cases q : hasM l b = true
    ·exact q
    ·rw [if_neg (fun z => q z.2)] at h2; cases h2
   have hlt := (hasM_iff.1 hm).1
   have hfe : (QY l b).1 = l.getD (Qy l b) default := by unfold QY; rw [if_pos ⟨hv, hm⟩]
   refine Go0 ?_
   rw [hi]
   exact RM.allT (FwT.consC (Fw.slP rfl rfl (by simp) (fun i _ j hj => Qta hlt hfe i j hj) (fun _ _ => Qao _ _)) (FwT.consC (Fw.same rfl) FwT.nil))
  ·refine Br.yes (Decidable.byContradiction fun ebye => c (by simp [-List.getD_eq_getElem?_getD, -Int.default_eq_zero] at ebye <;> grind)) ?_; conv=>whnf
   refine Go0 ?_
   rw [show relE l b v fz fo tz to move = (l, false) by unfold relE; rw [if_pos hv, if_neg c]]
   exact RM.i0
 ·refine Br.yes (by rw [Qg hv]; rfl) (Go0 ?_)
  rw [show relE l b v fz fo tz to move = ([], false) from if_neg hv]
  exact RM.i0
theorem Qob : HB 220 := hB Tryz.func220
theorem Qjp (m : List (List Ent)) (i : Int) (l : List Ent) (hm : m.length ≤ 1000000) (h0 : 0 ≤ i) (h1 : i < m.length) : PS 221 [.a [QH m], .c (.int .i64 i), .c (Qaw l)] (.a [QH (m.set i.toNat l)]) := by
 have hi : i.toNat < m.length := by omega
 refine PSpec.rm ?_
 refine ov0 hΓ Tryz.func221 18 0 [.cell 6 32] Tryz.ntmps221 Tryz.results221 ?_
 refine RM.allA (FwL.cons (Fw.slP rfl rfl (by simp) (fun a _ j hj => QcC (f := fun (l : List Ent) (_ : Nat) => Qaw l) (x := l) hi (es := 1) (fun j hj => ?_) a j hj) (fun _ _ => rfl)) FwL.nil)
 have : j = 0 := by omega
 subst this
 rfl
theorem Qi3 : HB 221 := hB Tryz.func221
theorem Qhc {m : List (List Ent)} {b : Int} (h : Qu m = true) (hb : 0 ≤ b) : QF m b = (QG m b : Nat) := by
 have := Qbp h
 unfold QF
 rw [if_neg om, QfE h hb]
theorem Qes (m : List (List Ent)) (b : Int) (hm : m.length ≤ 1000000) (hs : ∀ i, (m.getD i default).length ≤ 1000000) : PS 97 [.a [QH m], .c (.int .i64 b)] (.t [.inr (Qdf m b).1.cells, .inl (.bool (Qdf m b).2)]) := by
 refine PSpec.rm ?_
 refine ov0 hΓ Tryz.func97 25 0 [.cell 4 47, .tmp 5] Tryz.ntmps97 Tryz.results97 ?_
 refine CallN.pureA Qc9 (Qc4 m hm hs ) (Go0 ?_)
 by_cases c : Qu m = true ∧ 0 ≤ b
 ·have hlt := Qdt c.1 c.2
  have hint := QfE c.1 c.2
  refine Br.no (Bool.eq_false_iff.2 fun ebye => by simp [-List.getD_eq_getElem?_getD, -Int.default_eq_zero, c.1,c.2] at ebye <;> grind) ?_; conv=>whnf
  refine Go0 ?_
  refine Dr.mk hΓ hMix (by kernel_rfl) (Go0 ?_)
  refine CallP.auto QcM (QcE m b hm ) ?_
  rw [Qhc c.1 c.2]
  refine Go0 ?_
  refine CallP.auto Qv1 (Qv0 (m.getD (QG m b) default) b (hs _) ) (Go0 ?_)
  rw [show Qdf m b = QY (m.getD (QG m b) default) b from if_pos c]
  exact RM.i0
 ·refine Br.yes (Decidable.byContradiction fun ebye => c (by simp [-List.getD_eq_getElem?_getD, -Int.default_eq_zero] at ebye <;> grind)) ?_; conv=>whnf
  refine Go0 ?_
  rw [show Qdf m b = (default, false) from if_neg c]
  exact RM.i0
theorem Qem : HB 97 := hB Tryz.func97
set_option maxHeartbeats 2000000 in
theorem Qp5 (m : List (List Ent)) (e : Ent) (hm : m.length ≤ 1000000) (hs : ∀ i, (m.getD i default).length ≤ 1000000) : PS 214 [.a [QH m], .a e.cells] (.t [.inr [QH (QaY m e).1], .inr (QaY m e).2.1.cells, .inl (.bool (QaY m e).2.2)]) := by
 refine PSpec.rm ?_
 refine ov0 hΓ Tryz.func214 45 0 [.cell 4 32, .cell 5 47, .tmp 6] Tryz.ntmps214 Tryz.results214 ?_
 refine CallN.pureA Qc9 (Qc4 m hm hs ) (Go0 ?_)
 by_cases c : Qu m = true ∧ 0 ≤ e.block
 ·have hlt := Qdt c.1 c.2
  refine Br.no (Bool.eq_false_iff.2 fun ebye => by simp [-List.getD_eq_getElem?_getD, -Int.default_eq_zero, c.1,c.2] at ebye <;> grind) ?_; conv=>whnf
  refine Go0 ?_
  refine CallN.pureA QcM (QcE m e.block hm ) ?_
  rw [Qhc c.1 c.2]
  refine Go0 ?_
  refine Dr.mkE hΓ hMix [] [(10, 13)] (by kernel_rfl) (Go0 ?_)
  refine CallP.auto QlU (Ql0 (m.getD (QG m e.block) default) e (hs _) ) (Go0 ?_)
  by_cases d : (Qa6 (m.getD (QG m e.block) default) e).2.2 = true
  ·refine Br.no (by rw [d]; rfl) (Go0 ?_)
   refine Dr.mkE hΓ hMix [] [(4, 5)] (by kernel_rfl) (Go0 ?_)
   refine CallP.auto Qi3 (Qjp m (QG m e.block : Nat) (Qa6 (m.getD (QG m e.block) default) e).1 hm om om ) (Go0 ?_)
   rw [show QaY m e = (m.set (QG m e.block) (Qa6 (m.getD (QG m e.block) default) e).1, (Qa6 (m.getD (QG m e.block) default) e).2.1, true) by unfold QaY; rw [if_pos c, if_pos d]]
   exact RM.i0
  ·refine Br.yes (by rw [Qg d]; rfl) (Go0 ?_)
   refine Dr.mkE hΓ hMix [] [(1, 2)] (by kernel_rfl) (Go0 ?_)
   rw [show QaY m e = (m, (Qa6 (m.getD (QG m e.block) default) e).2.1, false) by unfold QaY; rw [if_pos c, if_neg d]]
   exact RM.i0
 ·refine Br.yes (Decidable.byContradiction fun ebye => c (by simp [-List.getD_eq_getElem?_getD, -Int.default_eq_zero] at ebye <;> grind)) ?_; conv=>whnf
  refine Go0 ?_
  rw [show QaY m e = (m, default, false) from if_neg c]
  exact RM.i0
theorem Qrf : HB 214 := hB Tryz.func214
set_option maxHeartbeats 2000000 in
theorem Qfy (m : List (List Ent)) (b v fz fo tz to move : Int) (hm : m.length ≤ 1000000) (hs : ∀ i, (m.getD i default).length ≤ 1000000) : PS 175 [.a [QH m], .c (.int .i64 b), .c (.int .i64 v), .a [.int .i64 fz, .int .i64 fo], .a [.int .i64 tz, .int .i64 to], .c (.int .i64 move)] (.t [.inr [QH (relM m b v fz fo tz to move).1], .inl (.bool (relM m b v fz fo tz to move).2)]) := by
 refine PSpec.rm ?_
 refine ov0 hΓ Tryz.func175 49 0 [.cell 12 32, .tmp 13] Tryz.ntmps175 Tryz.results175 ?_
 refine CallN.pureA Qc9 (Qc4 m hm hs ) (Go0 ?_)
 by_cases c : Qu m = true ∧ 0 ≤ b
 ·have hlt := Qdt c.1 c.2
  refine Br.no (Bool.eq_false_iff.2 fun ebye => by simp [-List.getD_eq_getElem?_getD, -Int.default_eq_zero, c.1,c.2] at ebye <;> grind) ?_; conv=>whnf
  refine Go0 ?_
  refine CallN.pureA QcM (QcE m b hm ) ?_
  rw [Qhc c.1 c.2]
  refine Go0 ?_
  refine Dr.mk hΓ hMix (by kernel_rfl) (Go0 ?_)
  refine CallP.auto Qob (Qo4 (m.getD (QG m b) default) b v fz fo tz to move (hs _) ) (Go0 ?_)
  by_cases d : (relE (m.getD (QG m b) default) b v fz fo tz to move).2 = true
  ·refine Br.no (by rw [d]; rfl) (Go0 ?_)
   refine CallN.pureA Qi3 (Qjp m (QG m b : Nat) (relE (m.getD (QG m b) default) b v fz fo tz to move).1 hm om om ) (Go0 ?_)
   rw [show relM m b v fz fo tz to move = (m.set (QG m b) (relE (m.getD (QG m b) default) b v fz fo tz to move).1, true) by unfold relM; rw [if_pos c, if_pos d]]
   exact RM.i0
  ·refine Br.yes (by rw [Qg d]; rfl) (Go0 ?_)
   rw [show relM m b v fz fo tz to move = (m, false) by unfold relM; rw [if_pos c, if_neg d]]
   exact RM.i0
 ·refine Br.yes (Decidable.byContradiction fun ebye => c (by simp [-List.getD_eq_getElem?_getD, -Int.default_eq_zero] at ebye <;> grind)) ?_; conv=>whnf
  refine Go0 ?_
  rw [show relM m b v fz fo tz to move = (m, false) from if_neg c]
  exact RM.i0
theorem QfM : HB 175 := hB Tryz.func175
def _root_.Go.Am.Rec.cells (r : Rec) : List C := [.int .i64 r.kind, .int .i64 r.block, .int .i64 r.version, .int .i64 r.move, .str r.payload]
theorem Qqg {b : ByteArray} {p n k : Nat} : Qig b p n (k + 1) = orW (shW (Qig b p n k)) (Qfe b (p + (n - 1 - k))) := rfl
set_option maxHeartbeats 1000000 in
theorem Qte (b : ByteArray) (p n : Nat) (h1 : 1 ≤ n) (h7 : n ≤ 7) (hp : p ≤ 1000) (hb : b.size ≤ 10000000) : PS 246 [.c (.str b), .c (.int .i64 p), .c (.int .i64 n)] (.t [.inl (.int .i64 (getS b p n)), .inl (.int .i64 (getE b p n))]) := by
 refine PSpec.rm ?_
 refine ov0 hΓ Tryz.func246 48 0 [.tmp 6, .tmp 7] Tryz.ntmps246 Tryz.results246 ?_
 refine Br.no (by simp; omega) (Go1 fun _h=>?_)
 have w0 := Qa ((b.size : Int) - p) om om
 by_cases h : b.size < p + n
 ·refine Br.yes (by rw [w0]; simp; omega) (Go0 ?_)
  rw [show getS b p n = 0 from if_pos h, show getE b p n = 2 from if_pos h]
  exact RM.i0
 ·refine Br.no (by rw [w0]; simp; omega) (Go0 ?_)
  have w1 := Qa ((n : Int) - 1) om om
  refine Lp.mkK hΓ (ι := Nat) [0, 1, 6, 7] (fun k => [(9, .c (.int .i64 ((n : Int) - 1 - k))), (8, .c (.int .i64 (Qig b p n k)))]) (fun k => []) (fun k => k ≤ n) (fun k => n - k) 0 (Nat.zero_le _) ?_ ?_
  ·exact Mv.k0
  ·intro k hk
   refine Go0 ?_
   refine Br.of (fun h2=>?_) (fun h2=>?_)<;>(try simp only [Int.toNat_natCast] at h2)<;>(conv=>whnf)
   ·have e1 : IntKind.i64.wrap ((p : Int) + ((n : Int) - 1 - k)) = ((p + (n - 1 - k) : Nat) : Int) := by rw [Qa _ om om]; omega
    have w2 := Qa ((n : Int) - 1 - k - 1) om om
    refine Go0 ?_
    rw [e1]
    refine Go0 ?_
    refine ⟨k + 1, om, om, ?_⟩
    exact Mv.k0
   ·refine Go0 ?_
    have : k = n := by omega
    subst this
    rw [show getS b p k = Qig b p k k from if_neg h, show getE b p k = 0 from if_neg h]
    exact RM.i0
theorem QsZ : HB 246 := hB Tryz.func246
theorem QdV (b : ByteArray) (p n : Nat) (h1 : 1 ≤ n) (h7 : n ≤ 7) (hp : p ≤ 1000) (hb : b.size ≤ 10000000) : PS 218 [.c (.str b), .c (.int .i64 p), .c (.int .i64 n)] (.c (.int .i64 (getS b p n))) := by
 refine PSpec.rm ?_
 refine ov0 hΓ Tryz.func218 17 0 [.tmp 6] Tryz.ntmps218 Tryz.results218 ?_
 refine CallN.pureA QsZ (Qte b p n h1 h7 hp hb ) (Go0 ?_)
 exact RM.i0
theorem QdT : HB 218 := hB Tryz.func218
theorem Qpa (b : ByteArray) (k : Nat) : 0 ≤ Qfe b k ∧ Qfe b k < 256 := by
 have h : (b.data.toList.getD k 0).toNat < 256 := UInt8.toNat_lt _
 unfold Qfe
 rw [Qa _ om om]
 omega
theorem QtN {y : Int} (h : 0 ≤ y ∧ y < 256) : orW (shW 0) y = y := by
 obtain ⟨n, rfl⟩ := Int.eq_ofNat_of_zero_le h.1
 have e0 : shW 0 = 0 := by decide
 rw [e0]
 unfold orW
 have e1 : (BitVec.ofInt IntKind.i64.bits 0 ||| BitVec.ofInt IntKind.i64.bits (n : Int)).toNat = n := by
  show (BitVec.ofInt 64 0 ||| BitVec.ofInt 64 (n : Int)).toNat = n
  rw [show BitVec.ofInt 64 0 = 0#64 from rfl, BitVec.zero_or]
  rw [BitVec.toNat_ofInt]
  omega
 rw [e1]
 exact Qa _ om om
theorem QvO (s : ByteArray) (p : Nat) : 0 ≤ getS s p 1 ∧ getS s p 1 < 256 := by
 unfold getS
 split
 ·omega
 ·show 0 ≤ orW (shW 0) (Qfe s (p + (1 - 1 - 0))) ∧ _
  have := Qpa s (p + (1 - 1 - 0))
  rw [Qqg]
  show 0 ≤ orW (shW 0) (Qfe s (p + (1 - 1 - 0))) ∧ orW (shW 0) (Qfe s (p + (1 - 1 - 0))) < 256
  rw [QtN this]
  exact this
set_option maxHeartbeats 4000000 in
theorem QhX (s : ByteArray) : PS 173 [.c (.str s)] (.t [.inr (decR s).cells, .inl (.int .i64 (decE s))]) := by
 refine PSpec.rm ?_
 refine ov hΓ Tryz.func173 48 0 [.cell 2 178, .tmp 3] Tryz.ntmps173 Tryz.results173 ?_
 refine Go1 fun _h=>?_
 by_cases h0 : s.size = 40
 ·refine Br.no (by simp [h0]) (Go0 ?_)
  have hb : s.size ≤ 10000000 := by omega
  refine Dr.mk hΓ hMix (by kernel_rfl) (Go0 ?_)
  refine CallP.auto QdT (QdV s 36 4 (by decide) (by decide) (by decide) hb ) (Go0 ?_)
  refine CallP.auto QgB (QgH (s.extract 0 36) (by rw [ByteArray.size_extract]; omega) ) (Go0 ?_)
  have hz : s.size = 40 → (s.extract 0 36).size = 36 := fun h => by rw [ByteArray.size_extract]; omega
  by_cases h1 : getS s 36 4 = sumW (s.extract 0 36)
  ·refine Br.no (by rw [h1]; exact bne_self_eq_false _) (Go0 ?_)
   refine CallN.pureA QdT (QdV s 2 1 (by decide) (by decide) (by decide) hb ) (Go0 ?_)
   refine CallN.pureA QdT (QdV s 4 4 (by decide) (by decide) (by decide) hb ) (Go0 ?_)
   refine CallN.pureA QdT (QdV s 8 6 (by decide) (by decide) (by decide) hb ) (Go0 ?_)
   refine CallN.pureA QdT (QdV s 14 1 (by decide) (by decide) (by decide) hb ) (Go0 ?_)
   refine CallN.pureA QdT (QdV s 3 1 (by decide) (by decide) (by decide) hb ) (Go0 ?_)
   have g3 := QvO s 3
   have w3 : IntKind.i64.wrap (16 + min (getS s 3 1) 20) = 16 + min (getS s 3 1) 20 := Qa _ om om
   rw [w3]
   refine Go0 ?_
   refine CallN.pureA QfD (QfB (rawR s) ) (Go0 ?_)
   by_cases h2 : Qa0 (rawR s) = 0 ∧ encR (rawR s) = s
   ·refine Br.no (by rw [h2.1, h2.2]; simp) (Go0 ?_)
    have e : decE s = 0 := by unfold decE; rw [if_pos h0, if_pos h1, if_pos h2]
    rw [show decR s = rawR s from if_pos e, e]
    exact RM.i0
   ·refine Br.yes (by
     refine Decidable.byContradiction fun z => h2 ?_
     simp at z
     exact z) ?_
    refine Go0 ?_
    have e : decE s = 3 := by unfold decE; rw [if_pos h0, if_pos h1, if_neg h2]
    rw [show decR s = default from if_neg (by rw [e]; decide), e]
    exact RM.i0
  ·refine Br.yes (bne_iff_ne.2 h1) (Go0 ?_)
   have e : decE s = 4 := by unfold decE; rw [if_pos h0, if_neg h1]
   rw [show decR s = default from if_neg (by rw [e]; decide), e]
   exact RM.i0
 ·refine Br.yes (by simp; omega) (Go0 ?_)
  have e : decE s = 2 := if_neg h0
  rw [show decR s = default from if_neg (by rw [e]; decide), e]
  exact RM.i0
theorem QhS : HB 173 := hB Tryz.func173
theorem QjJ (r : Rec) : PS 174 [.a r.cells] (.t [.inr (QM r).1.cells, .inl (.bool (QM r).2)]) := by
 refine PSpec.rm ?_
 refine ov0 hΓ Tryz.func174 24 0 [.cell 2 178, .tmp 3] Tryz.ntmps174 Tryz.results174 ?_
 refine CallN.pureA Qik (Qip r ) (Go0 ?_)
 by_cases h : Qa0 r = 0 ∧ Qh4 r = true
 ·have hk : r.kind = 1 ∨ r.kind = 2 := of_decide_eq_true h.2
  have hm := (Qfj h.1).2.1
  have w := Qa (r.move + 1) om om
  refine Br.no (by rw [h.1]; simp; omega) (Go0 ?_)
  rw [show QM r = ({ r with move := min (r.move + 1) 255 }, true) from if_pos h]
  exact RM.i0
 ·have hk : Qa0 r = 0 → ¬ (r.kind = 1 ∨ r.kind = 2) := fun a b => h ⟨a, decide_eq_true b⟩
  refine Br.yes (by
   refine Decidable.byContradiction fun z => ?_
   simp at z
   have := hk z.1
   omega) ?_
  refine Go0 ?_
  rw [show QM r = (default, false) from if_neg h]
  exact RM.i0
theorem Qji : HB 174 := hB Tryz.func174
theorem QdY (s : ByteArray) : PS 101 [.c (.str s)] (.t [.inr (Qbi s).1.cells, .inl (.bool (Qbi s).2)]) := by
 refine PSpec.rm ?_
 refine ov0 hΓ Tryz.func101 25 0 [.cell 2 178, .tmp 3] Tryz.ntmps101 Tryz.results101 ?_
 refine CallN.pureA QhS (QhX s ) (Go0 ?_)
 by_cases h : decE s = 0 ∧ Qh4 (decR s) = true
 ·have hk : (decR s).kind = 1 ∨ (decR s).kind = 2 := of_decide_eq_true h.2
  refine Br.no (by rw [h.1]; simp; omega) (Go0 ?_)
  rw [show Qbi s = (decR s, true) from if_pos h]
  exact RM.i0
 ·have hk : decE s = 0 → ¬ ((decR s).kind = 1 ∨ (decR s).kind = 2) := fun a b => h ⟨a, decide_eq_true b⟩
  refine Br.yes (by
   refine Decidable.byContradiction fun z => ?_
   simp at z
   have := hk z.1
   omega) ?_
  refine Go0 ?_
  rw [show Qbi s = (default, false) from if_neg h]
  exact RM.i0
theorem Qd1 : HB 101 := hB Tryz.func101
theorem QkU {s : ByteArray} (h : decE s = 0) : s.size = 40 := by
 unfold decE at h
 by_cases q : s.size = 40
 ·exact q
 ·rw [if_neg q] at h; cases h
theorem Qg0 (l : List ByteArray) : ∀ k, (∀ i, i < k → decE (l.getD i ByteArray.empty) = 0) → 0 ≤ Qcp l k ∧ Qcp l k ≤ 1099511627776 ∧ 0 ≤ Qdk l k ∧ Qdk l k ≤ 1099511627776
 | 0, _ => by simp [Qcp, Qdk]
 | k + 1, h => by
  have h1 := Qg0 l k fun i hi => h i om
  have h2 := h k om
  have h3 : Qa0 (decR (l.getD k ByteArray.empty)) = 0 := by
   rw [show decR (l.getD k ByteArray.empty) = rawR (l.getD k ByteArray.empty) from if_pos h2]
   unfold decE at h2
   split at h2
   ·split at h2
    ·split at h2
     ·rename_i q; exact q.1
     ·cases h2
    ·cases h2
   ·cases h2
  have h4 := (Qfj h3).2.1
  simp only [Qcp, Qdk]
  omega
theorem Qe5 (l : List ByteArray) : ∀ k, (∀ i, i < k → decE (l.getD i ByteArray.empty) = 0) → (QbB l k).size = 36 * k
 | 0, _ => rfl
 | k + 1, h => by
  have h1 := Qe5 l k fun i hi => h i om
  have h2 := QkU (h k om)
  simp only [QbB]
  rw [ByteArray.size_append, h1, ByteArray.size_extract]
  omega
theorem Qe3 {l : List ByteArray} : ∀ {k}, Qbq l k = 0 → ∀ i, i < k → blkE (l.getD i ByteArray.empty) = 0
 | 0, _ => fun i hi => absurd hi (Nat.not_lt_zero _)
 | k + 1, h => by
  simp only [Qbq] at h
  split at h
  ·rename_i h1
   exact QD (Qe3 h1) h
  ·rename_i h1; exact absurd h h1
theorem Qhq {l : List ByteArray} {k : Nat} (h : Qbq l k ≠ 0) : ∀ d, Qbq l (k + d) = Qbq l k
 | 0 => rfl
 | d + 1 => by
  have h1 := Qhq h d
  show Qbq l ((k + d) + 1) = _
  simp only [Qbq]
  rw [h1, if_neg h]
theorem QhO {l : List ByteArray} {k : Nat} (hk : k < l.length) (h0 : l.length ≠ 0 ∧ l.length ≤ 64) (h1 : Qbq l k = 0) (h2 : blkE (l.getD k ByteArray.empty) ≠ 0) : Qfo l = blkE (l.getD k ByteArray.empty) ∧ Qgt l = default := by
 have e : Qbq l (k + 1) = blkE (l.getD k ByteArray.empty) := if_pos h1
 have e2 := Qhq (l := l) (k := k + 1) (by rw [e]; exact h2) (l.length - (k + 1))
 rw [show k + 1 + (l.length - (k + 1)) = l.length by omega, e] at e2
 have e3 : Qfo l = blkE (l.getD k ByteArray.empty) := by unfold Qfo; rw [if_neg om, e2]
 exact ⟨e3, if_neg (by rw [e3]; exact h2)⟩
set_option maxHeartbeats 4000000 in
theorem QpS (l : List ByteArray) : PS 160 [.c (QbW l)] (.t [.inr (Qgt l).cells, .inl (.int .i64 (Qfo l))]) := by
 refine PSpec.rm ?_
 refine ov hΓ Tryz.func160 84 0 [.cell 2 178, .tmp 3] Tryz.ntmps160 Tryz.results160 ?_
 refine Go1 fun _h=>?_
 by_cases h0 : l.length = 0 ∨ 64 < l.length
 ·refine Br.yes (by simp [-List.length_eq_zero_iff, -List.getD_eq_getElem?_getD]; omega) ?_
  refine Go0 ?_
  have e : Qfo l = 19 := if_pos h0
  rw [show Qgt l = default from if_neg (by rw [e]; decide), e]
  exact RM.i0
 ·refine Br.no (by simp [-List.length_eq_zero_iff, -List.getD_eq_getElem?_getD]; omega) ?_
  refine Go0 ?_
  refine Lp.mkK hΓ (ι := Nat) [0, 2] (fun k => [(7, .c (.int .i64 k)), (4, .c (.int .i64 (Qcp l k))), (5, .c (.int .i64 (Qdk l k))), (6, .c (.str (QbB l k)))]) (fun k => [.vr (default : Rec).cells]) (fun k => k ≤ l.length ∧ Qbq l k = 0) (fun k => l.length - k) 0 ⟨Nat.zero_le _, rfl⟩ ?_ ?_
  ·exact Mv.k0
  ·rintro k ⟨hk, hk2⟩
   refine Go1 fun _h=>?_
   refine Br.of (fun h1=>Go0 ?_) (fun h1=>Go0 ?_)
   ·have hf := Qe3 hk2
    have hd : ∀ i, i < k → decE (l.getD i ByteArray.empty) = 0 := fun i hi => by
     have := hf i hi
     unfold blkE at this
     by_cases q : decE (l.getD i ByteArray.empty) = 0
     ·exact q
     ·rw [if_neg q] at this; exact this
    have hb := Qe5 l k hd
    have w0 := Qa (↑k + 1) om om
    refine CallN.pureA QhS (QhX (l.getD k ByteArray.empty) ) (Go0 ?_)
    by_cases h2 : decE (l.getD k ByteArray.empty) = 0
    ·refine Br.no (by rw [h2]; rfl) (Go0 ?_)
     have hz := QkU h2
     by_cases h3 : Qh4 (decR (l.getD k ByteArray.empty)) = true
     ·have hk3 : (decR (l.getD k ByteArray.empty)).kind = 1 ∨ (decR (l.getD k ByteArray.empty)).kind = 2 := of_decide_eq_true h3
      refine Br.no (by simp [-List.length_eq_zero_iff, -List.getD_eq_getElem?_getD]; omega) ?_
      refine Go0 ?_
      refine Dr.mk hΓ hMix (by kernel_rfl) (Go0 ?_)
      have e : blkE (l.getD k ByteArray.empty) = 0 := by unfold blkE; rw [if_pos h2, if_pos h3]
      refine ⟨k + 1, ⟨om, (if_pos hk2).trans e⟩, om, ?_⟩
      exact Mv.k0
     ·have hk3 : ¬ ((decR (l.getD k ByteArray.empty)).kind = 1 ∨ (decR (l.getD k ByteArray.empty)).kind = 2) := fun z => h3 (decide_eq_true z)
      have e : blkE (l.getD k ByteArray.empty) = 3 := by unfold blkE; rw [if_pos h2, if_neg h3]
      obtain ⟨e1, e2⟩ := QhO om om hk2 (by rw [e]; decide)
      refine Br.yes (by simp [-List.length_eq_zero_iff, -List.getD_eq_getElem?_getD]; omega) ?_
      refine Go0 ?_
      rw [e2, e1, e]
      exact RM.i0
    ·have e : blkE (l.getD k ByteArray.empty) = decE (l.getD k ByteArray.empty) := by unfold blkE; rw [if_neg h2]
     obtain ⟨e1, e2⟩ := QhO om om hk2 (by rw [e]; exact h2)
     refine Br.yes (by simpa using h2) (Go0 ?_)
     rw [e2, e1, e]
     exact RM.i0
   ·have : k = l.length := by omega
    subst this
    have hf := Qe3 hk2
    have hd : ∀ i, i < l.length → decE (l.getD i ByteArray.empty) = 0 := fun i hi => by
     have := hf i hi
     unfold blkE at this
     by_cases q : decE (l.getD i ByteArray.empty) = 0
     ·exact q
     ·rw [if_neg q] at this; exact this
    have hb := Qe5 l l.length hd
    have hr := Qg0 l l.length hd
    refine CallN.pureA Qhr (QhF (Qcp l l.length) om ) (Go0 ?_)
    refine CallN.pureA QgB (QgH (QbB l l.length) om ) (Go0 ?_)
    have hs := Qky 0 (QbB l l.length)
    have hw : IntKind.i64.wrap (addU 0 (QbB l l.length)) = addU 0 (QbB l l.length) := Qa _ om om
    refine CallN.pureA Qhs (Qhk (sumW (QbB l l.length)) (by unfold sumW; rw [hw]; exact hs) ) (Go1 fun _h=>?_)
    have e : Qfo l = 0 := by unfold Qfo; rw [if_neg h0, hk2]
    have hp1 := Qar (Qcp l l.length) 6
    have hp2 := Qar (sumW (QbB l l.length)) 4
    refine Go0 ?_
    rw [show Qgt l = ⟨3, l.length, Qdk l l.length, 0, putS (Qcp l l.length) 6 ++ putS (sumW (QbB l l.length)) 4⟩ from if_pos e, e]
    exact RM.i0
theorem QqS : HB 160 := hB Tryz.func160
end Go.Proofs
end
