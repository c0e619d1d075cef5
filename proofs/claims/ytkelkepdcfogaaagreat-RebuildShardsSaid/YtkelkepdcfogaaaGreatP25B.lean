/- Contracts, lemmas; no condition. -/
import Derived.Test.YtkelkepdcfogaaaGreatP24B
import Derived.Test.YtkelkepdcfogaaaGreatP21B
import Derived.Test.YtkelkepdcfogaaaGreatP18B
import Derived.Test.YtkelkepdcfogaaaGreatP17B
set_option linter.all false
section
open Go Go.Am
namespace Go.Proofs
set_option maxRecDepth 20000
theorem QhM (n : Nat) (g : Nat → Nat → C) (t : Bool) (hn : n ≤ 1000000) (him : ∀ i, i < n → ∀ j, j < 6 → (g i j).imm = true) : CS 144 [.c (.isl 6 n g t)] [] fun s H => s = .c (.sl 0 6 n n false) ∧ H = [.arr 67 6 n g] := by
 refine CSpec.rm ?_
 refine ov hΓ Tryz.func144 5 0 [.tmp 2] Tryz.ntmps144 Tryz.results144 ?_
 ((conv=>whnf);(repeat' ((first|refine Nd ?_|refine Hv fun _h=>?_);conv=>whnf)))
 refine ⟨_, _, ?_, rfl, rfl⟩
 refine RM.w1 ?_
 exact fun i hi j hj => WC.imm (him i hi j hj)
theorem Qm8 : HB 144 := hB Tryz.func144
theorem QjL (l : List Ent) (hl : l.length ≤ 1000000) : PS 144 [.c (QR l)] (.c (QR l)) := PSpec.ofO (QhM _ _ _ hl fun _ _ _ _ => QF _ _) fun _ _ _ _ => QF _ _
theorem Qj4 : HB 144 := hB Tryz.func144
theorem QuC {l : List Ent} {e : Ent} {p : Nat} (hp : p < l.length) (i j : Nat) (hj : j < 6) : updG (entG l) p 0 e.cells i j = entG (l.set p e) i j :=
 Qc6 hp (es := 6) (fun j hj => match j, hj with | 0, _ => rfl | 1, _ => rfl | 2, _ => rfl | 3, _ => rfl | 4, _ => rfl | 5, _ => rfl) i j hj
theorem Qs4 {Z g : Nat → Nat → C} : appG Z 0 g = g := by
 funext i j
 simp [appG]
theorem QuS {l : List Ent} {e : Ent} {k k' : Nat} {t : List C} {n1 n2 k2 i j : Nat} (hk : k ≤ l.length) (h1 : n1 = k) (h2 : n2 = k + 1) (h3 : k2 = k') (hj : j < 6) :
  appG (appG (entG l) n1 (Qaf 6 (e.cells ++ t))) n2 (fun i j => entG l (k2 + i) j) i j = entG (l.take k ++ e :: l.drop k') i j := by
 have := QhV (Z := entG l) (e := e) (t := t) (i := i) (j := j) hk h1 h2 h3 hj
 rwa [Qs4] at this
set_option maxHeartbeats 4000000 in
theorem QqH (l : List Ent) (e : Ent) (hl : l.length ≤ 1000000) : PS 94 [.c (QR l), .a e.cells] (.t [.inl (QR (QD l e).1), .inr (QD l e).2.1.cells, .inl (.bool (QD l e).2.2)]) := by
 refine PSpec.rm ?_
 refine ov hΓ Tryz.func94 70 0 [.tmp 4, .cell 5 67, .tmp 6] Tryz.ntmps94 Tryz.results94 ?_
 ((conv=>whnf);(repeat' ((first|refine Nd ?_|refine Hv fun _h=>?_);conv=>whnf)))
 refine CallN.pureA QeU (QeC l hl ) ?_
 ((conv=>whnf);(repeat' ((first|refine Nd ?_|refine Hv fun _h=>?_);conv=>whnf)))
 by_cases hv : QL l = true
 ·refine Br.no (by rw [hv]; rfl) ?_
  ((conv=>whnf);(repeat' ((first|refine Nd ?_|refine Hv fun _h=>?_);conv=>whnf)))
  refine CallN.pureA QhE (Qhf e ) ?_
  ((conv=>whnf);(repeat' ((first|refine Nd ?_|refine Hv fun _h=>?_);conv=>whnf)))
  by_cases he : QbO e = true
  ·refine Br.no (by rw [he]; rfl) ?_
   ((conv=>whnf);(repeat' ((first|refine Nd ?_|refine Hv fun _h=>?_);conv=>whnf)))
   have hple := QdD l e.block
   refine CallN.pureA Qom (Qoa l e.block hv hl ) ?_
   ((conv=>whnf);(repeat' ((first|refine Nd ?_|refine Hv fun _h=>?_);conv=>whnf)))
   by_cases hm : hasM l e.block = true
   ·have hp := (hasM_iff.1 hm).1
    have hf : QK l e.block = (l.getD (Qp l e.block) default, true) := if_pos ⟨hv, hm⟩
    refine Br.no (by rw [hm]; rfl) ?_
    ((conv=>whnf);(repeat' ((first|refine Nd ?_|refine Hv fun _h=>?_);conv=>whnf)))
    refine Dr.mk hΓ hMix (by kernel_rfl) ?_; conv=>whnf
    ((conv=>whnf);(repeat' ((first|refine Nd ?_|refine Hv fun _h=>?_);conv=>whnf)))
    rw [show l.getD (Qp l e.block : Int).toNat default = l.getD (Qp l e.block) default from rfl]
    by_cases c : e.version ≤ (l.getD (Qp l e.block) default).version
    ·refine Br.yes (decide_eq_true c) ?_
     ((conv=>whnf);(repeat' ((first|refine Nd ?_|refine Hv fun _h=>?_);conv=>whnf)))
     refine Dr.mk hΓ hMix (by kernel_rfl) ?_; conv=>whnf
     ((conv=>whnf);(repeat' ((first|refine Nd ?_|refine Hv fun _h=>?_);conv=>whnf)))
     refine CallP.auto Qj4 (QjL l hl ) ?_
     ((conv=>whnf);(repeat' ((first|refine Nd ?_|refine Hv fun _h=>?_);conv=>whnf)))
     rw [show QD l e = (l, (QK l e.block).1, false) by unfold QD; rw [if_pos hv, if_pos he, if_pos ⟨by rw [hf], by rw [hf]; exact c⟩], hf]
     exact RM.i0
    ·refine Br.no (decide_eq_false c) ?_
     ((conv=>whnf);(repeat' ((first|refine Nd ?_|refine Hv fun _h=>?_);conv=>whnf)))
     refine CallN.autoI [] Qm8 (QhM l.length (entG l) false hl (fun _ _ _ _ => QF _ _)) plh ?_; conv=>whnf
     ((conv=>whnf);(repeat' ((first|refine Nd ?_|refine Hv fun _h=>?_);conv=>whnf)))
     refine Dr.mk hΓ hMix (by kernel_rfl) ?_; conv=>whnf
     ((conv=>whnf);(repeat' ((first|refine Nd ?_|refine Hv fun _h=>?_);conv=>whnf)))
     have hpe : putE l e = l.set (Qp l e.block) e := by
      unfold putE
      rw [if_pos hm, List.set_eq_take_append_cons_drop, if_pos hp]
     rw [show QD l e = (putE l e, (QK l e.block).1, true) by unfold QD; rw [if_pos hv, if_pos he, if_neg fun z => c (by rw [hf] at z; exact z.2)], hf, hpe]
     exact RM.allT (FwT.consC (Fw.slP rfl rfl (by simp) (fun i _ j hj => QuC hp i j hj) (fun _ _ => QF _ _)) (FwT.consL (FwL.cons (Fw.same rfl) (FwL.cons (Fw.same rfl) (FwL.cons (Fw.same rfl) (FwL.cons (Fw.same rfl) (FwL.cons (Fw.same rfl) (FwL.cons (Fw.same rfl) FwL.nil)))))) (FwT.consC (Fw.same rfl) FwT.nil)))
   ·have hf : (QK l e.block).2 = false := by unfold QK; rw [if_neg fun z => hm z.2]
    refine Br.yes (by rw [QaM hm]; rfl) ?_
    ((conv=>whnf);(repeat' ((first|refine Nd ?_|refine Hv fun _h=>?_);conv=>whnf)))
    refine Dr.mkE hΓ hMix [4294967296, 144] [(4, 3), (5, 3)] (by kernel_rfl) ?_; conv=>whnf
    ((conv=>whnf);(repeat' ((first|refine Nd ?_|refine Hv fun _h=>?_);conv=>whnf)))
    refine CallE.autoI [] Qm8 (QhM (Qp l e.block : Int).toNat (entG l) false (by omega) (fun _ _ _ _ => QF _ _)) plh ?_; conv=>whnf
    ((conv=>whnf);(repeat' ((first|refine Nd ?_|refine Hv fun _h=>?_);conv=>whnf)))
    have hpe : putE l e = l.take (Qp l e.block) ++ e :: l.drop (Qp l e.block) := by unfold putE; rw [if_neg hm]
    have hpl : (putE l e).length = Qp l e.block + 1 + (l.length - Qp l e.block) := by rw [hpe]; simp; omega
    rw [show QD l e = (putE l e, (QK l e.block).1, true) by unfold QD; rw [if_pos hv, if_pos he, if_neg fun z => by rw [hf] at z; cases z.1], show (QK l e.block).1 = default by unfold QK; rw [if_neg fun z => hm z.2]]
    refine RM.allT (FwT.consC (Fw.slP rfl rfl (by rw [hpl]; rfl) (fun i _ j hj => (QuS (e := e) hple (show (Qp l e.block : Int).toNat = Qp l e.block from rfl) (by simp) (show (Qp l e.block : Int).toNat = Qp l e.block from rfl) hj).trans (by rw [hpe])) (fun _ _ => QF _ _)) (FwT.consL (FwL.cons (Fw.same rfl) (FwL.cons (Fw.same rfl) (FwL.cons (Fw.same rfl) (FwL.cons (Fw.same rfl) (FwL.cons (Fw.same rfl) (FwL.cons (Fw.same rfl) FwL.nil)))))) (FwT.consC (Fw.same rfl) FwT.nil)))
  ·refine Br.yes (by rw [QaM he]; rfl) ?_
   ((conv=>whnf);(repeat' ((first|refine Nd ?_|refine Hv fun _h=>?_);conv=>whnf)))
   refine CallN.pureA Qj4 (QjL l hl ) ?_
   ((conv=>whnf);(repeat' ((first|refine Nd ?_|refine Hv fun _h=>?_);conv=>whnf)))
   rw [show QD l e = (l, default, false) by unfold QD; rw [if_pos hv, if_neg he]]
   exact RM.i0
 ·refine Br.yes (by rw [QaM hv]; rfl) ?_
  ((conv=>whnf);(repeat' ((first|refine Nd ?_|refine Hv fun _h=>?_);conv=>whnf)))
  rw [show QD l e = ([], default, false) by unfold QD; rw [if_neg hv]]
  exact RM.i0
theorem QqB : HB 94 := hB Tryz.func94
theorem Qiu (m : List (List Ent)) : PS 93 [.a [Qm m]] (.a [Qm m]) := by
 refine PSpec.rm ?_
 refine ov hΓ Tryz.func93 7 0 [.cell 2 34] Tryz.ntmps93 Tryz.results93 ?_
 ((conv=>whnf);(repeat' ((first|refine Nd ?_|refine Hv fun _h=>?_);conv=>whnf)))
 exact RM.i0
theorem Qin : HB 93 := hB Tryz.func93
theorem QoY (m : List (List Ent)) (hm : m.length ≤ 1000000) (hs : ∀ i, (m.getD i default).length ≤ 1000000) : CS 91 [.a [Qm m]] [] fun s H => s = .a [.sl 0 1 m.length m.length false] ∧ H = [.arr 54 1 m.length (QdB m)] := by
 refine CSpec.rm ?_
 refine ov hΓ Tryz.func91 24 0 [.cell 2 163] Tryz.ntmps91 Tryz.results91 ?_
 ((conv=>whnf);(repeat' ((first|refine Nd ?_|refine Hv fun _h=>?_);conv=>whnf)))
 refine Lp.mkK hΓ (ι := Nat) [2, 3, 7, 8] (fun i => [(9, .c (.int .i64 i))]) (fun k => [.vr [Qm m], .vr [.nils], .vr [.sl 3 1 k k false], .arr 54 1 k (QdB (m.take k))]) (fun i => i ≤ m.length) (fun i => m.length - i) 0 (Nat.zero_le _) ?_ ?_
 ·refine (Mv.reserveO 2 0 54 1 (QdB []) rfl rfl rfl rfl).trans ?_
  exact Mv.k0
 ·intro k hk
  have hsk := hs k
  ((conv=>whnf);(repeat' ((first|refine Nd ?_|refine Hv fun _h=>?_);conv=>whnf)))
  refine Br.of (fun h=>?_) (fun h=>?_)<;>(try simp only [Int.toNat_natCast] at h)<;>(conv=>whnf)
  ·((conv=>whnf);(repeat' ((first|refine Nd ?_|refine Hv fun _h=>?_);conv=>whnf)))
   refine Dr.mk hΓ hMix (by kernel_rfl) ?_; conv=>whnf
   ((conv=>whnf);(repeat' ((first|refine Nd ?_|refine Hv fun _h=>?_);conv=>whnf)))
   refine CallP.auto QkF (QkU (m.getD k default) (by omega) ) ?_
   ((conv=>whnf);(repeat' ((first|refine Nd ?_|refine Hv fun _h=>?_);conv=>whnf)))
   have w0 := Qa (↑k + 1) (by omega) (by omega)
   refine ⟨k + 1, by omega, by omega, ?_⟩
   refine Mv.k1 ?_
   intro i hi j hj
   rw [Q1 m (by omega)]
   exact WC.eq (QrS (Qmd m hk).symm (by rw [Qmd m hk]; exact hi) hj) rfl
  ·((conv=>whnf);(repeat' ((first|refine Nd ?_|refine Hv fun _h=>?_);conv=>whnf)))
   have : k = m.length := by omega
   subst this
   rw [List.take_length]
   refine ⟨_, _, ?_, rfl, rfl⟩
   exact RM.renW [3] (by decide) wb0 wb0
theorem Qo9 : HB 91 := hB Tryz.func91
theorem Quz {α : Type} [Inhabited α] {l : List α} {i : Nat} (hi : i < l.length) : l.set i (l.getD i default) = l := by
 refine Qcq (by simp) fun j hj => ?_
 rw [List.length_set] at hj
 rw [QbS hi]
 split
 ·rename_i e; rw [e]
 ·rfl
theorem Qt9 {l : List Ent} {e : Ent} (h : QL l = true) (h2 : (QD l e).2.2 ≠ true) : (QD l e).1 = l := by
 unfold QD at *
 rw [if_pos h] at *
 split
 ·rename_i he
  rw [if_pos he] at h2
  split
  ·rfl
  ·rename_i q
   rw [if_neg q] at h2
   exact absurd rfl h2
 ·rfl
theorem Qrt {m : List (List Ent)} {e : Ent} (h : Q3 m = true) (h0 : 0 ≤ e.block) : Qaq m e = (m.set (Qj m e.block) (QD (m.getD (Qj m e.block) default) e).1, (QD (m.getD (Qj m e.block) default) e).2.1, (QD (m.getD (Qj m e.block) default) e).2.2) := by
 have hlt := QbT h h0
 unfold Qaq
 rw [if_pos ⟨h, h0⟩]
 split
 ·rename_i q; rw [q]
 ·rename_i q
  rw [Qt9 (Qq2 h hlt).1 q, Quz hlt, Bool.eq_false_iff.2 q]
theorem Ql3 {m : List (List Ent)} {k : Nat} {x : List Ent} {c : C} (hk : k < m.length) (hc : c = QR x) (i j : Nat) (hj : j < 1) : updG (QdB m) k 0 [c] i j = QdB (m.set k x) i j := by
 subst hc
 exact Qc6 (f := fun l _ => QR l) hk (es := 1) (fun j hj => by
  have : j = 0 := by omega
  subst this
  rfl) i j hj
set_option maxHeartbeats 4000000 in
theorem Qpm (m : List (List Ent)) (e : Ent) (hm : m.length ≤ 1000000) (hs : ∀ i, (m.getD i default).length ≤ 1000000) : PS 50 [.a [Qm m], .a e.cells] (.t [.inr [Qm (Qaq m e).1], .inr (Qaq m e).2.1.cells, .inl (.bool (Qaq m e).2.2)]) := by
 refine PSpec.rm ?_
 refine ov hΓ Tryz.func50 49 0 [.cell 4 34, .cell 5 67, .tmp 6] Tryz.ntmps50 Tryz.results50 ?_
 ((conv=>whnf);(repeat' ((first|refine Nd ?_|refine Hv fun _h=>?_);conv=>whnf)))
 refine CallN.autoI [] Qo9 (QoY m hm hs) plh ?_; conv=>whnf
 ((conv=>whnf);(repeat' ((first|refine Nd ?_|refine Hv fun _h=>?_);conv=>whnf)))
 refine CallN.reads QtB (Qte m e.block hm hs) (BwA.cons (BwS.a (BwL.cons (Bw.sl rfl rfl (fun i _ j _ => Bw.same rfl) (fun e => by cases e)) BwL.nil)) (BwA.cons (BwS.c (Bw.same rfl)) BwA.nil)) rfl ?_
 ((conv=>whnf);(repeat' ((first|refine Nd ?_|refine Hv fun _h=>?_);conv=>whnf)))
 by_cases c : Q3 m = true ∧ 0 ≤ e.block
 ·have hlt := QbT c.1 c.2
  have hse := QeP c.1 c.2
  have hst : 0 ≤ Q4 m e.block := by rw [hse]; omega
  refine Br.no (by rw [c.1, decide_eq_true hst]; rfl) ?_
  ((conv=>whnf);(repeat' ((first|refine Nd ?_|refine Hv fun _h=>?_);conv=>whnf)))
  rw [hse]
  rw [Qrt c.1 c.2]
  have hml := hs (Qj m e.block)
  refine Dr.mkE hΓ hMix [] [(11, 14)] (by kernel_rfl) ?_; conv=>whnf
  ((conv=>whnf);(repeat' ((first|refine Nd ?_|refine Hv fun _h=>?_);conv=>whnf)))
  refine Frc.mk _ rfl ?_; conv=>whnf
  ((conv=>whnf);(repeat' ((first|refine Nd ?_|refine Hv fun _h=>?_);conv=>whnf)))
  refine CallP.auto QqB (QqH (m.getD (Qj m e.block) default) e hml ) ?_
  ((conv=>whnf);(repeat' ((first|refine Nd ?_|refine Hv fun _h=>?_);conv=>whnf)))
  refine Dr.mvK [2, 3, 4, 5, 7, 11, 12] [] [.vr [Qm m], .vr e.cells, .vr [.nils], .vr (default : Ent).cells, .dead, .vr [Qm (m.set (Qj m e.block) (QD (m.getD (Qj m e.block) default) e).1)], .vr (QD (m.getD (Qj m e.block) default) e).2.1.cells] ((Mv.fz 4 rfl (Nat.zero_le _) (fun i _ j hj => (congrArg C.imm (Ql3 hlt rfl i j hj)).trans rfl)).trans (Mv.mkW ?_ ?_ leN)) ?_
  ·refine wb1 ?_
   exact WC.fz rfl (by simp) (fun i _ j hj => leF.of_eq (Ql3 hlt rfl i j hj)) (fun e => by cases e)
  ·exact wb0
  ·conv=>whnf
   refine Dr.mkE hΓ hMix [] [(2, 4), (3, 4), (3, 5)] (by kernel_rfl) ?_; conv=>whnf
   ((conv=>whnf);(repeat' ((first|refine Nd ?_|refine Hv fun _h=>?_);conv=>whnf)))
   refine CallP.auto Qin (Qiu (m.set (Qj m e.block) (QD (m.getD (Qj m e.block) default) e).1) ) ?_
   ((conv=>whnf);(repeat' ((first|refine Nd ?_|refine Hv fun _h=>?_);conv=>whnf)))
   exact RM.i0
 ·refine Br.yes ?_ ?_
  ·by_cases h1 : Q3 m = true
   ·have h2 : ¬ 0 ≤ e.block := fun q => c ⟨h1, q⟩
    rw [decide_eq_false (by unfold Q4; rw [if_pos (by omega)]; decide)]; rfl
   ·rw [QaM h1, Bool.and_false]; rfl
  ·((conv=>whnf);(repeat' ((first|refine Nd ?_|refine Hv fun _h=>?_);conv=>whnf)))
   rw [show Qaq m e = (m, default, false) from if_neg c]
   refine CallN.fzK 4 [2, 3, 4, 5, 7] [] [.vr [Qm m], .vr e.cells, .vr [.nils], .vr (default : Ent).cells, .dead, .vr [Qm m]] [.a [Qm m]] rfl leN (fun i _ j _ => rfl) wb0 wb0 wb0 leN ?_
   refine CallN.pureA Qin (Qiu m ) ?_
   ((conv=>whnf);(repeat' ((first|refine Nd ?_|refine Hv fun _h=>?_);conv=>whnf)))
   exact RM.i0
theorem Qp1 : HB 50 := hB Tryz.func50
def badZ (z : Zone) : Bool := decide (z.state = 5)
def badR (c : Conf) (f : Fnd) : Bool := decide (c.blocks ≤ f.r.block ∨ f.r.version = 1099511627776)
def badL (c : Conf) (d : Dev) (l : List Fnd) : Bool := d.zones.any badZ || l.any (badR c) || !Qft l
theorem Quc (c : Conf) (d : Dev) : badF c d = badL c d (Qbd c d) := rfl
theorem badR_cond {c : Conf} {f : Fnd} : (bif decide (f.r.block ≥ c.blocks) then true else f.r.version == 1099511627776) = badR c f := by
 unfold badR
 by_cases h1 : c.blocks ≤ f.r.block <;> simp [h1] <;> rfl
theorem Qq0 (l : List Ent) (e : Ent) : (QD l e).1.length ≤ l.length + 1 := by
 unfold QD
 split
 ·split
  ·split
   ·show l.length ≤ _; omega
   ·show (putE l e).length ≤ _
    unfold putE
    have := QdD l e.block
    simp only [List.length_append, List.length_cons, List.length_take, List.length_drop]
    split <;> omega
  ·show l.length ≤ _; omega
 ·exact Nat.zero_le _
theorem QjM (m : List (List Ent)) (e : Ent) : (Qaq m e).1.length = m.length := by
 unfold Qaq
 split
 ·split
  ·simp
  ·rfl
 ·rfl
theorem Ql1 {m : List (List Ent)} {e : Ent} {n : Nat} (h : ∀ i, (m.getD i default).length ≤ n) (i : Nat) : ((Qaq m e).1.getD i default).length ≤ n + 1 := by
 have hi := h i
 unfold Qaq
 split
 ·rename_i q
  split
  ·rw [QbS (QbT q.1 q.2)]
   split
   ·have := Qq0 (m.getD (Qj m e.block) default) e
    have := h (Qj m e.block)
    omega
   ·omega
  ·show (m.getD i default).length ≤ _; omega
 ·show (m.getD i default).length ≤ _; omega
theorem QpI (m : List (List Ent)) (l : List Ent) (e : Ent) : QbR m (l ++ [e]) = (Qaq (QbR m l) e).1 := by
 unfold QbR
 rw [List.foldl_append]
 rfl
theorem Qjz (m : List (List Ent)) (l : List Ent) : (QbR m l).length = m.length := by
 induction l generalizing m with
 | nil => rfl
 | cons e l ih =>
  show (QbR (Qaq m e).1 l).length = _
  rw [ih, QjM]
theorem Qmf {m : List (List Ent)} {n : Nat} (h : ∀ i, (m.getD i default).length ≤ n) (l : List Ent) : ∀ i, ((QbR m l).getD i default).length ≤ n + l.length := by
 induction l generalizing m n with
 | nil => exact h
 | cons e l ih =>
  intro i
  have := ih (Ql1 (e := e) h) i
  show ((QbR (Qaq m e).1 l).getD i default).length ≤ _
  rw [List.length_cons]
  omega
theorem Qm5 (n : Int) (i : Nat) : ((QeI n).getD i default).length ≤ 0 := by
 unfold QeI
 rw [List.getD, List.getElem?_replicate]
 split <;> exact Nat.le_refl _
theorem QjC (b : Bas) (l : List Fnd) : ∀ k, (QbQ b l k).length ≤ k
 | 0 => Nat.le_refl _
 | k + 1 => by
  have := QjC b l k
  simp only [QbQ, List.length_append]
  unfold Qg5
  split
  ·simp; omega
  ·split <;> simp <;> omega
theorem Qkr {c : Conf} {d : Dev} {slot : Int} (h : Qu c d slot = 0) : QE (Qv c d slot).seq (Qv c d slot).next (Qv c d slot).cut (Qv c d slot).ents = 0 := by
 unfold Qv
 rw [if_pos h]
 unfold Qu at h
 split at h
 ·split at h
  ·split at h
   ·cases h
   ·rename_i l q
    try rw [q]
    show QE (QaS c l).seq (QaS c l).next (QaS c l).cut (QaS c l).ents = 0
    unfold QaS
    rw [if_pos h]
    unfold QaT at h
    split at h
    ·rename_i w
     have w := w.1
     unfold Qag
     rw [if_pos w]
     unfold QaH at w
     split at w
     ·rename_i ww
      exact ww.2.1
     ·cases w
    ·cases h
  ·cases h
 ·rename_i q; exact absurd h q
theorem Qnj {c : Conf} {d : Dev} (h : ¬ (Qs c d).2 < 0) : QE (Qs c d).1.seq (Qs c d).1.next (Qs c d).1.cut (Qs c d).1.ents = 0 := by
 unfold Qs at *
 split
 ·rename_i q; exact Qkr q.1
 ·rename_i q
  rw [if_neg q] at h
  split
  ·rename_i r; exact Qkr r
  ·rename_i r
   rw [if_neg r] at h
   exact absurd (by show (-1 : Int) < 0; decide) h
theorem QlT (c : Conf) (d : Dev) : (Qbt c d).ents.length ≤ 128 ∧ 1 ≤ (Qbt c d).next ∧ (Qbt c d).next ≤ 1099511627776 ∧ 1 ≤ (Qbt c d).cut := by
 unfold Qbt
 split
 ·exact ⟨Nat.zero_le _, by decide, by decide, by decide⟩
 ·rename_i h
  obtain ⟨h1, h2, _⟩ := QcN (Qnj h)
  exact ⟨h2, h1.2.2.1, h1.2.2.2.1, h1.2.2.2.2.1⟩
theorem Qsv (c : Conf) (d : Dev) : (Qbt c d).seq = (Qs c d).1.seq := by
 unfold Qbt
 split
 ·rename_i h
  unfold Qs at *
  split
  ·rename_i q; rw [if_pos q] at h; exact absurd h (by show ¬ (0 : Int) < 0; decide)
  ·rename_i q
   rw [if_neg q] at h
   split
   ·rename_i r; rw [if_pos r] at h; exact absurd h (by show ¬ (1 : Int) < 0; decide)
   ·rfl
 ·rfl
end Go.Proofs
end
