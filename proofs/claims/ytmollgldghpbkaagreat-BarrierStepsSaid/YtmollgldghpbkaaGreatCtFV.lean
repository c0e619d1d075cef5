/- Contracts, lemmas; no condition. -/
import Derived.Test.YtmollgldghpbkaaGreatCtEV
import Derived.Test.YtmollgldghpbkaaGreatModCV
set_option linter.all false
section
open Go Go.Am
namespace Go.Proofs
set_option maxRecDepth 20000
theorem FwL.own {H : List O} {s : St} {a b c e1 e2 e3 : Nat} {x1 x2 x3 : Bool} (ha : getL H a = some (.arr e1 2 s.rings.length (rngG s.rings))) (hb : getL H b = some (.arr e2 12 s.works.length (wrkG s.works))) (hc : getL H c = some (.arr e3 8 s.evs.length (evG s.evs))) :
  FwL H (s.cellsW (.sl a 2 s.rings.length s.rings.length x1) (.sl b 12 s.works.length s.works.length x2) (.sl c 8 s.evs.length s.evs.length x3)) s.cells := by
 have ra : Fw H (.sl a 2 s.rings.length s.rings.length x1) (rngC s.rings) := Fw.sl ha rfl (fun i _ j _ => Fw.same (QB _ _)) (fun e => by cases e)
 have rb : Fw H (.sl b 12 s.works.length s.works.length x2) (wrkC s.works) := Fw.sl hb rfl (fun i _ j _ => Fw.same (Qj _ _)) (fun e => by cases e)
 have rc : Fw H (.sl c 8 s.evs.length s.evs.length x3) (evC s.evs) := Fw.sl hc rfl (fun i _ j _ => Fw.same (QaP _ _)) (fun e => by cases e)
 unfold St.cells St.cellsW St.cellsX St.cellsZ
 repeat' (first | exact FwL.nil | refine FwL.cons ?_ ?_ | exact ra | exact rb | exact rc | exact Fw.same rfl)
theorem FwL.ownG {H : List O} (s : St) {a b c e1 e2 e3 na nb nc : Nat} {x1 x2 x3 : Bool} {ga gb gc : Nat → Nat → C} (ha : getL H a = some (.arr e1 2 na ga)) (hb : getL H b = some (.arr e2 12 nb gb)) (hc : getL H c = some (.arr e3 8 nc gc))
  (la : na = s.rings.length) (lb : nb = s.works.length) (lc : nc = s.evs.length)
  (fa : ∀ i, i < na → ∀ j, j < 2 → ga i j = rngG s.rings i j) (fb : ∀ i, i < nb → ∀ j, j < 12 → gb i j = wrkG s.works i j) (fc : ∀ i, i < nc → ∀ j, j < 8 → gc i j = evG s.evs i j) :
  FwL H (s.cellsW (.sl a 2 na na x1) (.sl b 12 nb nb x2) (.sl c 8 nc nc x3)) s.cells := by
 subst la
 subst lb
 subst lc
 have ra : Fw H (.sl a 2 s.rings.length s.rings.length x1) (rngC s.rings) := Fw.sl ha rfl (fun i hi j hj => by rw [fa i hi j hj]; exact Fw.same (QB _ _)) (fun e => by cases e)
 have rb : Fw H (.sl b 12 s.works.length s.works.length x2) (wrkC s.works) := Fw.sl hb rfl (fun i hi j hj => by rw [fb i hi j hj]; exact Fw.same (Qj _ _)) (fun e => by cases e)
 have rc : Fw H (.sl c 8 s.evs.length s.evs.length x3) (evC s.evs) := Fw.sl hc rfl (fun i hi j hj => by rw [fc i hi j hj]; exact Fw.same (QaP _ _)) (fun e => by cases e)
 unfold St.cells St.cellsW St.cellsX St.cellsZ
 repeat' (first | exact FwL.nil | refine FwL.cons ?_ ?_ | exact ra | exact rb | exact rc | exact Fw.same rfl)
theorem Qb0 {l : List Wrk} {q : Nat} {w : Wrk} {ys : List C} (hq : q < l.length) (hy : ys = w.cells) (i j : Nat) (hj : j < 12) : updG (wrkG l) q 0 ys i j = wrkG (l.set q w) i j := by
 subst hy
 refine QcC hq (es := 12) (fun j hj => ?_) i j hj
 match j, hj with
 | 0, _ => rfl
 | 1, _ => rfl
 | 2, _ => rfl
 | 3, _ => rfl
 | 4, _ => rfl
 | 5, _ => rfl
 | 6, _ => rfl
 | 7, _ => rfl
 | 8, _ => rfl
 | 9, _ => rfl
 | 10, _ => rfl
 | 11, _ => rfl
theorem QZ {l : List Rng} {q : Nat} {w : Rng} {ys : List C} (hq : q < l.length) (hy : ys = w.cells) (i j : Nat) (hj : j < 2) : updG (rngG l) q 0 ys i j = rngG (l.set q w) i j := by
 subst hy
 refine QcC hq (es := 2) (fun j hj => ?_) i j hj
 match j, hj with
 | 0, _ => rfl
 | 1, _ => rfl
set_option maxHeartbeats 4000000 in
theorem QoM (s : St) (hs : s.small) (l : List Ent) (hall : Qu s.map = true → AllS s.map l) (q err : Int) (d : ByteArray) : PS 23 [.a s.cells, .c (.int .i64 q), .a [.int .i64 err, .str d]] (.t [.inr (QdM s q err d).1.cells, .inl (.bool (QdM s q err d).2)]) := by
 refine PSpec.rm ?_
 refine ov0 hΓ Tryz.func23 65 0 [.cell 6 58, .tmp 7] Tryz.ntmps23 Tryz.results23 ?_
 refine CallN.autoI [] QhG (Qhu s hs l hall) plh (Go0 ?_)
 refine Frc.mk (.c (.int .i64 (s.works.getD q.toNat default).state)) rfl (Go0 ?_)
 by_cases hc : Qz s = true ∧ 0 ≤ q ∧ q < s.works.length ∧ (s.works.getD q.toNat default).state ≠ 0
 ·have hr : QdM s q err d = ((s.addEv (QN true q (s.works.getD q.toNat default).req err d)).setWork q.toNat default, true) := if_pos hc
  have hv := hc.1
  refine Br.no (Bool.eq_false_iff.2 fun ebye => by simp [-List.getD_eq_getElem?_getD, -Int.default_eq_zero, hv] at ebye <;> grind) ?_; conv=>whnf
  refine Go0 ?_
  refine Dr.mkE hΓ hMix [62, 8589934654] [] (by kernel_rfl) (Go0 ?_)
  refine Frc.mk (.a (s.works.getD q.toNat default).req.cells) rfl (Go0 ?_)
  refine CallF.autoI [6,3,4,5] Qee (Qd4 s true q (s.works.getD q.toNat default).req err d hs.evs) plh ?_; conv=>whnf
  have hw : q < (s.addEv (QN true q (s.works.getD q.toNat default).req err d)).works.length := hc.2.2.1
  refine Go0 ?_
  rw [hr]
  refine RM.allT (FwT.consL (FwL.ownG ((s.addEv (QN true q (s.works.getD q.toNat default).req err d)).setWork q.toNat default) (a := 3) (b := 4) (c := 5) rfl rfl rfl ?_ ?_ ?_ ?_ ?_ ?_) (FwT.consC (Fw.same rfl) FwT.nil))
  ·rfl
  ·exact size_set.symm
  ·rfl
  ·exact fun _ _ _ _ => rfl
  ·exact fun i _ j hj => Qb0 (q := q.toNat) (w := default) (by have h1 := hc.2.1; have h2 := hc.2.2.1; show q.toNat < s.works.length; omega) rfl i j hj
  ·exact fun _ _ _ _ => rfl
 ·have hr : QdM s q err d = (s, false) := if_neg hc
  refine Br.yes (Decidable.byContradiction fun ebye => hc (by simp [-List.getD_eq_getElem?_getD, -Int.default_eq_zero] at ebye <;> grind)) ?_; conv=>whnf
  refine Go0 ?_
  rw [hr]
  refine RM.allT (FwT.consL (FwL.own (a := 3) (b := 4) (c := 5) rfl rfl rfl) (FwT.consC (Fw.same rfl) FwT.nil))
theorem Qo1 : HB 23 := hB Tryz.func23
def QcU (l : List Evt) : Nat → List Int
 | 0 => []
 | k + 1 => if (l.getD k default).ret = true then insS (QcU l k) (l.getD k default).serial else QcU l k
def QeQ (l : List Evt) : Nat → List Int
 | 0 => []
 | k + 1 => insS (QeQ l k) (l.getD k default).serial
theorem Qlc {l : List Evt} {n : Int} : ∀ k, n ∈ QcU l k ↔ ∃ j, j < k ∧ (l.getD j default).ret = true ∧ (l.getD j default).serial = n
 | 0 => by simp [QcU]
 | k + 1 => by
  have ih := Qlc (l := l) (n := n) k
  unfold QcU
  split
  ·rename_i h
   rw [mem_insS, ih]
   constructor
   ·rintro (rfl | ⟨j, h1, h2, h3⟩)
    ·exact ⟨k, om, h, rfl⟩
    ·exact ⟨j, om, h2, h3⟩
   ·rintro ⟨j, h1, h2, h3⟩
    by_cases c : j = k
    ·subst c; exact Or.inl h3.symm
    ·exact Or.inr ⟨j, om, h2, h3⟩
  ·rename_i h
   rw [ih]
   constructor
   ·rintro ⟨j, h1, h2, h3⟩; exact ⟨j, om, h2, h3⟩
   ·rintro ⟨j, h1, h2, h3⟩
    by_cases c : j = k
    ·subst c; exact absurd h2 h
    ·exact ⟨j, om, h2, h3⟩
theorem QjL {l : List Evt} {n : Int} : ∀ k, n ∈ QeQ l k ↔ ∃ j, j < k ∧ (l.getD j default).serial = n
 | 0 => by simp [QeQ]
 | k + 1 => by
  have ih := QjL (l := l) (n := n) k
  unfold QeQ
  rw [mem_insS, ih]
  constructor
  ·rintro (rfl | ⟨j, h1, h2⟩)
   ·exact ⟨k, om, rfl⟩
   ·exact ⟨j, om, h2⟩
  ·rintro ⟨j, h1, h2⟩
   by_cases c : j = k
   ·subst c; exact Or.inl h2.symm
   ·exact Or.inr ⟨j, om, h2⟩
theorem Qma {l : List Evt} {n : Int} : Q7 l n = true ↔ ∃ j, j < l.length ∧ (l.getD j default).ret = true ∧ (l.getD j default).serial = n := by
 unfold Q7
 rw [List.any_eq_true]
 constructor
 ·rintro ⟨e, h1, h2⟩
  obtain ⟨j, hj, rfl⟩ := List.getElem_of_mem h1
  refine ⟨j, hj, ?_⟩
  rw [QaM _ _ hj]
  simpa using h2
 ·rintro ⟨j, hj, h2⟩
  rw [QaM _ _ hj] at h2
  exact ⟨_, List.getElem_mem hj, by simpa using h2⟩
theorem Qnn {l : List Evt} {k : Nat} (hk : k ≤ l.length) {n : Int} : Q4 (l.take k) n = true ↔ ∃ j, j < k ∧ (l.getD j default).ret = false ∧ (l.getD j default).serial = n := by
 unfold Q4
 rw [List.any_eq_true]
 constructor
 ·rintro ⟨e, h1, h2⟩
  obtain ⟨j, hj, rfl⟩ := List.getElem_of_mem h1
  rw [List.length_take] at hj
  refine ⟨j, om, ?_⟩
  rw [QaM _ _ om]
  simpa using h2
 ·rintro ⟨j, hj, h2⟩
  rw [QaM _ _ om] at h2
  refine ⟨l[j]'om, ?_, by simpa using h2⟩
  rw [List.mem_iff_getElem]
  exact ⟨j, by rw [List.length_take]; omega, by simp⟩
theorem Qtr {l : List Evt} {k : Nat} (hk : k < l.length) : ((l.getD k default).ret = false ∧ (l.getD k default).serial ∉ QcU l l.length ∧ (l.getD k default).serial ∉ QeQ l k) ↔ ((l.getD k default).ret = false ∧ Q7 l (l.getD k default).serial = false ∧ Q4 (l.take k) (l.getD k default).serial = false) := by
 rw [← Bool.not_eq_true (Q7 _ _), ← Bool.not_eq_true (Q4 _ _), Qma, Qnn om, Qlc, QjL]
 refine and_congr_right fun _ => and_congr_right fun h => not_congr ⟨?_, ?_⟩
 ·rintro ⟨j, h1, h2⟩
  refine ⟨j, h1, ?_, h2⟩
  cases hr : (l.getD j default).ret with
  | false => rfl
  | true => exact absurd ⟨j, om, hr, h2⟩ h
 ·rintro ⟨j, h1, _, h2⟩; exact ⟨j, h1, h2⟩
set_option maxHeartbeats 4000000 in
theorem QhM (s : St) (hs : s.evs.length ≤ 1000000) : PS 64 [.a s.cells] (.c (Qi (Qcu s.evs))) := by
 refine PSpec.rm ?_
 refine ov hΓ Tryz.func64 61 0 [.tmp 2] Tryz.ntmps64 Tryz.results64 ?_
 refine Go1 fun _h=>?_
 refine Lp.mkK hΓ (ι := Nat) [1, 2, 3, 13, 14] (fun i => [(15, .c (.int .i64 i))]) (fun k => [.vr s.cells, setO (QcU s.evs k)]) (fun k => k ≤ s.evs.length) (fun i => s.evs.length - i) 0 (Nat.zero_le _) ?_ ?_
 ·refine Mv.k1 ?_
  intro k j _ hj
  have : j = 0 := by simpa using hj
  subst this
  exact leF.of_eq rfl
 ·intro k hk
  refine Go0 ?_
  refine Br.of (fun h1=>?_) (fun h1=>?_)<;>(try simp only [Int.toNat_natCast] at h1)<;>(conv=>whnf)
  ·refine Go0 ?_
   have w0 := Qa (↑k + 1) om om
   refine Br.of (fun h2=>?_) (fun h2=>?_)<;>(try simp only [Int.toNat_natCast] at h2)<;>refine Go0 ?_
   ·refine ⟨k + 1, om, om, ?_⟩
    refine Mv.k1 ?_
    rw [show QcU s.evs (k + 1) = insS (QcU s.evs k) (s.evs.getD k default).serial from if_pos h2]
    exact Qgz
   ·refine ⟨k + 1, om, om, ?_⟩
    refine Mv.k1 ?_
    rw [show QcU s.evs (k + 1) = QcU s.evs k from if_neg (by rw [h2]; simp)]
    exact WO.mpS
  ·refine Go1 fun _h=>?_
   have : k = s.evs.length := by omega
   subst this
   refine Lp.reserve 3 1 (Qam .i64 []) 6 rfl ?_
   refine Lp.mkK hΓ (ι := Nat) [2, 3, 7, 28, 29] (fun k => [(30, .c (.int .i64 k)), (6, .c (.sl 3 1 (Qab s.evs k).length (Qab s.evs k).length false))]) (fun k => [.vr s.cells, setO (QcU s.evs s.evs.length), setO (QeQ s.evs k), .arr 3 1 (Qab s.evs k).length (Qam .i64 (Qab s.evs k))]) (fun k => k ≤ s.evs.length) (fun i => s.evs.length - i) 0 (Nat.zero_le _) ?_ ?_
   ·refine Mv.k1 ?_
    ·intro k j _ hj
     have : j = 0 := by simpa using hj
     subst this
     exact leF.of_eq rfl
   ·intro q hq
    have hlq := QdI s.evs q
    refine Go0 ?_
    refine Br.of (fun h3=>?_) (fun h3=>?_)<;>(try simp only [Int.toNat_natCast] at h3)<;>refine Go0 ?_
    ·have w0 := Qa (↑q + 1) om om
     have e0 : ((q : Int)).toNat = q := rfl
     have hcond := Qtr (l := s.evs) (k := q) om
     by_cases c : (s.evs.getD q default).ret = false ∧ (s.evs.getD q default).serial ∉ QcU s.evs s.evs.length ∧ (s.evs.getD q default).serial ∉ QeQ s.evs q
     ·refine Br.yes (by simp [-List.getD_eq_getElem?_getD, c.1, c.2.1, c.2.2]) ?_
      refine Go0 ?_
      refine ⟨q + 1, om, om, ?_⟩
      have hto : Qab s.evs (q + 1) = Qab s.evs q ++ [(s.evs.getD q default).serial] := if_pos (hcond.1 c)
      have hl2 : (Qab s.evs (q + 1)).length = (Qab s.evs q).length + 1 := by rw [hto]; simp
      refine Mv.k2 ?_ ?_
      ·exact Qgz
      ·intro i hi j hj
       rw [hto]
       exact WC.eq (Qdg rfl om hj) rfl
     ·refine Br.no (Bool.eq_false_iff.2 fun e => c (by simp [-List.getD_eq_getElem?_getD] at e; exact ⟨e.1.1, of_decide_eq_false e.1.2, of_decide_eq_false e.2⟩)) ?_
      refine Go0 ?_
      refine ⟨q + 1, om, om, ?_⟩
      have hto : Qab s.evs (q + 1) = Qab s.evs q := if_neg (fun z => c (hcond.2 z))
      rw [hto]
      refine Mv.k1 ?_
      ·exact Qgz
    ·have : q = s.evs.length := by omega
     subst this
     exact RM.allC (Fw.sl rfl rfl (fun i _ j _ => Fw.same rfl) (fun e => by cases e))
theorem QhH : HB 64 := hB Tryz.func64
end Go.Proofs
end
