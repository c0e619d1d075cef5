/- Contracts, lemmas; no condition. -/
import Derived.Test.YtkelkepdcfogaaaGreatP11B
import Derived.Test.YtkelkepdcfogaaaGreatP30B
import Derived.Test.YtkelkepdcfogaaaGreatP16B
set_option linter.all false
section
open Go Go.Am
namespace Go.Proofs
set_option maxRecDepth 20000
structure MInv (c : Conf) (x : Dev) (m : List (List Ent)) (k : Nat) : Prop where
 ok : x.ok
 n : (x.zones.length : Int) = c.zones
 size : x.size = c.size
 sec : ∀ z : Nat, 2 * Qg c ≤ z → ∀ s ∈ (x.zones.getD z default).sectors, Qf1 c.blocks s
 ml : m.length = 1
 ent : AllE (fun e => e.block < c.blocks ∧ 2 * Qg c ≤ e.zone) m
 len : ∀ i, (m.getD i default).length ≤ k
theorem Qtz {m : List (List Ent)} {n : Nat} (h1 : m.length = 1) (h2 : ∀ i, (m.getD i default).length ≤ n) : (allS m).length ≤ n := by
 unfold allS
 split
 ·unfold allM
  have key : ∀ (r acc : List Ent), (r.foldl insE acc).length = acc.length + r.length := by
   intro r
   induction r with
   | nil => intro acc; rfl
   | cons x r ih => intro acc; rw [List.foldl_cons, ih, QhX, List.length_cons]; omega
  rw [key]
  match m, h1 with
  | [l], _ =>
   have := h2 0
   simp at this ⊢
   exact this
 ·exact Nat.zero_le _
theorem QsR (m : List (List Ent)) (b v fz fo tz t2 move : Int) : (relM m b v fz fo tz t2 move).1.length = m.length := by
 unfold relM
 split
 ·split
  ·simp
  ·rfl
 ·rfl
theorem Qun {m : List (List Ent)} {n : Nat} (h : ∀ i, (m.getD i default).length ≤ n) (b v fz fo tz t2 move : Int) (i : Nat) : ((relM m b v fz fo tz t2 move).1.getD i default).length ≤ n := by
 have hi := h i
 unfold relM
 split
 ·rename_i q
  split
  ·rw [QbS (QbT q.1 q.2)]
   split
   ·have hst := h (Qj m b)
    unfold relE
    split
    ·split
     ·show (List.set _ _ _).length ≤ n
      rw [List.length_set]; exact hst
     ·exact hst
    ·exact Nat.zero_le _
   ·exact hi
  ·exact hi
 ·exact hi
theorem MInv.mono {c : Conf} {x : Dev} {m : List (List Ent)} {k k' : Nat} (h : MInv c x m k) (hk : k ≤ k') : MInv c x m k' :=
 ⟨h.ok, h.n, h.size, h.sec, h.ml, h.ent, fun i => Nat.le_trans (h.len i) hk⟩
theorem MInv.append {c : Conf} {x : Dev} {m : List (List Ent)} {k : Nat} (h : MInv c x m k) (z : Int) {s : ByteArray} (hs : Qf1 c.blocks s) : MInv c (QN x z s) m k := by
 refine ⟨QcK h.ok z s, by rw [QfI]; exact h.n, (Qhn x z s).trans h.size, fun i hi t ht => ?_, h.ml, h.ent, h.len⟩
 rw [Qid] at ht
 split at ht
 ·rcases List.mem_append.1 ht with q | q
  ·exact h.sec i hi t q
  ·rw [List.mem_singleton.1 q]; exact hs
 ·exact h.sec i hi t ht
theorem MInv.save {c : Conf} {x : Dev} {m : List (List Ent)} {k : Nat} (h : MInv c x m k) (hc : Qq c = 0) (next seq : Int) {slot : Int} (h0 : 0 ≤ slot) (h1 : slot ≤ 1) : MInv c (QiS c x m next seq slot) m k := by
 have hk := Qrw (next := next) (seq := seq) hc h.ok (fun e he => (h.ent.all e he).1) h0 h1
 exact ⟨hk.ok, by rw [hk.n]; exact h.n, hk.size.trans h.size, fun z hz s hs => h.sec z hz s (by rw [← hk.sec z hz]; exact hs), h.ml, h.ent, h.len⟩
theorem MInv.inst {c : Conf} {x : Dev} {m : List (List Ent)} {k : Nat} (h : MInv c x m k) {e : Ent} (he : e.block < c.blocks ∧ 2 * Qg c ≤ e.zone) : MInv c x (Qaq m e).1 (k + 1) :=
 ⟨h.ok, h.n, h.size, h.sec, by rw [QjM]; exact h.ml, h.ent.inst he, Ql1 h.len⟩
theorem MInv.rel {c : Conf} {x : Dev} {m : List (List Ent)} {k : Nat} (h : MInv c x m k) {b v fz fo tz t2 move : Int} (hz : 2 * Qg c ≤ tz) : MInv c x (relM m b v fz fo tz t2 move).1 (k + 1) :=
 ⟨h.ok, h.n, h.size, h.sec, by rw [QsR]; exact h.ml, h.ent.rel fun e he => ⟨he.1, hz⟩, fun i => Nat.le_succ_of_le (Qun h.len _ _ _ _ _ _ _ i)⟩
theorem MInv.copy {c : Conf} {x : Dev} {m : List (List Ent)} {k : Nat} (h : MInv c x m k) (hb : 0 < c.blocks) {z o : Int} (hz : 2 * Qg c ≤ z) (hs : 0 ≤ Qg c) : (QfC (decR (Qcz x z o))).1.block < c.blocks := by
 unfold QfC
 split
 ·show (decR (Qcz x z o)).block < c.blocks
  show Qf1 c.blocks (Qcz x z o)
  unfold Qcz
  split
  ·rename_i q
   have hin : 0 ≤ o ∧ o < (x.zones.getD z.toNat default).sectors.length := by
    unfold QfD at q
    split at q
    ·split at q
     ·rename_i w; simpa using w
     ·cases q
    ·rename_i w; exact absurd q w
   refine h.sec z.toNat (by omega) _ ?_
   have key : ∀ (l : List ByteArray) (i : Nat), i < l.length → l.getD i ByteArray.empty ∈ l := fun l i hi => by
    rw [show l.getD i ByteArray.empty = l[i] by simp [List.getD, hi]]
    exact List.getElem_mem hi
   exact key _ _ (by omega)
  ·exact Qoe hb
 ·exact hb
structure Good (c : Conf) (x : Dev) : Prop where
 conf : Qq c = 0
 ok : x.ok
 n : (x.zones.length : Int) = c.zones
 size : x.size = c.size
theorem Qj0 {c : Conf} (hc : Qq c = 0) : newE c.zones c.size 3 3 = 0 ∧ MInv c (newX c.zones c.size 3 3) [[]] 0 := by
 have hr := QaR hc
 have hcf := confR_iff.1 hr.1
 have hsr := Qao hr.1
 have hd := hr.2.1
 unfold Qal at hd
 have hok := QuP (zones := c.zones) (size := c.size) (op := 3) (act := 3) (by omega) (by omega) (by omega) (by omega) (by decide) (by decide) (by omega)
 refine ⟨?_, hok, ?_, rfl, fun z _ s hs => ?_, rfl, fun l hl e he => ?_, fun i => ?_⟩
 ·unfold newE
  rw [decide_eq_true (by omega), if_pos rfl]
  exact check_ok.2 hok
 ·show ((List.replicate c.zones.toNat zone0).length : Int) = c.zones
  rw [List.length_replicate]; omega
 ·have : ((newX c.zones c.size 3 3).zones.getD z default).sectors = [] := by
   show ((List.replicate c.zones.toNat zone0).getD z default).sectors = []
   by_cases q : z < c.zones.toNat
   ·rw [show (List.replicate c.zones.toNat zone0).getD z default = zone0 by simp [List.getD, q]]; rfl
   ·rw [show (List.replicate c.zones.toNat zone0).getD z default = default by simp only [List.getD]; rw [List.getElem?_eq_none (by rw [List.length_replicate]; omega)]; rfl]; rfl
  rw [this] at hs; cases hs
 ·rw [List.mem_singleton.1 hl] at he; cases he
 ·match i with
  | 0 => exact Nat.le_refl _
  | i + 1 => exact Nat.le_refl _
theorem QpE (d : DiceM) {b v : Int} (h1 : 1 ≤ b) (h2 : b ≤ 1000) : (recR d b v).block < b := by
 have := d.next_range h1 (by omega)
 unfold recR
 split <;> exact this.2
set_option maxHeartbeats 8000000 in
theorem Qrm (l : List Int) (hl : l.length ≤ 10000000) : CS 9 [.c (QbH l)] [] fun s H => ∃ p : Conf × Dev, Good p.1 p.2 ∧ s = .t [.inr p.1.cells, .inr p.2.cells] ∧ H = [] := by
 have ok0 : DiceM.ok ⟨l, 0⟩ := ⟨Nat.zero_le _, hl⟩
 have hc := QlH ⟨l, 0⟩
 have hcr := (QaR hc)
 have hcf := confR_iff.1 hcr.1
 have hsr := Qao hcr.1
 obtain ⟨n1, n2⟩ := Qj0 hc
 have okD : DiceM.ok (Qh9 ⟨l, 0⟩) := ok0.step.step.step.step.step.step
 refine CSpec.rm ?_
 refine CSpec.of_aw hΓ Tryz.func9 180 0 [.cell 2 26, .cell 3 29] Tryz.ntmps9 ?_
 refine AWn.seq hΓ ?_
 ((conv=>whnf);(repeat' ((first|refine Nd ?_|refine Hv fun _h=>?_);conv=>whnf)))
 refine AWn.seq hΓ ?_
 ((conv=>whnf);(repeat' ((first|refine Nd ?_|refine Hv fun _h=>?_);conv=>whnf)))
 refine CallN.autoQ [] QjR (QjF l hl) ?_; conv=>whnf
 ((conv=>whnf);(repeat' ((first|refine Nd ?_|refine Hv fun _h=>?_);conv=>whnf)))
 refine AWn.seq hΓ ?_
 ((conv=>whnf);(repeat' ((first|refine Nd ?_|refine Hv fun _h=>?_);conv=>whnf)))
 refine CallN.autoQ [2] Qig (QiX ⟨l, 0⟩ ok0) ?_; conv=>whnf
 ((conv=>whnf);(repeat' ((first|refine Nd ?_|refine Hv fun _h=>?_);conv=>whnf)))
 generalize hC : QbW ⟨l, 0⟩ = c at *
 generalize hD : Qh9 ⟨l, 0⟩ = D0 at *
 refine AWn.seq hΓ ?_
 ((conv=>whnf);(repeat' ((first|refine Nd ?_|refine Hv fun _h=>?_);conv=>whnf)))
 refine CallN.pureA Qpd (Qpt c hc ) ?_
 ((conv=>whnf);(repeat' ((first|refine Nd ?_|refine Hv fun _h=>?_);conv=>whnf)))
 refine AWn.seq hΓ ?_
 ((conv=>whnf);(repeat' ((first|refine Nd ?_|refine Hv fun _h=>?_);conv=>whnf)))
 have hnew := QgM c.zones c.size 3 3 (by omega)
 rw [n1, show newD c.zones c.size 3 3 = newX c.zones c.size 3 3 from if_pos n1] at hnew
 refine CallN.pureA QgG hnew ?_
 ((conv=>whnf);(repeat' ((first|refine Nd ?_|refine Hv fun _h=>?_);conv=>whnf)))
 refine AWn.seq hΓ ?_
 ((conv=>whnf);(repeat' ((first|refine Nd ?_|refine Hv fun _h=>?_);conv=>whnf)))
 refine CallN.pureA Qss (Qrb 1 (by decide) (by decide) ) ?_
 ((conv=>whnf);(repeat' ((first|refine Nd ?_|refine Hv fun _h=>?_);conv=>whnf)))
 rw [show List.replicate (Int.toNat 1) ([] : List Ent) = [[]] from rfl]
 generalize hM0 : ([[]] : List (List Ent)) = m0 at *
 refine AWn.seq hΓ ?_
 ((conv=>whnf);(repeat' ((first|refine Nd ?_|refine Hv fun _h=>?_);conv=>whnf)))
 generalize newX c.zones c.size 3 3 = x0 at *
 refine AWn.seq hΓ ?_
 ((conv=>whnf);(repeat' ((first|refine Nd ?_|refine Hv fun _h=>?_);conv=>whnf)))
 refine Lp.mkA (ι := DiceM × Dev × List (List Ent) × Int × Nat) [2, 3, 4, 5, 6, 8, 10] (fun p => [(12, .c (.int .i64 p.2.2.2.1)), (13, .c (.int .i64 p.2.2.2.2))]) (fun p => [.vr [.int .i64 0, .int .i64 0, .int .i64 0, .int .i64 0, .int .i64 0, .int .i64 0], .vr [.int .i64 0, .int .i64 0, .int .i64 0, .nils], .vr p.1.cells, .vr c.cells, .vr (Lay.cells c), .vr p.2.1.cells, .vr [Qm p.2.2.1]]) (fun p => p.1.ok ∧ MInv c p.2.1 p.2.2.1 p.2.2.2.2 ∧ p.2.2.2.2 ≤ 30) (fun p => 30 - p.2.2.2.2) (D0, x0, m0, 1, 0) ⟨okD, n2, Nat.zero_le _⟩ ?_ ?_
 ·show Mv _ _ _ ([(12, .c (.int .i64 1)), (13, .c (.int .i64 0))] ++ Qbp [2, 3, 4, 5, 6, 8, 10] _) [.vr [.int .i64 0, .int .i64 0, .int .i64 0, .int .i64 0, .int .i64 0, .int .i64 0], .vr [.int .i64 0, .int .i64 0, .int .i64 0, .nils], .vr D0.cells, .vr c.cells, .vr (Lay.cells c), .vr x0.cells, .vr [Qm m0]]
  exact Mv.k0
 ·rintro ⟨D, x, m, v, k⟩ ⟨hD, hI, hk⟩
  have hD : D.ok := hD
  have hI : MInv c x m k := hI
  have hk : k ≤ 30 := hk
  have hml := hI.ml
  have hms : ∀ i, (m.getD i default).length ≤ 1000000 := fun i => by have := hI.len i; omega
  refine AWn.seq hΓ ?_
  ((conv=>whnf);(repeat' ((first|refine Nd ?_|refine Hv fun _h=>?_);conv=>whnf)))
  refine CallG.keepQ [2] Qr9 (QrG D hD) wb0 wb0 ?_
  ((conv=>whnf);(repeat' ((first|refine Nd ?_|refine Hv fun _h=>?_);conv=>whnf)))
  by_cases h1 : k < 30 ∧ 0 < D.rest
  ·refine Br.yes (by rw [show (((D, x, m, v, k) : DiceM × Dev × List (List Ent) × Int × Nat).2.2.2.2 : Int) = (k : Int) from rfl, decide_eq_true (by omega : (k : Int) < 30), decide_eq_true (by omega : D.rest > 0)]; rfl) ?_
   ((conv=>whnf);(repeat' ((first|refine Nd ?_|refine Hv fun _h=>?_);conv=>whnf)))
   refine AWn.assoc ?_
   refine AWn.block ?_
   refine AWn.seq hΓ ?_
   ((conv=>whnf);(repeat' ((first|refine Nd ?_|refine Hv fun _h=>?_);conv=>whnf)))
   refine CallN.autoQ [2] Qok (Qnv D hD c.blocks v) ?_; conv=>whnf
   ((conv=>whnf);(repeat' ((first|refine Nd ?_|refine Hv fun _h=>?_);conv=>whnf)))
   have hD1 : (recD D).ok := hD.step.step.step
   generalize recD D = D1 at *
   have hr0 : (recR D c.blocks v).block < c.blocks := QpE D (by omega) (by omega)
   generalize recR D c.blocks v = r0 at *
   refine AWn.seq hΓ ?_
   ((conv=>whnf);(repeat' ((first|refine Nd ?_|refine Hv fun _h=>?_);conv=>whnf)))
   refine Dr.mkE hΓ hMix [34] [(0, 5), (1, 5)] (by kernel_rfl) ?_; conv=>whnf
   ((conv=>whnf);(repeat' ((first|refine Nd ?_|refine Hv fun _h=>?_);conv=>whnf)))
   refine CallE.autoQ [2] QaA (QaE D1 hD1 (Qal c)) ?_; conv=>whnf
   ((conv=>whnf);(repeat' ((first|refine Nd ?_|refine Hv fun _h=>?_);conv=>whnf)))
   have hz0 := D1.next_range (n := Qal c) (by omega) (by unfold Qal; omega)
   have hzw : IntKind.i64.wrap (2 * Qg c + D1.next (Qal c)) = 2 * Qg c + D1.next (Qal c) := Qa _ (by unfold Qal at *; omega) (by unfold Qal at *; omega)
   rw [hzw]
   have hzz : 2 * Qg c ≤ 2 * Qg c + D1.next (Qal c) := by omega
   generalize 2 * Qg c + D1.next (Qal c) = z at *
   have hD2 := hD1.step
   generalize D1.step = D2 at *
   refine AWn.join hΓ (ι := DiceM × Rec × Int) [2, 3, 4, 5, 6, 8, 10, 13, 14, 15] (fun p => [(12, .c (.int .i64 p.2.2))]) (fun p => [.vr [.int .i64 0, .int .i64 0, .int .i64 0, .int .i64 0, .int .i64 0, .int .i64 0], .vr [.int .i64 0, .int .i64 0, .int .i64 0, .nils], .vr p.1.cells, .vr c.cells, .vr (Lay.cells c), .vr x.cells, .vr [Qm m], .vr p.2.1.cells]) (fun p => p.1.ok ∧ p.2.1.block < c.blocks) ?_ ?_
   ·((conv=>whnf);(repeat' ((first|refine Nd ?_|refine Hv fun _h=>?_);conv=>whnf)))
    refine CallN.pureA QiY (QhZ m r0.block (by omega) hms ) ?_
    ((conv=>whnf);(repeat' ((first|refine Nd ?_|refine Hv fun _h=>?_);conv=>whnf)))
    refine CallG.autoQ [2] QaA (QaE D2 hD2 3) (fun hg => ?_) (fun hg => ?_) <;> (conv=>whnf)
    ·((conv=>whnf);(repeat' ((first|refine Nd ?_|refine Hv fun _h=>?_);conv=>whnf)))
     obtain ⟨o1, o2⟩ := hI.ent.find hg
     by_cases h2 : D2.next 3 = 2
     ·refine Br.yes (by rw [hg, h2]; rfl) ?_
      ((conv=>whnf);(repeat' ((first|refine Nd ?_|refine Hv fun _h=>?_);conv=>whnf)))
      generalize (Qa5 m r0.block).1 = old at *
      refine CallN.pureA QkH (QkR x old.zone old.offset ) ?_
      ((conv=>whnf);(repeat' ((first|refine Nd ?_|refine Hv fun _h=>?_);conv=>whnf)))
      refine CallN.pureA Qey (Qd6 (Qcz x old.zone old.offset) ) ?_
      ((conv=>whnf);(repeat' ((first|refine Nd ?_|refine Hv fun _h=>?_);conv=>whnf)))
      refine CallN.pureA QpC (QpG (decR (Qcz x old.zone old.offset)) ) ?_
      ((conv=>whnf);(repeat' ((first|refine Nd ?_|refine Hv fun _h=>?_);conv=>whnf)))
      refine ⟨(D2.step, (QfC (decR (Qcz x old.zone old.offset))).1, v), ⟨hD2.step, hI.copy (by omega) o1.2 (by omega)⟩, ?_⟩
      exact Mv.k0
     ·refine Br.no (by rw [hg]; simpa using h2) ?_
      ((conv=>whnf);(repeat' ((first|refine Nd ?_|refine Hv fun _h=>?_);conv=>whnf)))
      refine ⟨(D2.step, r0, IntKind.i64.wrap (v + 1)), ⟨hD2.step, hr0⟩, ?_⟩
      exact Mv.k0
    ·((conv=>whnf);(repeat' ((first|refine Nd ?_|refine Hv fun _h=>?_);conv=>whnf)))
     refine Br.no (by rw [hg]; rfl) ?_
     ((conv=>whnf);(repeat' ((first|refine Nd ?_|refine Hv fun _h=>?_);conv=>whnf)))
     refine ⟨(D2, r0, IntKind.i64.wrap (v + 1)), ⟨hD2, hr0⟩, ?_⟩
     exact Mv.k0
   ·rintro ⟨D3, r, v2⟩ ⟨hD3, hrb⟩
    have hD3 : D3.ok := hD3
    have hrb : r.block < c.blocks := hrb
    refine AWn.seq hΓ ?_
    conv=>whnf
    refine Dr.mkE hΓ hMix [] [(7, 10), (8, 10)] (by kernel_rfl) ?_; conv=>whnf
    ((conv=>whnf);(repeat' ((first|refine Nd ?_|refine Hv fun _h=>?_);conv=>whnf)))
    refine CallP.auto Qds (Qdp r ) ?_
    ((conv=>whnf);(repeat' ((first|refine Nd ?_|refine Hv fun _h=>?_);conv=>whnf)))
    refine CallP.auto Qb5 (Qcb x hI.ok.tiny.small z (encR r) ) ?_
    ((conv=>whnf);(repeat' ((first|refine Nd ?_|refine Hv fun _h=>?_);conv=>whnf)))
    refine AWn.seq hΓ ?_
    ((conv=>whnf);(repeat' ((first|refine Nd ?_|refine Hv fun _h=>?_);conv=>whnf)))
    by_cases hE : QT x z (encR r) = 0
    ·refine Br.no (by simpa using hE) ?_
     ((conv=>whnf);(repeat' ((first|refine Nd ?_|refine Hv fun _h=>?_);conv=>whnf)))
     refine AWn.seq hΓ ?_
     ((conv=>whnf);(repeat' ((first|refine Nd ?_|refine Hv fun _h=>?_);conv=>whnf)))
     have hY := hI.append z (s := encR r) (Qre hrb (by omega))
     generalize QN x z (encR r) = y at *
     generalize Qbj x z (encR r) = at_ at *
     refine AWn.seq hΓ ?_
     ((conv=>whnf);(repeat' ((first|refine Nd ?_|refine Hv fun _h=>?_);conv=>whnf)))
     refine AWn.join hΓ (ι := List (List Ent)) [2, 3, 4, 5, 6, 8, 10, 12, 13] (fun _ => []) (fun m2 => [.vr [.int .i64 0, .int .i64 0, .int .i64 0, .int .i64 0, .int .i64 0, .int .i64 0], .vr [.int .i64 0, .int .i64 0, .int .i64 0, .nils], .vr D3.cells, .vr c.cells, .vr (Lay.cells c), .vr y.cells, .vr [Qm m2]]) (fun m2 => MInv c y m2 (k + 1)) ?_ ?_
     ·((conv=>whnf);(repeat' ((first|refine Nd ?_|refine Hv fun _h=>?_);conv=>whnf)))
      refine CallN.pureA QiY (QhZ m r.block (by omega) hms ) ?_
      ((conv=>whnf);(repeat' ((first|refine Nd ?_|refine Hv fun _h=>?_);conv=>whnf)))
      by_cases h2 : (Qa5 m r.block).2 = true ∧ (Qa5 m r.block).1.version = r.version
      ·refine Br.yes (by show (bif (Qa5 m r.block).2 then (Qa5 m r.block).1.version == r.version else false) = true; rw [h2.1, h2.2]; simp) ?_
       ((conv=>whnf);(repeat' ((first|refine Nd ?_|refine Hv fun _h=>?_);conv=>whnf)))
       generalize (Qa5 m r.block).1 = old at *
       refine CallN.pureA QnG (QnU m r.block r.version old.zone old.offset z at_ r.move (by omega) hms ) ?_
       ((conv=>whnf);(repeat' ((first|refine Nd ?_|refine Hv fun _h=>?_);conv=>whnf)))
       refine ⟨(relM m r.block r.version old.zone old.offset z at_ r.move).1, hY.rel hzz, ?_⟩
       exact Mv.k0
      ·refine Br.no (by
        show (bif (Qa5 m r.block).2 then (Qa5 m r.block).1.version == r.version else false) = false
        cases q : (Qa5 m r.block).2 with
        | false => rfl
        | true => simpa using fun w => h2 ⟨q, w⟩) ?_
       ((conv=>whnf);(repeat' ((first|refine Nd ?_|refine Hv fun _h=>?_);conv=>whnf)))
       refine CallN.pureA Qqt (Qpb m ⟨r.block, r.kind, r.version, r.move, z, at_⟩ (by omega) hms ) ?_
       ((conv=>whnf);(repeat' ((first|refine Nd ?_|refine Hv fun _h=>?_);conv=>whnf)))
       refine ⟨(Qaq m ⟨r.block, r.kind, r.version, r.move, z, at_⟩).1, hY.inst ⟨hrb, hzz⟩, ?_⟩
       exact Mv.k0
     ·intro m2 hI2
      have hI2 : MInv c y m2 (k + 1) := hI2
      have hw1 : IntKind.i64.wrap ((k : Int) + 1) = ((k + 1 : Nat) : Int) := by rw [Qa _ (by omega) (by omega)]; omega
      refine AWn.ofVc hΓ ?_
      ((conv=>whnf);(repeat' ((first|refine Nd ?_|refine Hv fun _h=>?_);conv=>whnf)))
      refine CallN.autoQ [2] QaA (QaE D3 hD3 9) ?_; conv=>whnf
      ((conv=>whnf);(repeat' ((first|refine Nd ?_|refine Hv fun _h=>?_);conv=>whnf)))
      by_cases h3 : D3.next 9 = 8
      ·refine Br.yes (by simpa using h3) ?_
       ((conv=>whnf);(repeat' ((first|refine Nd ?_|refine Hv fun _h=>?_);conv=>whnf)))
       refine Dr.mkE hΓ hMix [34] [(0, 7), (1, 7), (2, 7), (3, 7), (4, 7), (5, 7)] (by kernel_rfl) ?_; conv=>whnf
       ((conv=>whnf);(repeat' ((first|refine Nd ?_|refine Hv fun _h=>?_);conv=>whnf)))
       refine CallE.autoQ [2] QaA (QaE D3.step hD3.step 2) ?_; conv=>whnf
       ((conv=>whnf);(repeat' ((first|refine Nd ?_|refine Hv fun _h=>?_);conv=>whnf)))
       have hs2 := D3.step.next_range (n := 2) (by omega) (by omega)
       have hal := Qtz hI2.ml hI2.len
       have hsv := Qst c y m2 v2 (IntKind.i64.wrap (1 + k)) (D3.step.next 2) hc hI2.ok (by have := hI2.ml; omega) (fun i => by have := hI2.len i; omega) (by omega) (fun e he => (hI2.ent.all e he).1) hs2.1 (by omega)
       refine CallP.auto QrU hsv ?_
       ((conv=>whnf);(repeat' ((first|refine Nd ?_|refine Hv fun _h=>?_);conv=>whnf)))
       refine AWn.ofVc hΓ ?_
       ((conv=>whnf);(repeat' ((first|refine Nd ?_|refine Hv fun _h=>?_);conv=>whnf)))
       have hI3 := hI2.save hc v2 (IntKind.i64.wrap (1 + k)) hs2.1 (show D3.step.next 2 ≤ 1 by omega)
       refine ⟨(D3.step.step, QiS c y m2 v2 (IntKind.i64.wrap (1 + k)) (D3.step.next 2), m2, v2, k + 1), ⟨hD3.step.step, hI3, by show k + 1 ≤ 30; omega⟩, by show 30 - (k + 1) < 30 - k; omega, ?_⟩
       rw [show IntKind.i64.wrap ((((D, x, m, v, k) : DiceM × Dev × List (List Ent) × Int × Nat).2.2.2.2 : Int) + 1) = ((k + 1 : Nat) : Int) from hw1]
       exact Mv.k0
      ·refine Br.no (by simpa using h3) ?_
       ((conv=>whnf);(repeat' ((first|refine Nd ?_|refine Hv fun _h=>?_);conv=>whnf)))
       refine AWn.ofVc hΓ ?_
       ((conv=>whnf);(repeat' ((first|refine Nd ?_|refine Hv fun _h=>?_);conv=>whnf)))
       refine ⟨(D3.step, y, m2, v2, k + 1), ⟨hD3.step, hI2, by show k + 1 ≤ 30; omega⟩, by show 30 - (k + 1) < 30 - k; omega, ?_⟩
       rw [show IntKind.i64.wrap ((((D, x, m, v, k) : DiceM × Dev × List (List Ent) × Int × Nat).2.2.2.2 : Int) + 1) = ((k + 1 : Nat) : Int) from hw1]
       exact Mv.k0
    ·refine Br.yes (by simpa using hE) ?_
     ((conv=>whnf);(repeat' ((first|refine Nd ?_|refine Hv fun _h=>?_);conv=>whnf)))
     refine AWn.ofVc hΓ ?_
     ((conv=>whnf);(repeat' ((first|refine Nd ?_|refine Hv fun _h=>?_);conv=>whnf)))
     have hw1 : IntKind.i64.wrap ((k : Int) + 1) = ((k + 1 : Nat) : Int) := by rw [Qa _ (by omega) (by omega)]; omega
     refine ⟨(D3, x, m, v2, k + 1), ⟨hD3, hI.mono (Nat.le_succ k), by show k + 1 ≤ 30; omega⟩, by show 30 - (k + 1) < 30 - k; omega, ?_⟩
     rw [show IntKind.i64.wrap ((((D, x, m, v, k) : DiceM × Dev × List (List Ent) × Int × Nat).2.2.2.2 : Int) + 1) = ((k + 1 : Nat) : Int) from hw1]
     exact Mv.k0
  ·refine Br.no (Bool.eq_false_iff.2 fun q => h1 ?_) ?_
   ·rw [show (((D, x, m, v, k) : DiceM × Dev × List (List Ent) × Int × Nat).2.2.2.2 : Int) = (k : Int) from rfl] at q
    by_cases w1 : (k : Int) < 30
    ·rw [decide_eq_true w1] at q
     exact ⟨by omega, of_decide_eq_true q⟩
    ·rw [decide_eq_false w1] at q
     cases q
   ·((conv=>whnf);(repeat' ((first|refine Nd ?_|refine Hv fun _h=>?_);conv=>whnf)))
    refine AWn.ofVc hΓ ?_
    ((conv=>whnf);(repeat' ((first|refine Nd ?_|refine Hv fun _h=>?_);conv=>whnf)))
    refine Dr.mkE hΓ hMix [] [(1, 2)] (by kernel_rfl) ?_; conv=>whnf
    ((conv=>whnf);(repeat' ((first|refine Nd ?_|refine Hv fun _h=>?_);conv=>whnf)))
    refine ⟨.t [.inr c.cells, .inr x.cells], [], ?_, (c, x), ⟨hc, hI.ok, hI.n, hI.size⟩, rfl, rfl⟩
    exact RM.w0
theorem Qsj : HB 9 := hB Tryz.func9
def awC : Conf := QbW ⟨[0, 3], 0⟩
def awA : Rec := ⟨2, 1, 4, 0, ByteArray.empty⟩
def awB : Rec := ⟨1, 1, 3, 0, Qie 2⟩
def aw0 : Dev := newX awC.zones awC.size 3 3
def aw1 : Dev := QN aw0 (awC.zones - 1) (encR awA)
def aw2 : Dev := QN aw1 (awC.zones - 1) (encR awB)
theorem QqF : Qbb awC aw2 = 0 := by decide +kernel
theorem QuZ : (Qbu awC aw2).version = 4 ∧ (Qbu awC aw2).slot = -1 ∧ (allS (Qbu awC aw2).map).length = 1 ∧ ((allS (Qbu awC aw2).map).getD 0 default).kind = 2 ∧ ((allS (Qbu awC aw2).map).getD 0 default).version = 4 ∧ awC.zones ≤ 32 ∧ 1 ≤ awC.zones := by decide +kernel
theorem QuO : newE awC.zones awC.size 3 3 = 0 ∧ aw0.ok ∧ aw1.ok ∧ aw2.ok := by
 obtain ⟨h1, h2⟩ := Qj0 (c := awC) (QlH ⟨[0, 3], 0⟩)
 exact ⟨h1, h2.ok, QcK h2.ok _ _, QcK (QcK h2.ok _ _) _ _⟩
theorem Qt3 (c : Conf) (d : Dev) : (Qbu c d).map.length = c.shards.toNat ∧ ∀ i, ((Qbu c d).map.getD i default).length ≤ c.blocks.toNat := by
 refine ⟨?_, fun i => ?_⟩
 ·show (QbR _ _).length = _
  rw [Qjz]
  exact List.length_replicate
 ·have h1 := Qmf (Qm5 c.shards) (winL c d) i
  have h2 := QjC (Qbt c d) (Qbd c d) c.blocks.toNat
  have h3 : (winL c d).length ≤ c.blocks.toNat := h2
  show ((QbR _ _).getD i default).length ≤ _
  omega
theorem Qs3 (c : Conf) (d : Dev) : (QdI c d).map.length ≤ 1000000 ∧ ∀ i, ((QdI c d).map.getD i default).length ≤ 1000000 := by
 unfold QdI
 split
 ·rename_i h
  obtain ⟨h1, h2⟩ := Qt3 c d
  have hc : Qq c = 0 := by
   unfold Qbb at h
   split at h
   ·rename_i q; exact q
   ·rename_i q; exact absurd h q
  have := confR_iff.1 (QaR hc).1
  exact ⟨by omega, fun i => by have := h2 i; omega⟩
 ·exact ⟨by decide, fun i => by
   show (([] : List (List Ent)).getD i default).length ≤ _
   exact Nat.zero_le _⟩
set_option maxHeartbeats 4000000 in
theorem Qiw : PS 8 [] (.c (.bool true)) := by
 obtain ⟨hN, k0, k1, k2⟩ := QuO
 obtain ⟨v1, v2, v3, v4, v5, v6, v7⟩ := QuZ
 have hnew := QgM awC.zones awC.size 3 3 (by omega)
 rw [hN, show newD awC.zones awC.size 3 3 = aw0 from if_pos hN] at hnew
 have hB := Qpw awC aw2 k2.tiny
 rw [QqF, show QdI awC aw2 = Qbu awC aw2 from if_pos QqF] at hB
 have ok0 : DiceM.ok ⟨[0, 3], 0⟩ := ⟨Nat.zero_le _, by decide⟩
 obtain ⟨m1, m2⟩ := Qs3 awC aw2
 rw [show QdI awC aw2 = Qbu awC aw2 from if_pos QqF] at m1 m2
 refine PSpec.rm ?_
 refine ov hΓ Tryz.func8 89 0 [.tmp 0] Tryz.ntmps8 Tryz.results8 ?_
 ((conv=>whnf);(repeat' ((first|refine Nd ?_|refine Hv fun _h=>?_);conv=>whnf)))
 have hl : ∀ i, i < 2 → ∀ j, j < 1 → Qaf 1 [.int .i64 0, .int .i64 3] i j = QcD .i64 [0, 3] i j := fun i hi j hj => Qs2 (l := [0, 3]) rfl hi hj
 refine CallN.fzK 0 [] [(0, .c (.bool false))] [] [.c (QbH [0, 3])] rfl (Nat.zero_le _) (fun i hi j hj => (congrArg C.imm (hl i hi j hj)).trans rfl) wb0 wb0 ?_ leN ?_
 ·refine wb1 ?_
  exact WC.fz rfl rfl (fun i hi j hj => leF.of_eq (hl i hi j hj)) (fun e => by cases e)
 refine CallN.autoQ [] QjR (QjF [0, 3] (by decide)) ?_; conv=>whnf
 ((conv=>whnf);(repeat' ((first|refine Nd ?_|refine Hv fun _h=>?_);conv=>whnf)))
 refine CallN.autoQ [0] Qig (QiX ⟨[0, 3], 0⟩ ok0) ?_; conv=>whnf
 ((conv=>whnf);(repeat' ((first|refine Nd ?_|refine Hv fun _h=>?_);conv=>whnf)))
 rw [show QbW ⟨[0, 3], 0⟩ = awC from rfl]
 have hA1 : PS 29 [aw0.s, .c (.int .i64 (awC.zones - 1)), .c (.str (encR awA))] (Dev.out3 aw1 (Qbj aw0 (awC.zones - 1) (encR awA)) (QT aw0 (awC.zones - 1) (encR awA))) := Qcb aw0 k0.tiny.small (awC.zones - 1) (encR awA)
 have hA2 : PS 29 [aw1.s, .c (.int .i64 (awC.zones - 1)), .c (.str (encR awB))] (Dev.out3 aw2 (Qbj aw1 (awC.zones - 1) (encR awB)) (QT aw1 (awC.zones - 1) (encR awB))) := Qcb aw1 k1.tiny.small (awC.zones - 1) (encR awB)
 have hS1 := Qdp awA
 have hS2 := Qdp awB
 have w1 : IntKind.i64.wrap (awC.zones - 1) = awC.zones - 1 := Qa _ (by omega) (by omega)
 generalize Qbj aw0 (awC.zones - 1) (encR awA) = i1 at *
 generalize QT aw0 (awC.zones - 1) (encR awA) = e1 at *
 generalize Qbj aw1 (awC.zones - 1) (encR awB) = i2 at *
 generalize QT aw1 (awC.zones - 1) (encR awB) = e2 at *
 generalize encR awA = s1 at *
 generalize encR awB = s2 at *
 generalize hX : Qbu awC aw2 = X at *
 generalize awC = c at *
 generalize aw0 = x0 at *
 generalize aw1 = x1 at *
 generalize aw2 = x2 at *
 refine CallN.pureA QgG hnew ?_
 ((conv=>whnf);(repeat' ((first|refine Nd ?_|refine Hv fun _h=>?_);conv=>whnf)))
 refine CallN.pureA Qi2 (Qiy 2 ) ?_
 ((conv=>whnf);(repeat' ((first|refine Nd ?_|refine Hv fun _h=>?_);conv=>whnf)))
 refine Dr.mkE hΓ hMix [] [(9, 11), (10, 11)] (by kernel_rfl) ?_; conv=>whnf
 ((conv=>whnf);(repeat' ((first|refine Nd ?_|refine Hv fun _h=>?_);conv=>whnf)))
 refine CallP.auto Qds hS1 ?_
 ((conv=>whnf);(repeat' ((first|refine Nd ?_|refine Hv fun _h=>?_);conv=>whnf)))
 rw [w1]
 refine CallP.auto Qb5 hA1 ?_
 ((conv=>whnf);(repeat' ((first|refine Nd ?_|refine Hv fun _h=>?_);conv=>whnf)))
 refine Dr.mkE hΓ hMix [] [(9, 11), (10, 11)] (by kernel_rfl) ?_; conv=>whnf
 ((conv=>whnf);(repeat' ((first|refine Nd ?_|refine Hv fun _h=>?_);conv=>whnf)))
 refine CallP.auto Qds hS2 ?_
 ((conv=>whnf);(repeat' ((first|refine Nd ?_|refine Hv fun _h=>?_);conv=>whnf)))
 rw [w1]
 refine CallP.auto Qb5 hA2 ?_
 ((conv=>whnf);(repeat' ((first|refine Nd ?_|refine Hv fun _h=>?_);conv=>whnf)))
 refine CallN.pureA QpP hB ?_
 ((conv=>whnf);(repeat' ((first|refine Nd ?_|refine Hv fun _h=>?_);conv=>whnf)))
 refine CallN.pureA Qkc (Qkt X.map m2 m1 ) ?_
 ((conv=>whnf);(repeat' ((first|refine Nd ?_|refine Hv fun _h=>?_);conv=>whnf)))
 rw [show (Int.toNat 0) = 0 from rfl, v1, v2, v3, v4, v5]
 exact RM.i0
theorem QiI : HB 8 := hB Tryz.func8
theorem Qtx {l : List Ent} {e : Ent} (h : ∀ x ∈ l, x.block < e.block) : Qp l e.block = l.length := by
 refine Qkv (Nat.le_refl _) (fun i hi => ?_) (.inl rfl)
 refine h _ ?_
 rw [show l.getD i default = l[i] by simp [List.getD, hi]]
 exact List.getElem_mem hi
theorem QmL {l : List Ent} {e : Ent} (hs : QL l = true) (he : QbO e = true) (h : ∀ x ∈ l, x.block < e.block) : QD l e = (l ++ [e], (QK l e.block).1, true) := by
 have hp := Qtx h
 have hn : hasM l e.block = false := by unfold hasM; rw [hp]; exact decide_eq_false fun q => absurd q.1 (Nat.lt_irrefl _)
 have hf : (QK l e.block).2 = false := by unfold QK; rw [if_neg (by rw [hn]; simp)]
 unfold QD
 rw [if_pos hs, if_pos he, if_neg (by rw [hf]; simp)]
 unfold putE
 rw [hp, hn]
 simp
theorem QkW {l : List Ent} {e : Ent} (hs : QL l = true) (he : QbO e = true) (h : ∀ x ∈ l, x.block < e.block) : QL (l ++ [e]) = true := by
 rw [shardOk_iff] at hs ⊢
 intro i hi
 rw [List.length_append, List.length_singleton] at hi
 have g1 : ∀ j, j < l.length → (l ++ [e]).getD j default = l.getD j default := fun j hj => by
  simp only [List.getD]; rw [List.getElem?_append_left hj]
 by_cases c : i < l.length
 ·rw [g1 i c]
  refine ⟨(hs i c).1, fun h0 => ?_⟩
  rw [g1 (i - 1) (by omega)]
  exact (hs i c).2 h0
 ·have hi' : i = l.length := by omega
  subst hi'
  have g2 : (l ++ [e]).getD l.length default = e := by simp [List.getD]
  rw [g2]
  refine ⟨he, fun h0 => ?_⟩
  rw [g1 _ (by omega)]
  refine h _ ?_
  rw [show l.getD (l.length - 1) default = l[l.length - 1] by simp [List.getD, show l.length - 1 < l.length by omega]]
  exact List.getElem_mem _
theorem QpR {m : List (List Ent)} {i : Nat} {e : Ent} (hi : i < m.length) : (m.set i (m.getD i default ++ [e])).flatten.Perm (m.flatten ++ [e]) := by
 induction m generalizing i with
 | nil => cases hi
 | cons l m ih =>
  match i with
  | 0 =>
   show ((l ++ [e]) :: m).flatten.Perm _
   rw [List.flatten_cons, List.flatten_cons, List.append_assoc, List.append_assoc]
   exact List.Perm.append_left l List.perm_append_comm
  | i + 1 =>
   show (l :: m.set i (m.getD i default ++ [e])).flatten.Perm _
   rw [List.flatten_cons, List.flatten_cons, List.append_assoc]
   exact List.Perm.append_left l (ih (by simpa using hi))
theorem mapOk_iff' {m : List (List Ent)} : Q3 m = true ↔ (1 ≤ m.length ∧ m.length ≤ 8) ∧ ∀ i, i < m.length → QL (m.getD i default) = true ∧ Qa7 (m.getD i default) m.length i = true := by
 unfold Q3
 rw [Bool.and_eq_true, decide_eq_true_eq, decide_eq_true_eq]
theorem Qqu {n : Int} (h1 : 1 ≤ n) (h8 : n ≤ 8) : Q3 (QeI n) = true := by
 rw [mapOk_iff']
 have hl : (QeI n).length = n.toNat := List.length_replicate
 refine ⟨by omega, fun i hi => ?_⟩
 rw [show (QeI n).getD i default = [] by unfold QeI at hi ⊢; rw [List.length_replicate] at hi; simp [List.getD, hi]]
 exact ⟨by decide, by unfold Qa7; exact decide_eq_true fun k hk => absurd hk (Nat.not_lt_zero _)⟩
theorem QpY {n : Int} (h1 : 1 ≤ n) (h8 : n ≤ 8) : ∀ (w : List Ent), (∀ e ∈ w, QbO e = true) → w.Pairwise (fun a b => a.block < b.block) → Q3 (QbR (QeI n) w) = true ∧ (QbR (QeI n) w).flatten.Perm w := by
 intro w
 induction hw : w.length generalizing w with
 | zero =>
  intro _ _
  obtain rfl : w = [] := List.eq_nil_of_length_eq_zero hw
  refine ⟨Qqu h1 h8, ?_⟩
  show (QeI n).flatten.Perm []
  unfold QeI
  simp
 | succ k ih =>
  intro he hp
  obtain ⟨v, e, rfl⟩ : ∃ v e, w = v ++ [e] := ⟨w.dropLast, w.getLast (fun q => by rw [q] at hw; cases hw), (List.dropLast_concat_getLast _).symm⟩
  have hv : v.length = k := by simpa using hw
  rw [List.pairwise_append] at hp
  obtain ⟨p1, -, p2⟩ := hp
  obtain ⟨i1, i2⟩ := ih v hv (fun x hx => he x (List.mem_append_left _ hx)) p1
  have hle := Qjz (QeI n) v
  have heo := he e (List.mem_append_right _ (List.mem_singleton.2 rfl))
  have hlt : ∀ x ∈ v, x.block < e.block := fun x hx => p2 x hx e (List.mem_singleton.2 rfl)
  rw [QpI]
  generalize QbR (QeI n) v = m at *
  have hb0 : 0 ≤ e.block := by unfold QbO at heo; rw [decide_eq_true_eq] at heo; omega
  have hst := QbT i1 hb0
  have hso := Qq2 i1 hst
  have hall : ∀ x ∈ m.getD (Qj m e.block) default, x.block < e.block := fun x hx => by
   refine hlt x (i2.mem_iff.1 (List.mem_flatten.2 ⟨_, ?_, hx⟩))
   rw [show m.getD (Qj m e.block) default = m[Qj m e.block] by simp [List.getD, hst]]
   exact List.getElem_mem _
  have hi := QmL hso.1 heo hall
  have e1 : (Qaq m e).1 = m.set (Qj m e.block) (m.getD (Qj m e.block) default ++ [e]) := by
   unfold Qaq
   rw [if_pos ⟨i1, hb0⟩, if_pos (by rw [hi]), hi]
  rw [e1]
  refine ⟨?_, (QpR hst).trans (List.Perm.append_right _ i2)⟩
  rw [mapOk_iff'] at i1 ⊢
  rw [List.length_set]
  refine ⟨i1.1, fun i hi => ?_⟩
  rw [QbS hst]
  split
  ·rename_i q
   subst q
   refine ⟨QkW hso.1 heo hall, ?_⟩
   have hso2 := hso.2
   unfold Qa7 at hso2 ⊢
   rw [decide_eq_true_eq] at hso2 ⊢
   intro k hk
   by_cases c : k < (m.getD (Qj m e.block) default).length
   ·rw [show (m.getD (Qj m e.block) default ++ [e]).getD k default = (m.getD (Qj m e.block) default).getD k default by simp only [List.getD]; rw [List.getElem?_append_left (by simpa using c)]]
    exact hso2 k c
   ·have hk' : k = (m.getD (Qj m e.block) default).length := by rw [List.length_append, List.length_singleton] at hk; omega
    rw [show (m.getD (Qj m e.block) default ++ [e]).getD k default = e by rw [hk']; simp [List.getD]]
    exact (Qhw (mapOk_iff'.2 i1) hb0).symm
  ·exact i1.2 i hi
theorem QqX {n : Int} (h1 : 1 ≤ n) (h8 : n ≤ 8) {w : List Ent} (he : ∀ e ∈ w, QbO e = true) (hp : w.Pairwise (fun a b => a.block < b.block)) : allS (QbR (QeI n) w) = w := by
 obtain ⟨i1, i2⟩ := QpY h1 h8 w he hp
 unfold allS
 rw [if_pos i1]
 exact (QnK i1 i2.symm (hp.imp fun q => by omega)).symm
theorem QkE (c : Conf) (d : Dev) (b : Bas) : ∀ k : Nat, (∀ e ∈ QbQ b (Qbd c d) k, QbO e = true ∧ e.block < k) ∧ (QbQ b (Qbd c d) k).Pairwise (fun a b => a.block < b.block)
 | 0 => ⟨fun e he => (by cases he), List.Pairwise.nil⟩
 | k + 1 => by
  obtain ⟨h1, h2⟩ := QkE c d b k
  have hw : ∀ e ∈ Qg5 b (Qbd c d) k, QbO e = true ∧ e.block = k := fun e he => by
   unfold Qg5 at he
   split at he
   ·cases he
   ·rename_i f hf
    split at he
    ·rw [List.mem_singleton] at he
     subst he
     obtain ⟨m1, m2, -⟩ := Qm3 hf
     obtain ⟨a1, a2, a3, a4, a5, -⟩ := QhG m1
     obtain ⟨r1, r2, r3, r4, r5, r6⟩ := QqO m1
     exact ⟨by unfold QbO; exact decide_eq_true ⟨r1, a3, r4, r5, r6, by show (0 : Int) ≤ (k : Nat); omega, a4, a5⟩, rfl⟩
    ·cases he
  have hlen : (Qg5 b (Qbd c d) k).length ≤ 1 := by
   unfold Qg5
   split
   ·exact Nat.zero_le _
   ·split
    ·exact Nat.le_refl _
    ·exact Nat.zero_le _
  rw [QbQ]
  refine ⟨fun e he => ?_, ?_⟩
  ·rcases List.mem_append.1 he with q | q
   ·exact ⟨(h1 e q).1, by have := (h1 e q).2; omega⟩
   ·exact ⟨(hw e q).1, by have := (hw e q).2; omega⟩
  ·rw [List.pairwise_append]
   refine ⟨h2, ?_, fun x hx y hy => by have := (h1 x hx).2; have := (hw y hy).2; omega⟩
   generalize Qg5 b (Qbd c d) k = t at *
   rcases t with _ | ⟨a, _ | ⟨a', t⟩⟩
   ·exact List.Pairwise.nil
   ·exact List.pairwise_singleton _ _
   ·simp at hlen
theorem Qhi {c : Conf} {d : Dev} (h : Qbb c d = 0) : allS (QdI c d).map = winL c d := by
 have hc : Qq c = 0 := by
  unfold Qbb at h
  split at h
  ·rename_i q; exact q
  ·rename_i q; exact absurd h q
 have hcf := confR_iff.1 (QaR hc).1
 rw [show QdI c d = Qbu c d from if_pos h]
 obtain ⟨w1, w2⟩ := QkE c d (Qbt c d) c.blocks.toNat
 exact QqX (by omega) (by omega) (fun e he => (w1 e he).1) w2
end Go.Proofs
end

section
open Go Go.Am
namespace Go.Proofs
set_option maxRecDepth 20000
section
variable {c : Conf} {d : Dev} {n : Int}
def shC (c : Conf) (n : Int) : Conf := { c with shards := n }
theorem QfR (hc : Qq c = 0) (h1 : 1 ≤ n) (h8 : n ≤ 8) : Qq (shC c n) = 0 := by
 have hr := QaR hc
 have hcf := confR_iff.1 hr.1
 have ho : Qbn (shC c n) = true := confR_iff.2 (by
  show 3 ≤ c.size ∧ c.size ≤ 64 ∧ 1 ≤ c.zones ∧ c.zones ≤ 32 ∧ 1 ≤ c.blocks ∧ c.blocks ≤ 128 ∧ 1 ≤ c.queues ∧ c.queues ≤ 4 ∧ 1 ≤ c.depth ∧ c.depth ≤ 8 ∧ 1 ≤ n ∧ n ≤ 8
  omega)
 unfold Qq
 rw [if_pos ho]
 exact if_neg (show ¬ (Qal c < 6 ∨ capN c < 1) by omega)
theorem QrH (hc : Qq c = 0) (h1 : 1 ≤ n) (h8 : n ≤ 8) (z : Int) : Qa4 (shC c n) z = Qa4 c z := by
 unfold Qa4
 first
 | rfl
 | (rw [hc, QfR hc h1 h8]; rfl)
theorem QkS (hc : Qq c = 0) (h1 : 1 ≤ n) (h8 : n ≤ 8) : ∀ k, Qat (shC c n) d k = Qat c d k
 | 0 => rfl
 | k + 1 => by rw [Qat, Qat, QrH hc h1 h8, QkS hc h1 h8 k]
theorem Qkd (hc : Qq c = 0) (h1 : 1 ≤ n) (h8 : n ≤ 8) : Qbd (shC c n) d = Qbd c d := QkS hc h1 h8 _
theorem QdU (hc : Qq c = 0) (h1 : 1 ≤ n) (h8 : n ≤ 8) (s : Int) : Qu (shC c n) d s = Qu c d s := by
 unfold Qu
 rw [hc, QfR hc h1 h8]
 rfl
theorem QkZ (hc : Qq c = 0) (h1 : 1 ≤ n) (h8 : n ≤ 8) (s : Int) : Qv (shC c n) d s = Qv c d s := by
 unfold Qv
 rw [QdU hc h1 h8]
 rfl
theorem QdT (hc : Qq c = 0) (h1 : 1 ≤ n) (h8 : n ≤ 8) : Qs (shC c n) d = Qs c d := by
 unfold Qs
 rw [QdU hc h1 h8, QdU hc h1 h8, QkZ hc h1 h8, QkZ hc h1 h8]
theorem QkT (hc : Qq c = 0) (h1 : 1 ≤ n) (h8 : n ≤ 8) : Qbt (shC c n) d = Qbt c d := by
 unfold Qbt
 rw [QdT hc h1 h8]
theorem QmQ (hc : Qq c = 0) (h1 : 1 ≤ n) (h8 : n ≤ 8) : Qbb (shC c n) d = Qbb c d := by
 unfold Qbb badF QiZ
 rw [hc, QfR hc h1 h8, Qkd hc h1 h8, QkT hc h1 h8]
 rfl
theorem Qtn (hc : Qq c = 0) (h1 : 1 ≤ n) (h8 : n ≤ 8) : winL (shC c n) d = winL c d := by
 unfold winL
 rw [QkT hc h1 h8, Qkd hc h1 h8]
 rfl
end
theorem Qrn {c : Conf} {d : Dev} {n : Int} (hc : Qq c = 0) (h1 : 1 ≤ n) (h8 : n ≤ 8) :
  Qbb c d = Qbb (shC c n) d ∧ allS (QdI c d).map = allS (QdI (shC c n) d).map ∧ (QdI c d).version = (QdI (shC c n) d).version ∧ (QdI c d).seq = (QdI (shC c n) d).seq ∧ (QdI c d).slot = (QdI (shC c n) d).slot ∧ (Qbb c d = 0 → ((QdI (shC c n) d).map.length : Int) = n) := by
 have hE := QmQ (d := d) hc h1 h8
 refine ⟨hE.symm, ?_⟩
 by_cases h : Qbb c d = 0
 ·have h' : Qbb (shC c n) d = 0 := hE.trans h
  refine ⟨by rw [Qhi h, Qhi h', Qtn hc h1 h8], ?_⟩
  rw [show QdI c d = Qbu c d from if_pos h, show QdI (shC c n) d = Qbu (shC c n) d from if_pos h']
  refine ⟨?_, ?_, ?_, fun _ => ?_⟩
  ·show max (Qed (Qbd c d)) ((Qbt c d).next - 1) = max (Qed (Qbd (shC c n) d)) ((Qbt (shC c n) d).next - 1)
   rw [Qkd hc h1 h8, QkT hc h1 h8]
  ·show (Qs c d).1.seq = (Qs (shC c n) d).1.seq
   rw [QdT hc h1 h8]
  ·show (Qs c d).2 = (Qs (shC c n) d).2
   rw [QdT hc h1 h8]
  ·have := (Qt3 (shC c n) d).1
   have e : (shC c n).shards = n := rfl
   omega
 ·have h' : ¬ Qbb (shC c n) d = 0 := fun q => h (hE.symm.trans q)
  rw [show QdI c d = default from if_neg h, show QdI (shC c n) d = default from if_neg h']
  exact ⟨rfl, rfl, rfl, rfl, fun q => absurd q h⟩
theorem Ql2 {m : List (List Ent)} (h1 : m.length ≤ 1000000) (h2 : ∀ i, (m.getD i default).length ≤ 1000000) : (allS m).length ≤ 1000000000 := by
 unfold allS
 split
 ·rename_i h
  have := Qrx (m := m) (i := m.length) (k := 0) (QeT h).2 h2 (Nat.le_refl _)
  rw [Qsg] at this
  omega
 ·exact Nat.zero_le _
set_option maxHeartbeats 8000000 in
theorem QkV (l : List Int) (sh : Int) (h0 : 0 ≤ sh) (h255 : sh ≤ 255) : PS 5 [.c (QbH l), .c (.int .u8 sh)] (.c (.bool true)) := by
 refine PSpec.rm ?_
 refine CSpec.of_aw hΓ Tryz.func5 108 0 [.tmp 4] Tryz.ntmps5 ?_
 refine AWn.seq hΓ ?_
 ((conv=>whnf);(repeat' ((first|refine Nd ?_|refine Hv fun _h=>?_);conv=>whnf)))
 refine AWn.seq hΓ ?_
 ((conv=>whnf);(repeat' ((first|refine Nd ?_|refine Hv fun _h=>?_);conv=>whnf)))
 refine CallN.pureA QoW (Qph l ) ?_
 ((conv=>whnf);(repeat' ((first|refine Nd ?_|refine Hv fun _h=>?_);conv=>whnf)))
 by_cases h1 : l.length ≤ 300
 ·refine Br.no (by rw [decide_eq_true h1]; rfl) ?_
  ((conv=>whnf);(repeat' ((first|refine Nd ?_|refine Hv fun _h=>?_);conv=>whnf)))
  refine AWn.seq hΓ ?_
  ((conv=>whnf);(repeat' ((first|refine Nd ?_|refine Hv fun _h=>?_);conv=>whnf)))
  refine CallN.exQ [] Qsj (Qrm l (by omega)) (fun p hp => ?_) (by decide) wb0 rfl wb0
  obtain ⟨c, d⟩ := p
  have hG : Good c d := hp
  clear hp
  have hd := hG.ok.tiny
  ((conv=>whnf);(repeat' ((first|refine Nd ?_|refine Hv fun _h=>?_);conv=>whnf)))
  refine AWn.seq hΓ ?_
  ((conv=>whnf);(repeat' ((first|refine Nd ?_|refine Hv fun _h=>?_);conv=>whnf)))
  refine AWn.seq hΓ ?_
  ((conv=>whnf);(repeat' ((first|refine Nd ?_|refine Hv fun _h=>?_);conv=>whnf)))
  have hn : IntKind.i64.wrap (1 + (IntKind.i64.wrap sh).tmod 8) = 1 + sh % 8 := by
   rw [Qa sh (by omega) (by omega), Int.tmod_eq_emod_of_nonneg h0, Qa _ (by omega) (by omega)]
  generalize hN : 1 + sh % 8 = n at *
  have n1 : 1 ≤ n := by omega
  have n8 : n ≤ 8 := by omega
  obtain ⟨q1, q2, q3, q4, q5, q6⟩ := Qrn (d := d) hG.conf n1 n8
  refine AWn.seq hΓ ?_
  ((conv=>whnf);(repeat' ((first|refine Nd ?_|refine Hv fun _h=>?_);conv=>whnf)))
  rw [hn]
  refine CallN.pureA QpP (Qpw c d hd ) ?_
  ((conv=>whnf);(repeat' ((first|refine Nd ?_|refine Hv fun _h=>?_);conv=>whnf)))
  refine AWn.seq hΓ ?_
  ((conv=>whnf);(repeat' ((first|refine Nd ?_|refine Hv fun _h=>?_);conv=>whnf)))
  refine CallN.pureA QpP (Qpw (shC c n) d hd ) ?_
  ((conv=>whnf);(repeat' ((first|refine Nd ?_|refine Hv fun _h=>?_);conv=>whnf)))
  obtain ⟨m1, m2⟩ := Qs3 c d
  obtain ⟨o1, o2⟩ := Qs3 (shC c n) d
  generalize QdI c d = X at *
  generalize QdI (shC c n) d = Y at *
  generalize Qbb c d = e at *
  generalize Qbb (shC c n) d = e' at *
  subst q1
  refine AWn.seq hΓ ?_
  conv=>whnf
  refine Dr.mk hΓ hMix (by kernel_rfl) ?_; conv=>whnf
  ((conv=>whnf);(repeat' ((first|refine Nd ?_|refine Hv fun _h=>?_);conv=>whnf)))
  refine CallP.auto Qkc (Qkt X.map m2 m1 ) ?_
  ((conv=>whnf);(repeat' ((first|refine Nd ?_|refine Hv fun _h=>?_);conv=>whnf)))
  refine CallP.auto Qkc (Qkt Y.map o2 o1 ) ?_
  ((conv=>whnf);(repeat' ((first|refine Nd ?_|refine Hv fun _h=>?_);conv=>whnf)))
  rw [← q2]
  have hAl : (allS X.map).length ≤ 1000000000 := Ql2 m1 m2
  generalize allS X.map = A at *
  refine AWn.seq hΓ ?_
  ((conv=>whnf);(repeat' ((first|refine Nd ?_|refine Hv fun _h=>?_);conv=>whnf)))
  refine Br.no (by rw [q3, q4, q5]; simp) ?_
  ((conv=>whnf);(repeat' ((first|refine Nd ?_|refine Hv fun _h=>?_);conv=>whnf)))
  refine AWn.seq hΓ ?_
  ((conv=>whnf);(repeat' ((first|refine Nd ?_|refine Hv fun _h=>?_);conv=>whnf)))
  refine Lp.mkK hΓ (ι := Nat) [4, 7, 9, 10, 12, 13] (fun k => [(14, .c (.int .i64 k))]) (fun k => [.vr c.cells, .vr d.cells, .vr (shC c n).cells, .vr X.cells, .vr Y.cells]) (fun k => k ≤ A.length) (fun k => A.length - k) 0 (Nat.zero_le _) ?_ ?_
  ·exact Mv.k0
  ·intro k hk
   ((conv=>whnf);(repeat' ((first|refine Nd ?_|refine Hv fun _h=>?_);conv=>whnf)))
   refine Br.of (fun h2=>?_) (fun h2=>?_)<;>(try simp only [Int.toNat_natCast] at h2)<;>(conv=>whnf)
   ·((conv=>whnf);(repeat' ((first|refine Nd ?_|refine Hv fun _h=>?_);conv=>whnf)))
    have w0 := Qa (↑k + 1) (by omega) (by omega)
    refine Dr.mk hΓ hMix (by kernel_rfl) ?_; conv=>whnf
    ((conv=>whnf);(repeat' ((first|refine Nd ?_|refine Hv fun _h=>?_);conv=>whnf)))
    refine Br.no (by simp) ?_
    ((conv=>whnf);(repeat' ((first|refine Nd ?_|refine Hv fun _h=>?_);conv=>whnf)))
    refine ⟨k + 1, by omega, by omega, ?_⟩
    exact Mv.k0
   ·((conv=>whnf);(repeat' ((first|refine Nd ?_|refine Hv fun _h=>?_);conv=>whnf)))
    refine AWn.ofVc hΓ ?_
    ((conv=>whnf);(repeat' ((first|refine Nd ?_|refine Hv fun _h=>?_);conv=>whnf)))
    have hcond : (bif e != 0 then true else (Y.map.length : Int) == (shC c n).shards) = true := by
     by_cases z : e = 0
     ·subst z
      show (((Y.map.length : Int) == n)) = true
      rw [q6 rfl]
      simp
     ·rw [bne_iff_ne.2 z]; rfl
    rw [hcond]
    refine CallG.auto QiI (fun _ => Qiw ) ?_
    ((conv=>whnf);(repeat' ((first|refine Nd ?_|refine Hv fun _h=>?_);conv=>whnf)))
    exact RM.i0
 ·refine Br.yes (by rw [decide_eq_false h1]; rfl) ?_
  ((conv=>whnf);(repeat' ((first|refine Nd ?_|refine Hv fun _h=>?_);conv=>whnf)))
  refine CallN.pureA QiI (Qiw ) ?_
  ((conv=>whnf);(repeat' ((first|refine Nd ?_|refine Hv fun _h=>?_);conv=>whnf)))
  exact RM.i0
theorem QjW {x : Int} (h : (Lit.int .u8 x).wf = true) : 0 ≤ x ∧ x ≤ 255 := by
 simp only [Lit.wf, Bool.and_eq_true, decide_eq_true_eq] at h
 have h1 : IntKind.u8.min = 0 := rfl
 have h2 : IntKind.u8.max = 255 := rfl
 omega
end Go.Proofs
end
