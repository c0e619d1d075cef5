/- Contracts, lemmas; no condition. -/
import Derived.Test.YtkelkepdcfogaaaGreatP11
import Derived.Test.YtkelkepdcfogaaaGreatP30
set_option linter.all false
section
open Go Go.Am
namespace Go.Proofs
set_option maxRecDepth 20000
structure MInv (c : Conf) (x : Dev) (m : List (List Ent)) (k : Nat) : Prop where
 ok : x.ok
 n : (x.zones.length : Int) = c.zones
 size : x.size = c.size
 sec : ∀ z : Nat, 2 * Qg c ≤ z → ∀ s ∈ (x.zones.getD z default).sectors, Qf1 c.blocks s
 ml : m.length = 1
 ent : AllE (fun e => e.block < c.blocks ∧ 2 * Qg c ≤ e.zone) m
 len : ∀ i, (m.getD i default).length ≤ k
theorem Qtz {m : List (List Ent)} {n : Nat} (h1 : m.length = 1) (h2 : ∀ i, (m.getD i default).length ≤ n) : (allS m).length ≤ n := by
 unfold allS
 split
 ·unfold allM
  have key : ∀ (r acc : List Ent), (r.foldl insE acc).length = acc.length + r.length := by
   intro r
   induction r with
   | nil => intro acc; rfl
   | cons x r ih => intro acc; rw [List.foldl_cons, ih, QhX, List.length_cons]; omega
  rw [key]
  match m, h1 with
  | [l], _ =>
   have := h2 0
   simp at this ⊢
   exact this
 ·exact Nat.zero_le _
theorem QsR (m : List (List Ent)) (b v fz fo tz t2 move : Int) : (relM m b v fz fo tz t2 move).1.length = m.length := by
 unfold relM
 split
 ·split
  ·simp
  ·rfl
 ·rfl
theorem Qun {m : List (List Ent)} {n : Nat} (h : ∀ i, (m.getD i default).length ≤ n) (b v fz fo tz t2 move : Int) (i : Nat) : ((relM m b v fz fo tz t2 move).1.getD i default).length ≤ n := by
 have hi := h i
 unfold relM
 split
 ·rename_i q
  split
  ·rw [QbS (QbT q.1 q.2)]
   split
   ·have hst := h (Qj m b)
    unfold relE
    split
    ·split
     ·show (List.set _ _ _).length ≤ n
      rw [List.length_set]; exact hst
     ·exact hst
    ·exact Nat.zero_le _
   ·exact hi
  ·exact hi
 ·exact hi
theorem MInv.mono {c : Conf} {x : Dev} {m : List (List Ent)} {k k' : Nat} (h : MInv c x m k) (hk : k ≤ k') : MInv c x m k' :=
 ⟨h.ok, h.n, h.size, h.sec, h.ml, h.ent, fun i => Nat.le_trans (h.len i) hk⟩
theorem MInv.append {c : Conf} {x : Dev} {m : List (List Ent)} {k : Nat} (h : MInv c x m k) (z : Int) {s : ByteArray} (hs : Qf1 c.blocks s) : MInv c (QN x z s) m k := by
 refine ⟨QcK h.ok z s, by rw [QfI]; exact h.n, (Qhn x z s).trans h.size, fun i hi t ht => ?_, h.ml, h.ent, h.len⟩
 rw [Qid] at ht
 split at ht
 ·rcases List.mem_append.1 ht with q | q
  ·exact h.sec i hi t q
  ·rw [List.mem_singleton.1 q]; exact hs
 ·exact h.sec i hi t ht
theorem MInv.save {c : Conf} {x : Dev} {m : List (List Ent)} {k : Nat} (h : MInv c x m k) (hc : Qq c = 0) (next seq : Int) {slot : Int} (h0 : 0 ≤ slot) (h1 : slot ≤ 1) : MInv c (QiS c x m next seq slot) m k := by
 have hk := Qrw (next := next) (seq := seq) hc h.ok (fun e he => (h.ent.all e he).1) h0 h1
 exact ⟨hk.ok, by rw [hk.n]; exact h.n, hk.size.trans h.size, fun z hz s hs => h.sec z hz s (by rw [← hk.sec z hz]; exact hs), h.ml, h.ent, h.len⟩
theorem MInv.inst {c : Conf} {x : Dev} {m : List (List Ent)} {k : Nat} (h : MInv c x m k) {e : Ent} (he : e.block < c.blocks ∧ 2 * Qg c ≤ e.zone) : MInv c x (Qaq m e).1 (k + 1) :=
 ⟨h.ok, h.n, h.size, h.sec, by rw [QjM]; exact h.ml, h.ent.inst he, Ql1 h.len⟩
theorem MInv.rel {c : Conf} {x : Dev} {m : List (List Ent)} {k : Nat} (h : MInv c x m k) {b v fz fo tz t2 move : Int} (hz : 2 * Qg c ≤ tz) : MInv c x (relM m b v fz fo tz t2 move).1 (k + 1) :=
 ⟨h.ok, h.n, h.size, h.sec, by rw [QsR]; exact h.ml, h.ent.rel fun e he => ⟨he.1, hz⟩, fun i => Nat.le_succ_of_le (Qun h.len _ _ _ _ _ _ _ i)⟩
theorem MInv.copy {c : Conf} {x : Dev} {m : List (List Ent)} {k : Nat} (h : MInv c x m k) (hb : 0 < c.blocks) {z o : Int} (hz : 2 * Qg c ≤ z) (hs : 0 ≤ Qg c) : (QfC (decR (Qcz x z o))).1.block < c.blocks := by
 unfold QfC
 split
 ·show (decR (Qcz x z o)).block < c.blocks
  show Qf1 c.blocks (Qcz x z o)
  unfold Qcz
  split
  ·rename_i q
   have hin : 0 ≤ o ∧ o < (x.zones.getD z.toNat default).sectors.length := by
    unfold QfD at q
    split at q
    ·split at q
     ·rename_i w; simpa using w
     ·cases q
    ·rename_i w; exact absurd q w
   refine h.sec z.toNat (by omega) _ ?_
   have key : ∀ (l : List ByteArray) (i : Nat), i < l.length → l.getD i ByteArray.empty ∈ l := fun l i hi => by
    rw [show l.getD i ByteArray.empty = l[i] by simp [List.getD, hi]]
    exact List.getElem_mem hi
   exact key _ _ (by omega)
  ·exact Qoe hb
 ·exact hb
structure Good (c : Conf) (x : Dev) : Prop where
 conf : Qq c = 0
 ok : x.ok
 n : (x.zones.length : Int) = c.zones
 size : x.size = c.size
theorem Qj0 {c : Conf} (hc : Qq c = 0) : newE c.zones c.size 3 3 = 0 ∧ MInv c (newX c.zones c.size 3 3) [[]] 0 := by
 have hr := QaR hc
 have hcf := confR_iff.1 hr.1
 have hsr := Qao hr.1
 have hd := hr.2.1
 unfold Qal at hd
 have hok := QuP (zones := c.zones) (size := c.size) (op := 3) (act := 3) (by omega) (by omega) (by omega) (by omega) (by decide) (by decide) (by omega)
 refine ⟨?_, hok, ?_, rfl, fun z _ s hs => ?_, rfl, fun l hl e he => ?_, fun i => ?_⟩
 ·unfold newE
  rw [decide_eq_true (by omega), if_pos rfl]
  exact check_ok.2 hok
 ·show ((List.replicate c.zones.toNat zone0).length : Int) = c.zones
  rw [List.length_replicate]; omega
 ·have : ((newX c.zones c.size 3 3).zones.getD z default).sectors = [] := by
   show ((List.replicate c.zones.toNat zone0).getD z default).sectors = []
   by_cases q : z < c.zones.toNat
   ·rw [show (List.replicate c.zones.toNat zone0).getD z default = zone0 by simp [List.getD, q]]; rfl
   ·rw [show (List.replicate c.zones.toNat zone0).getD z default = default by simp only [List.getD]; rw [List.getElem?_eq_none (by rw [List.length_replicate]; omega)]; rfl]; rfl
  rw [this] at hs; cases hs
 ·rw [List.mem_singleton.1 hl] at he; cases he
 ·match i with
  | 0 => exact Nat.le_refl _
  | i + 1 => exact Nat.le_refl _
theorem QpE (d : DiceM) {b v : Int} (h1 : 1 ≤ b) (h2 : b ≤ 1000) : (recR d b v).block < b := by
 have := d.next_range h1 (by omega)
 unfold recR
 split <;> exact this.2
set_option maxHeartbeats 8000000 in
theorem Qrm (l : List Int) (hl : l.length ≤ 10000000) : CS 9 [.c (QbH l)] [] fun s H => ∃ p : Conf × Dev, Good p.1 p.2 ∧ s = .t [.inr p.1.cells, .inr p.2.cells] ∧ H = [] := by
 have ok0 : DiceM.ok ⟨l, 0⟩ := ⟨Nat.zero_le _, hl⟩
 have hc := QlH ⟨l, 0⟩
 have hcr := (QaR hc)
 have hcf := confR_iff.1 hcr.1
 have hsr := Qao hcr.1
 obtain ⟨n1, n2⟩ := Qj0 hc
 have okD : DiceM.ok (Qh9 ⟨l, 0⟩) := ok0.step.step.step.step.step.step
 refine CSpec.rm ?_
 refine CSpec.of_aw hΓ Tryz.func9 180 0 [.cell 2 26, .cell 3 29] Tryz.ntmps9 ?_
 refine AWn.seq hΓ ?_
 ((conv=>whnf);(repeat' ((first|refine Nd ?_|refine Hv fun _h=>?_);conv=>whnf)))
 refine AWn.seq hΓ ?_
 ((conv=>whnf);(repeat' ((first|refine Nd ?_|refine Hv fun _h=>?_);conv=>whnf)))
 refine CallN.autoQ [] QjR (QjF l hl) ?_; conv=>whnf
 ((conv=>whnf);(repeat' ((first|refine Nd ?_|refine Hv fun _h=>?_);conv=>whnf)))
 refine AWn.seq hΓ ?_
 ((conv=>whnf);(repeat' ((first|refine Nd ?_|refine Hv fun _h=>?_);conv=>whnf)))
 refine CallN.autoQ [2] Qig (QiX ⟨l, 0⟩ ok0) ?_; conv=>whnf
 ((conv=>whnf);(repeat' ((first|refine Nd ?_|refine Hv fun _h=>?_);conv=>whnf)))
 generalize hC : QbW ⟨l, 0⟩ = c at *
 generalize hD : Qh9 ⟨l, 0⟩ = D0 at *
 refine AWn.seq hΓ ?_
 ((conv=>whnf);(repeat' ((first|refine Nd ?_|refine Hv fun _h=>?_);conv=>whnf)))
 refine CallN.pureA Qpd (Qpt c hc ) ?_
 ((conv=>whnf);(repeat' ((first|refine Nd ?_|refine Hv fun _h=>?_);conv=>whnf)))
 refine AWn.seq hΓ ?_
 ((conv=>whnf);(repeat' ((first|refine Nd ?_|refine Hv fun _h=>?_);conv=>whnf)))
 have hnew := QgM c.zones c.size 3 3 (by omega)
 rw [n1, show newD c.zones c.size 3 3 = newX c.zones c.size 3 3 from if_pos n1] at hnew
 refine CallN.pureA QgG hnew ?_
 ((conv=>whnf);(repeat' ((first|refine Nd ?_|refine Hv fun _h=>?_);conv=>whnf)))
 refine AWn.seq hΓ ?_
 ((conv=>whnf);(repeat' ((first|refine Nd ?_|refine Hv fun _h=>?_);conv=>whnf)))
 refine CallN.pureA Qss (Qrb 1 (by decide) (by decide) ) ?_
 ((conv=>whnf);(repeat' ((first|refine Nd ?_|refine Hv fun _h=>?_);conv=>whnf)))
 rw [show List.replicate (Int.toNat 1) ([] : List Ent) = [[]] from rfl]
 generalize hM0 : ([[]] : List (List Ent)) = m0 at *
 refine AWn.seq hΓ ?_
 ((conv=>whnf);(repeat' ((first|refine Nd ?_|refine Hv fun _h=>?_);conv=>whnf)))
 generalize newX c.zones c.size 3 3 = x0 at *
 refine AWn.seq hΓ ?_
 ((conv=>whnf);(repeat' ((first|refine Nd ?_|refine Hv fun _h=>?_);conv=>whnf)))
 refine Lp.mkA (ι := DiceM × Dev × List (List Ent) × Int × Nat) [2, 3, 4, 5, 6, 8, 10] (fun p => [(12, .c (.int .i64 p.2.2.2.1)), (13, .c (.int .i64 p.2.2.2.2))]) (fun p => [.vr [.int .i64 0, .int .i64 0, .int .i64 0, .int .i64 0, .int .i64 0, .int .i64 0], .vr [.int .i64 0, .int .i64 0, .int .i64 0, .nils], .vr p.1.cells, .vr c.cells, .vr (Lay.cells c), .vr p.2.1.cells, .vr [Qm p.2.2.1]]) (fun p => p.1.ok ∧ MInv c p.2.1 p.2.2.1 p.2.2.2.2 ∧ p.2.2.2.2 ≤ 30) (fun p => 30 - p.2.2.2.2) (D0, x0, m0, 1, 0) ⟨okD, n2, Nat.zero_le _⟩ ?_ ?_
 ·show Mv _ _ _ ([(12, .c (.int .i64 1)), (13, .c (.int .i64 0))] ++ Qbp [2, 3, 4, 5, 6, 8, 10] _) [.vr [.int .i64 0, .int .i64 0, .int .i64 0, .int .i64 0, .int .i64 0, .int .i64 0], .vr [.int .i64 0, .int .i64 0, .int .i64 0, .nils], .vr D0.cells, .vr c.cells, .vr (Lay.cells c), .vr x0.cells, .vr [Qm m0]]
  exact Mv.k0
 ·rintro ⟨D, x, m, v, k⟩ ⟨hD, hI, hk⟩
  have hD : D.ok := hD
  have hI : MInv c x m k := hI
  have hk : k ≤ 30 := hk
  have hml := hI.ml
  have hms : ∀ i, (m.getD i default).length ≤ 1000000 := fun i => by have := hI.len i; omega
  refine AWn.seq hΓ ?_
  ((conv=>whnf);(repeat' ((first|refine Nd ?_|refine Hv fun _h=>?_);conv=>whnf)))
  refine CallG.keepQ [2] Qr9 (QrG D hD) wb0 wb0 ?_
  ((conv=>whnf);(repeat' ((first|refine Nd ?_|refine Hv fun _h=>?_);conv=>whnf)))
  by_cases h1 : k < 30 ∧ 0 < D.rest
  ·refine Br.yes (by rw [show (((D, x, m, v, k) : DiceM × Dev × List (List Ent) × Int × Nat).2.2.2.2 : Int) = (k : Int) from rfl, decide_eq_true (by omega : (k : Int) < 30), decide_eq_true (by omega : D.rest > 0)]; rfl) ?_
   ((conv=>whnf);(repeat' ((first|refine Nd ?_|refine Hv fun _h=>?_);conv=>whnf)))
   refine AWn.assoc ?_
   refine AWn.block ?_
   refine AWn.seq hΓ ?_
   ((conv=>whnf);(repeat' ((first|refine Nd ?_|refine Hv fun _h=>?_);conv=>whnf)))
   refine CallN.autoQ [2] Qok (Qnv D hD c.blocks v) ?_; conv=>whnf
   ((conv=>whnf);(repeat' ((first|refine Nd ?_|refine Hv fun _h=>?_);conv=>whnf)))
   have hD1 : (recD D).ok := hD.step.step.step
   generalize recD D = D1 at *
   have hr0 : (recR D c.blocks v).block < c.blocks := QpE D (by omega) (by omega)
   generalize recR D c.blocks v = r0 at *
   refine AWn.seq hΓ ?_
   ((conv=>whnf);(repeat' ((first|refine Nd ?_|refine Hv fun _h=>?_);conv=>whnf)))
   refine Dr.mkE hΓ hMix [34] [(0, 5), (1, 5)] (by kernel_rfl) ?_; conv=>whnf
   ((conv=>whnf);(repeat' ((first|refine Nd ?_|refine Hv fun _h=>?_);conv=>whnf)))
   refine CallE.autoQ [2] QaA (QaE D1 hD1 (Qal c)) ?_; conv=>whnf
   ((conv=>whnf);(repeat' ((first|refine Nd ?_|refine Hv fun _h=>?_);conv=>whnf)))
   have hz0 := D1.next_range (n := Qal c) (by omega) (by unfold Qal; omega)
   have hzw : IntKind.i64.wrap (2 * Qg c + D1.next (Qal c)) = 2 * Qg c + D1.next (Qal c) := Qa _ (by unfold Qal at *; omega) (by unfold Qal at *; omega)
   rw [hzw]
   have hzz : 2 * Qg c ≤ 2 * Qg c + D1.next (Qal c) := by omega
   generalize 2 * Qg c + D1.next (Qal c) = z at *
   have hD2 := hD1.step
   generalize D1.step = D2 at *
   refine AWn.join hΓ (ι := DiceM × Rec × Int) [2, 3, 4, 5, 6, 8, 10, 13, 14, 15] (fun p => [(12, .c (.int .i64 p.2.2))]) (fun p => [.vr [.int .i64 0, .int .i64 0, .int .i64 0, .int .i64 0, .int .i64 0, .int .i64 0], .vr [.int .i64 0, .int .i64 0, .int .i64 0, .nils], .vr p.1.cells, .vr c.cells, .vr (Lay.cells c), .vr x.cells, .vr [Qm m], .vr p.2.1.cells]) (fun p => p.1.ok ∧ p.2.1.block < c.blocks) ?_ ?_
   ·((conv=>whnf);(repeat' ((first|refine Nd ?_|refine Hv fun _h=>?_);conv=>whnf)))
    refine CallN.pureA QiY (QhZ m r0.block (by omega) hms ) ?_
    ((conv=>whnf);(repeat' ((first|refine Nd ?_|refine Hv fun _h=>?_);conv=>whnf)))
    refine CallG.autoQ [2] QaA (QaE D2 hD2 3) (fun hg => ?_) (fun hg => ?_) <;> (conv=>whnf)
    ·((conv=>whnf);(repeat' ((first|refine Nd ?_|refine Hv fun _h=>?_);conv=>whnf)))
     obtain ⟨o1, o2⟩ := hI.ent.find hg
     by_cases h2 : D2.next 3 = 2
     ·refine Br.yes (by rw [hg, h2]; rfl) ?_
      ((conv=>whnf);(repeat' ((first|refine Nd ?_|refine Hv fun _h=>?_);conv=>whnf)))
      generalize (Qa5 m r0.block).1 = old at *
      refine CallN.pureA QkH (QkR x old.zone old.offset ) ?_
      ((conv=>whnf);(repeat' ((first|refine Nd ?_|refine Hv fun _h=>?_);conv=>whnf)))
      refine CallN.pureA Qey (Qd6 (Qcz x old.zone old.offset) ) ?_
      ((conv=>whnf);(repeat' ((first|refine Nd ?_|refine Hv fun _h=>?_);conv=>whnf)))
      refine CallN.pureA QpC (QpG (decR (Qcz x old.zone old.offset)) ) ?_
      ((conv=>whnf);(repeat' ((first|refine Nd ?_|refine Hv fun _h=>?_);conv=>whnf)))
      refine ⟨(D2.step, (QfC (decR (Qcz x old.zone old.offset))).1, v), ⟨hD2.step, hI.copy (by omega) o1.2 (by omega)⟩, ?_⟩
      exact Mv.k0
     ·refine Br.no (by rw [hg]; simpa using h2) ?_
      ((conv=>whnf);(repeat' ((first|refine Nd ?_|refine Hv fun _h=>?_);conv=>whnf)))
      refine ⟨(D2.step, r0, IntKind.i64.wrap (v + 1)), ⟨hD2.step, hr0⟩, ?_⟩
      exact Mv.k0
    ·((conv=>whnf);(repeat' ((first|refine Nd ?_|refine Hv fun _h=>?_);conv=>whnf)))
     refine Br.no (by rw [hg]; rfl) ?_
     ((conv=>whnf);(repeat' ((first|refine Nd ?_|refine Hv fun _h=>?_);conv=>whnf)))
     refine ⟨(D2, r0, IntKind.i64.wrap (v + 1)), ⟨hD2, hr0⟩, ?_⟩
     exact Mv.k0
   ·rintro ⟨D3, r, v2⟩ ⟨hD3, hrb⟩
    have hD3 : D3.ok := hD3
    have hrb : r.block < c.blocks := hrb
    refine AWn.seq hΓ ?_
    conv=>whnf
    refine Dr.mkE hΓ hMix [] [(7, 10), (8, 10)] (by kernel_rfl) ?_; conv=>whnf
    ((conv=>whnf);(repeat' ((first|refine Nd ?_|refine Hv fun _h=>?_);conv=>whnf)))
    refine CallP.auto Qds (Qdp r ) ?_
    ((conv=>whnf);(repeat' ((first|refine Nd ?_|refine Hv fun _h=>?_);conv=>whnf)))
    refine CallP.auto Qb5 (Qcb x hI.ok.tiny.small z (encR r) ) ?_
    ((conv=>whnf);(repeat' ((first|refine Nd ?_|refine Hv fun _h=>?_);conv=>whnf)))
    refine AWn.seq hΓ ?_
    ((conv=>whnf);(repeat' ((first|refine Nd ?_|refine Hv fun _h=>?_);conv=>whnf)))
    by_cases hE : QT x z (encR r) = 0
    ·refine Br.no (by simpa using hE) ?_
     ((conv=>whnf);(repeat' ((first|refine Nd ?_|refine Hv fun _h=>?_);conv=>whnf)))
     refine AWn.seq hΓ ?_
     ((conv=>whnf);(repeat' ((first|refine Nd ?_|refine Hv fun _h=>?_);conv=>whnf)))
     have hY := hI.append z (s := encR r) (Qre hrb (by omega))
     generalize QN x z (encR r) = y at *
     generalize Qbj x z (encR r) = at_ at *
     refine AWn.seq hΓ ?_
     ((conv=>whnf);(repeat' ((first|refine Nd ?_|refine Hv fun _h=>?_);conv=>whnf)))
     refine AWn.join hΓ (ι := List (List Ent)) [2, 3, 4, 5, 6, 8, 10, 12, 13] (fun _ => []) (fun m2 => [.vr [.int .i64 0, .int .i64 0, .int .i64 0, .int .i64 0, .int .i64 0, .int .i64 0], .vr [.int .i64 0, .int .i64 0, .int .i64 0, .nils], .vr D3.cells, .vr c.cells, .vr (Lay.cells c), .vr y.cells, .vr [Qm m2]]) (fun m2 => MInv c y m2 (k + 1)) ?_ ?_
     ·((conv=>whnf);(repeat' ((first|refine Nd ?_|refine Hv fun _h=>?_);conv=>whnf)))
      refine CallN.pureA QiY (QhZ m r.block (by omega) hms ) ?_
      ((conv=>whnf);(repeat' ((first|refine Nd ?_|refine Hv fun _h=>?_);conv=>whnf)))
      by_cases h2 : (Qa5 m r.block).2 = true ∧ (Qa5 m r.block).1.version = r.version
      ·refine Br.yes (by show (bif (Qa5 m r.block).2 then (Qa5 m r.block).1.version == r.version else false) = true; rw [h2.1, h2.2]; simp) ?_
       ((conv=>whnf);(repeat' ((first|refine Nd ?_|refine Hv fun _h=>?_);conv=>whnf)))
       generalize (Qa5 m r.block).1 = old at *
       refine CallN.pureA QnG (QnU m r.block r.version old.zone old.offset z at_ r.move (by omega) hms ) ?_
       ((conv=>whnf);(repeat' ((first|refine Nd ?_|refine Hv fun _h=>?_);conv=>whnf)))
       refine ⟨(relM m r.block r.version old.zone old.offset z at_ r.move).1, hY.rel hzz, ?_⟩
       exact Mv.k0
      ·refine Br.no (by
        show (bif (Qa5 m r.block).2 then (Qa5 m r.block).1.version == r.version else false) = false
        cases q : (Qa5 m r.block).2 with
        | false => rfl
        | true => simpa using fun w => h2 ⟨q, w⟩) ?_
       ((conv=>whnf);(repeat' ((first|refine Nd ?_|refine Hv fun _h=>?_);conv=>whnf)))
       refine CallN.pureA Qqt (Qpb m ⟨r.block, r.kind, r.version, r.move, z, at_⟩ (by omega) hms ) ?_
       ((conv=>whnf);(repeat' ((first|refine Nd ?_|refine Hv fun _h=>?_);conv=>whnf)))
       refine ⟨(Qaq m ⟨r.block, r.kind, r.version, r.move, z, at_⟩).1, hY.inst ⟨hrb, hzz⟩, ?_⟩
       exact Mv.k0
     ·intro m2 hI2
      have hI2 : MInv c y m2 (k + 1) := hI2
      have hw1 : IntKind.i64.wrap ((k : Int) + 1) = ((k + 1 : Nat) : Int) := by rw [Qa _ (by omega) (by omega)]; omega
      refine AWn.ofVc hΓ ?_
      ((conv=>whnf);(repeat' ((first|refine Nd ?_|refine Hv fun _h=>?_);conv=>whnf)))
      refine CallN.autoQ [2] QaA (QaE D3 hD3 9) ?_; conv=>whnf
      ((conv=>whnf);(repeat' ((first|refine Nd ?_|refine Hv fun _h=>?_);conv=>whnf)))
      by_cases h3 : D3.next 9 = 8
      ·refine Br.yes (by simpa using h3) ?_
       ((conv=>whnf);(repeat' ((first|refine Nd ?_|refine Hv fun _h=>?_);conv=>whnf)))
       refine Dr.mkE hΓ hMix [34] [(0, 7), (1, 7), (2, 7), (3, 7), (4, 7), (5, 7)] (by kernel_rfl) ?_; conv=>whnf
       ((conv=>whnf);(repeat' ((first|refine Nd ?_|refine Hv fun _h=>?_);conv=>whnf)))
       refine CallE.autoQ [2] QaA (QaE D3.step hD3.step 2) ?_; conv=>whnf
       ((conv=>whnf);(repeat' ((first|refine Nd ?_|refine Hv fun _h=>?_);conv=>whnf)))
       have hs2 := D3.step.next_range (n := 2) (by omega) (by omega)
       have hal := Qtz hI2.ml hI2.len
       have hsv := Qst c y m2 v2 (IntKind.i64.wrap (1 + k)) (D3.step.next 2) hc hI2.ok (by have := hI2.ml; omega) (fun i => by have := hI2.len i; omega) (by omega) (fun e he => (hI2.ent.all e he).1) hs2.1 (by omega)
       refine CallP.auto QrU hsv ?_
       ((conv=>whnf);(repeat' ((first|refine Nd ?_|refine Hv fun _h=>?_);conv=>whnf)))
       refine AWn.ofVc hΓ ?_
       ((conv=>whnf);(repeat' ((first|refine Nd ?_|refine Hv fun _h=>?_);conv=>whnf)))
       have hI3 := hI2.save hc v2 (IntKind.i64.wrap (1 + k)) hs2.1 (show D3.step.next 2 ≤ 1 by omega)
       refine ⟨(D3.step.step, QiS c y m2 v2 (IntKind.i64.wrap (1 + k)) (D3.step.next 2), m2, v2, k + 1), ⟨hD3.step.step, hI3, by show k + 1 ≤ 30; omega⟩, by show 30 - (k + 1) < 30 - k; omega, ?_⟩
       rw [show IntKind.i64.wrap ((((D, x, m, v, k) : DiceM × Dev × List (List Ent) × Int × Nat).2.2.2.2 : Int) + 1) = ((k + 1 : Nat) : Int) from hw1]
       exact Mv.k0
      ·refine Br.no (by simpa using h3) ?_
       ((conv=>whnf);(repeat' ((first|refine Nd ?_|refine Hv fun _h=>?_);conv=>whnf)))
       refine AWn.ofVc hΓ ?_
       ((conv=>whnf);(repeat' ((first|refine Nd ?_|refine Hv fun _h=>?_);conv=>whnf)))
       refine ⟨(D3.step, y, m2, v2, k + 1), ⟨hD3.step, hI2, by show k + 1 ≤ 30; omega⟩, by show 30 - (k + 1) < 30 - k; omega, ?_⟩
       rw [show IntKind.i64.wrap ((((D, x, m, v, k) : DiceM × Dev × List (List Ent) × Int × Nat).2.2.2.2 : Int) + 1) = ((k + 1 : Nat) : Int) from hw1]
       exact Mv.k0
    ·refine Br.yes (by simpa using hE) ?_
     ((conv=>whnf);(repeat' ((first|refine Nd ?_|refine Hv fun _h=>?_);conv=>whnf)))
     refine AWn.ofVc hΓ ?_
     ((conv=>whnf);(repeat' ((first|refine Nd ?_|refine Hv fun _h=>?_);conv=>whnf)))
     have hw1 : IntKind.i64.wrap ((k : Int) + 1) = ((k + 1 : Nat) : Int) := by rw [Qa _ (by omega) (by omega)]; omega
     refine ⟨(D3, x, m, v2, k + 1), ⟨hD3, hI.mono (Nat.le_succ k), by show k + 1 ≤ 30; omega⟩, by show 30 - (k + 1) < 30 - k; omega, ?_⟩
     rw [show IntKind.i64.wrap ((((D, x, m, v, k) : DiceM × Dev × List (List Ent) × Int × Nat).2.2.2.2 : Int) + 1) = ((k + 1 : Nat) : Int) from hw1]
     exact Mv.k0
  ·refine Br.no (Bool.eq_false_iff.2 fun q => h1 ?_) ?_
   ·rw [show (((D, x, m, v, k) : DiceM × Dev × List (List Ent) × Int × Nat).2.2.2.2 : Int) = (k : Int) from rfl] at q
    by_cases w1 : (k : Int) < 30
    ·rw [decide_eq_true w1] at q
     exact ⟨by omega, of_decide_eq_true q⟩
    ·rw [decide_eq_false w1] at q
     cases q
   ·((conv=>whnf);(repeat' ((first|refine Nd ?_|refine Hv fun _h=>?_);conv=>whnf)))
    refine AWn.ofVc hΓ ?_
    ((conv=>whnf);(repeat' ((first|refine Nd ?_|refine Hv fun _h=>?_);conv=>whnf)))
    refine Dr.mkE hΓ hMix [] [(1, 2)] (by kernel_rfl) ?_; conv=>whnf
    ((conv=>whnf);(repeat' ((first|refine Nd ?_|refine Hv fun _h=>?_);conv=>whnf)))
    refine ⟨.t [.inr c.cells, .inr x.cells], [], ?_, (c, x), ⟨hc, hI.ok, hI.n, hI.size⟩, rfl, rfl⟩
    exact RM.w0
theorem Qsj : HB 9 := hB Tryz.func9
def awC : Conf := QbW ⟨[0, 3], 0⟩
def awA : Rec := ⟨2, 1, 4, 0, ByteArray.empty⟩
def awB : Rec := ⟨1, 1, 3, 0, Qie 2⟩
def aw0 : Dev := newX awC.zones awC.size 3 3
def aw1 : Dev := QN aw0 (awC.zones - 1) (encR awA)
def aw2 : Dev := QN aw1 (awC.zones - 1) (encR awB)
theorem QqF : Qbb awC aw2 = 0 := by decide +kernel
theorem QuZ : (Qbu awC aw2).version = 4 ∧ (Qbu awC aw2).slot = -1 ∧ (allS (Qbu awC aw2).map).length = 1 ∧ ((allS (Qbu awC aw2).map).getD 0 default).kind = 2 ∧ ((allS (Qbu awC aw2).map).getD 0 default).version = 4 ∧ awC.zones ≤ 32 ∧ 1 ≤ awC.zones := by decide +kernel
theorem QuO : newE awC.zones awC.size 3 3 = 0 ∧ aw0.ok ∧ aw1.ok ∧ aw2.ok := by
 obtain ⟨h1, h2⟩ := Qj0 (c := awC) (QlH ⟨[0, 3], 0⟩)
 exact ⟨h1, h2.ok, QcK h2.ok _ _, QcK (QcK h2.ok _ _) _ _⟩
theorem Qt3 (c : Conf) (d : Dev) : (Qbu c d).map.length = c.shards.toNat ∧ ∀ i, ((Qbu c d).map.getD i default).length ≤ c.blocks.toNat := by
 refine ⟨?_, fun i => ?_⟩
 ·show (QbR _ _).length = _
  rw [Qjz]
  exact List.length_replicate
 ·have h1 := Qmf (Qm5 c.shards) (winL c d) i
  have h2 := QjC (Qbt c d) (Qbd c d) c.blocks.toNat
  have h3 : (winL c d).length ≤ c.blocks.toNat := h2
  show ((QbR _ _).getD i default).length ≤ _
  omega
theorem Qs3 (c : Conf) (d : Dev) : (QdI c d).map.length ≤ 1000000 ∧ ∀ i, ((QdI c d).map.getD i default).length ≤ 1000000 := by
 unfold QdI
 split
 ·rename_i h
  obtain ⟨h1, h2⟩ := Qt3 c d
  have hc : Qq c = 0 := by
   unfold Qbb at h
   split at h
   ·rename_i q; exact q
   ·rename_i q; exact absurd h q
  have := confR_iff.1 (QaR hc).1
  exact ⟨by omega, fun i => by have := h2 i; omega⟩
 ·exact ⟨by decide, fun i => by
   show (([] : List (List Ent)).getD i default).length ≤ _
   exact Nat.zero_le _⟩
set_option maxHeartbeats 4000000 in
theorem Qiw : PS 8 [] (.c (.bool true)) := by
 obtain ⟨hN, k0, k1, k2⟩ := QuO
 obtain ⟨v1, v2, v3, v4, v5, v6, v7⟩ := QuZ
 have hnew := QgM awC.zones awC.size 3 3 (by omega)
 rw [hN, show newD awC.zones awC.size 3 3 = aw0 from if_pos hN] at hnew
 have hB := Qpw awC aw2 k2.tiny
 rw [QqF, show QdI awC aw2 = Qbu awC aw2 from if_pos QqF] at hB
 have ok0 : DiceM.ok ⟨[0, 3], 0⟩ := ⟨Nat.zero_le _, by decide⟩
 obtain ⟨m1, m2⟩ := Qs3 awC aw2
 rw [show QdI awC aw2 = Qbu awC aw2 from if_pos QqF] at m1 m2
 refine PSpec.rm ?_
 refine ov hΓ Tryz.func8 89 0 [.tmp 0] Tryz.ntmps8 Tryz.results8 ?_
 ((conv=>whnf);(repeat' ((first|refine Nd ?_|refine Hv fun _h=>?_);conv=>whnf)))
 have hl : ∀ i, i < 2 → ∀ j, j < 1 → Qaf 1 [.int .i64 0, .int .i64 3] i j = QcD .i64 [0, 3] i j := fun i hi j hj => Qs2 (l := [0, 3]) rfl hi hj
 refine CallN.fzK 0 [] [(0, .c (.bool false))] [] [.c (QbH [0, 3])] rfl (Nat.zero_le _) (fun i hi j hj => (congrArg C.imm (hl i hi j hj)).trans rfl) wb0 wb0 ?_ leN ?_
 ·refine wb1 ?_
  exact WC.fz rfl rfl (fun i hi j hj => leF.of_eq (hl i hi j hj)) (fun e => by cases e)
 refine CallN.autoQ [] QjR (QjF [0, 3] (by decide)) ?_; conv=>whnf
 ((conv=>whnf);(repeat' ((first|refine Nd ?_|refine Hv fun _h=>?_);conv=>whnf)))
 refine CallN.autoQ [0] Qig (QiX ⟨[0, 3], 0⟩ ok0) ?_; conv=>whnf
 ((conv=>whnf);(repeat' ((first|refine Nd ?_|refine Hv fun _h=>?_);conv=>whnf)))
 rw [show QbW ⟨[0, 3], 0⟩ = awC from rfl]
 have hA1 : PS 29 [aw0.s, .c (.int .i64 (awC.zones - 1)), .c (.str (encR awA))] (Dev.out3 aw1 (Qbj aw0 (awC.zones - 1) (encR awA)) (QT aw0 (awC.zones - 1) (encR awA))) := Qcb aw0 k0.tiny.small (awC.zones - 1) (encR awA)
 have hA2 : PS 29 [aw1.s, .c (.int .i64 (awC.zones - 1)), .c (.str (encR awB))] (Dev.out3 aw2 (Qbj aw1 (awC.zones - 1) (encR awB)) (QT aw1 (awC.zones - 1) (encR awB))) := Qcb aw1 k1.tiny.small (awC.zones - 1) (encR awB)
 have hS1 := Qdp awA
 have hS2 := Qdp awB
 have w1 : IntKind.i64.wrap (awC.zones - 1) = awC.zones - 1 := Qa _ (by omega) (by omega)
 generalize Qbj aw0 (awC.zones - 1) (encR awA) = i1 at *
 generalize QT aw0 (awC.zones - 1) (encR awA) = e1 at *
 generalize Qbj aw1 (awC.zones - 1) (encR awB) = i2 at *
 generalize QT aw1 (awC.zones - 1) (encR awB) = e2 at *
 generalize encR awA = s1 at *
 generalize encR awB = s2 at *
 generalize hX : Qbu awC aw2 = X at *
 generalize awC = c at *
 generalize aw0 = x0 at *
 generalize aw1 = x1 at *
 generalize aw2 = x2 at *
 refine CallN.pureA QgG hnew ?_
 ((conv=>whnf);(repeat' ((first|refine Nd ?_|refine Hv fun _h=>?_);conv=>whnf)))
 refine CallN.pureA Qi2 (Qiy 2 ) ?_
 ((conv=>whnf);(repeat' ((first|refine Nd ?_|refine Hv fun _h=>?_);conv=>whnf)))
 refine Dr.mkE hΓ hMix [] [(9, 11), (10, 11)] (by kernel_rfl) ?_; conv=>whnf
 ((conv=>whnf);(repeat' ((first|refine Nd ?_|refine Hv fun _h=>?_);conv=>whnf)))
 refine CallP.auto Qds hS1 ?_
 ((conv=>whnf);(repeat' ((first|refine Nd ?_|refine Hv fun _h=>?_);conv=>whnf)))
 rw [w1]
 refine CallP.auto Qb5 hA1 ?_
 ((conv=>whnf);(repeat' ((first|refine Nd ?_|refine Hv fun _h=>?_);conv=>whnf)))
 refine Dr.mkE hΓ hMix [] [(9, 11), (10, 11)] (by kernel_rfl) ?_; conv=>whnf
 ((conv=>whnf);(repeat' ((first|refine Nd ?_|refine Hv fun _h=>?_);conv=>whnf)))
 refine CallP.auto Qds hS2 ?_
 ((conv=>whnf);(repeat' ((first|refine Nd ?_|refine Hv fun _h=>?_);conv=>whnf)))
 rw [w1]
 refine CallP.auto Qb5 hA2 ?_
 ((conv=>whnf);(repeat' ((first|refine Nd ?_|refine Hv fun _h=>?_);conv=>whnf)))
 refine CallN.pureA QpP hB ?_
 ((conv=>whnf);(repeat' ((first|refine Nd ?_|refine Hv fun _h=>?_);conv=>whnf)))
 refine CallN.pureA Qkc (Qkt X.map m2 m1 ) ?_
 ((conv=>whnf);(repeat' ((first|refine Nd ?_|refine Hv fun _h=>?_);conv=>whnf)))
 rw [show (Int.toNat 0) = 0 from rfl, v1, v2, v3, v4, v5]
 exact RM.i0
theorem QiI : HB 8 := hB Tryz.func8
theorem QrH {b : Bas} {x : Int} {l : List Fnd} {g : Fnd} (hg : g ∈ l) (he : elig b x g) : QS b l x ≠ none := by
 have key : ∀ (l : List Fnd) (o : Option Fnd), (o ≠ none ∨ g ∈ l) → l.foldl (QbE b x) o ≠ none := by
  intro l
  induction l with
  | nil => intro o h; rcases h with h | h; exact h; cases h
  | cons a l ih =>
   intro o h
   rw [List.foldl_cons]
   refine ih _ ?_
   unfold QbE
   split
   ·exact .inl (by simp)
   ·rename_i q
    rcases h with h | h
    ·exact .inl h
    ·rcases List.mem_cons.1 h with rfl | h
     ·left
      intro ho
      exact q ⟨he.1, he.2, fun g' e => by rw [ho] at e; cases e⟩
     ·exact .inr h
 exact key l none (.inr hg)
theorem Qkd {b : Bas} {x : Int} {L G : List Fnd} (hp : Qfn L) (h : ∀ f, elig b x f → (f ∈ G ↔ f ∈ L)) : QS b G x = QS b L x := by
 cases hb : QS b L x with
 | none => exact QjY fun g hg he => QrH ((h g he).1 hg) he hb
 | some f =>
  obtain ⟨f1, f2, f3⟩ := Qm3 hb
  exact Qoz ((h f f2).2 f1) f2 fun g hg he => QgI hp f1 ((h g he).1 hg) (f3 g ((h g he).1 hg) he)
def basO (c : Conf) (d : Dev) : Bas := if (Qs c d).2 = -1 then ⟨0, 1, 1, []⟩ else (Qs c d).1
theorem Qtn (c : Conf) (d : Dev) : (basO c d).ents.length ≤ 128 := by
 have h := (QlT c d).1
 unfold basO
 split
 ·exact Nat.zero_le _
 ·rename_i q
  have hs : (Qs c d).2 = -1 ∨ ¬ (Qs c d).2 < 0 := by
   unfold Qs
   split
   ·exact .inr (by show ¬ (0 : Int) < 0; decide)
   ·split
    ·exact .inr (by show ¬ (1 : Int) < 0; decide)
    ·exact .inl rfl
  rcases hs with hs | hs
  ·exact absurd hs q
  ·unfold Qbt at h
   rw [if_neg hs] at h
   exact h
theorem QuT {id n : Nat} {g : Nat → Nat → C} {l : List Fnd} : (fun i j => fzC id n g (fndG l i j)) = fndG l := by
 funext i j
 unfold fndG rowG Fnd.cell
 split <;> rfl
theorem rotG {L : List Fnd} {k : Nat} (hk : k ≤ L.length) {g0 : Nat → Nat → C} {i j : Nat} (hi : i < L.length) : appG (appG g0 0 fun i j => fndG L (k + i) j) (0 + (L.length - k)) (fndG L) i j = fndG (L.drop k ++ L.take k) i j := by
 simp only [appG, fndG, rowG, Nat.zero_add, Nat.not_lt_zero, if_false, Nat.sub_zero, List.getD]
 by_cases c : i < L.length - k
 ·rw [if_pos c, List.getElem?_append_left (by rw [List.length_drop]; exact c), List.getElem?_drop]
 ·rw [if_neg c, List.getElem?_append_right (by rw [List.length_drop]; omega), List.length_drop, List.getElem?_take_of_lt (by omega)]
theorem Qtx {l : List Fnd} {i j : Nat} (hi : i < l.length) (hj : j < l.length) {f : Fnd} : f ∈ (l.set i (l.getD j default)).set j (l.getD i default) ↔ f ∈ l := by
 have gm : ∀ t, t < l.length → l.getD t default ∈ l := fun t ht => by
  rw [show l.getD t default = l[t] by simp [List.getD, ht]]
  exact List.getElem_mem ht
 constructor
 ·intro h
  rcases List.mem_or_eq_of_mem_set h with h | rfl
  ·rcases List.mem_or_eq_of_mem_set h with h | rfl
   ·exact h
   ·exact gm j hj
  ·exact gm i hi
 ·intro h
  obtain ⟨t, ht, rfl⟩ := List.getElem_of_mem h
  have key : ∀ q, q < l.length → ((l.set i (l.getD j default)).set j (l.getD i default)).getD q default = l[t] → l[t] ∈ (l.set i (l.getD j default)).set j (l.getD i default) := fun q hq e => by
   rw [← e]
   rw [show ((l.set i (l.getD j default)).set j (l.getD i default)).getD q default = ((l.set i (l.getD j default)).set j (l.getD i default))[q]'(by simpa using hq) by simp [List.getD, hq]]
   exact List.getElem_mem _
  have et : l.getD t default = l[t] := by simp [List.getD, ht]
  by_cases c : t = i
  ·subst c
   exact key j hj (by rw [QbS (by simpa using hj), if_pos rfl, et])
  ·by_cases c2 : t = j
   ·subst c2
    exact key i hi (by rw [QbS (by simpa using ht), if_neg (fun e => c e.symm), QbS hi, if_pos rfl, et])
   ·exact key t ht (by rw [QbS (by simpa using hj), if_neg c2, QbS hi, if_neg c, et])
theorem Qrn {l : List Fnd} {u : Nat} {f : Fnd} (hu : u < l.length) {i j : Nat} (hj : j < 7) : updG (fndG l) u 0 f.cells i j = fndG (l.set u f) i j :=
 Qc6 (f := Fnd.cell) hu (es := 7) (fun j hj => by
  match j, hj with
  | 0, _ => rfl
  | 1, _ => rfl
  | 2, _ => rfl
  | 3, _ => rfl
  | 4, _ => rfl
  | 5, _ => rfl
  | 6, _ => rfl) i j hj
theorem Qvk {l : List Fnd} {u v : Nat} (hu : u < l.length) (hv : v < l.length) {i j : Nat} (hj : j < 7) : updG (updG (fndG l) u 0 (l.getD v default).cells) v 0 (l.getD u default).cells i j = fndG ((l.set u (l.getD v default)).set v (l.getD u default)) i j := by
 rw [← Qrn (by simpa using hv) hj]
 have e : ∀ (g g' : Nat → Nat → C), g i j = g' i j → updG g v 0 (l.getD u default).cells i j = updG g' v 0 (l.getD u default).cells i j := fun g g' h => by
  simp only [updG]
  split
  ·rfl
  ·exact h
 exact e _ _ (Qrn hu hj)
set_option maxHeartbeats 8000000 in
theorem QpR (l : List Int) (turn swap : Int) : PS 6 [.c (QbH l), .c (.int .i64 turn), .c (.int .i64 swap)] (.c (.bool true)) := by
 refine PSpec.rm ?_
 refine CSpec.of_aw hΓ Tryz.func6 152 0 [.tmp 6] Tryz.ntmps6 ?_
 refine AWn.seq hΓ ?_
 ((conv=>whnf);(repeat' ((first|refine Nd ?_|refine Hv fun _h=>?_);conv=>whnf)))
 refine AWn.seq hΓ ?_
 ((conv=>whnf);(repeat' ((first|refine Nd ?_|refine Hv fun _h=>?_);conv=>whnf)))
 refine CallN.pureA QoW (Qph l ) ?_
 ((conv=>whnf);(repeat' ((first|refine Nd ?_|refine Hv fun _h=>?_);conv=>whnf)))
 by_cases h1 : l.length ≤ 300
 ·refine Br.no (by rw [decide_eq_true h1]; rfl) ?_
  ((conv=>whnf);(repeat' ((first|refine Nd ?_|refine Hv fun _h=>?_);conv=>whnf)))
  refine AWn.seq hΓ ?_
  ((conv=>whnf);(repeat' ((first|refine Nd ?_|refine Hv fun _h=>?_);conv=>whnf)))
  refine CallN.exQ [] Qsj (Qrm l (by omega)) (fun p hp => ?_) (by decide) wb0 rfl wb0
  obtain ⟨c, d⟩ := p
  have hG : Good c d := hp
  clear hp
  have hd := hG.ok.tiny
  ((conv=>whnf);(repeat' ((first|refine Nd ?_|refine Hv fun _h=>?_);conv=>whnf)))
  refine AWn.seq hΓ ?_
  ((conv=>whnf);(repeat' ((first|refine Nd ?_|refine Hv fun _h=>?_);conv=>whnf)))
  refine CallN.pureA QkS (QkT c d hd ) ?_
  ((conv=>whnf);(repeat' ((first|refine Nd ?_|refine Hv fun _h=>?_);conv=>whnf)))
  refine AWn.join hΓ (ι := Unit) [6, 1, 2, 7, 8] (fun _ => [(9, .c (.ptr 2 0))]) (fun _ => [.vr c.cells, .vr d.cells, .vr (basO c d).cells]) (fun _ => True) ?_ ?_
  ·((conv=>whnf);(repeat' ((first|refine Nd ?_|refine Hv fun _h=>?_);conv=>whnf)))
   by_cases h2 : (Qs c d).2 = -1
   ·refine Br.yes (by simpa using h2) ?_
    ((conv=>whnf);(repeat' ((first|refine Nd ?_|refine Hv fun _h=>?_);conv=>whnf)))
    refine ⟨(), trivial, ?_⟩
    rw [show basO c d = ⟨0, 1, 1, []⟩ from if_pos h2]
    exact Mv.k0
   ·refine Br.no (by simpa using h2) ?_
    ((conv=>whnf);(repeat' ((first|refine Nd ?_|refine Hv fun _h=>?_);conv=>whnf)))
    refine ⟨(), trivial, ?_⟩
    rw [show basO c d = (Qs c d).1 from if_neg h2]
    exact Mv.k0
  ·rintro ⟨⟩ _
   have hbl := Qtn c d
   generalize basO c d = B at *
   refine AWn.seq hΓ ?_
   ((conv=>whnf);(repeat' ((first|refine Nd ?_|refine Hv fun _h=>?_);conv=>whnf)))
   refine CallN.pureA Qqu (QpY c d hd ) ?_
   ((conv=>whnf);(repeat' ((first|refine Nd ?_|refine Hv fun _h=>?_);conv=>whnf)))
   have hL := QjG c hd
   have hPl : Qfn (Qbd c d) := fun f hf g hg => Qh6 hf hg
   generalize Qbd c d = L at *
   refine AWn.seq hΓ ?_
   ((conv=>whnf);(repeat' ((first|refine Nd ?_|refine Hv fun _h=>?_);conv=>whnf)))
   have w1 : IntKind.i64.wrap ((L.length : Int) + 1) = (L.length : Int) + 1 := Qa _ (by omega) (by omega)
   rw [w1]
   refine CallN.pureA Qdi (Qdh turn ((L.length : Int) + 1) ) ?_
   ((conv=>whnf);(repeat' ((first|refine Nd ?_|refine Hv fun _h=>?_);conv=>whnf)))
   have hk := QdO (x := turn) (n := (L.length : Int) + 1) (by omega) (by omega)
   obtain ⟨k, hkk⟩ := Int.eq_ofNat_of_zero_le hk.1
   rw [hkk]
   have hkl : k ≤ L.length := by omega
   have e0 : (k : Int).toNat = k := by simp
   have e1 : 0 + (L.length - k) + k = L.length := by omega
   refine AWn.join hΓ (ι := Unit) [1, 2, 6, 7, 9, 11] (fun _ => [(13, .c (.sl 3 7 L.length L.length false))]) (fun _ => [.vr c.cells, .vr d.cells, .vr B.cells, .arr 71 7 L.length (fndG (L.drop k ++ L.take k))]) (fun _ => True) ?_ ?_
   ·conv=>whnf
    refine Dr.mkE hΓ hMix [] [(5, 4), (6, 4), (7, 4)] (by kernel_rfl) ?_; conv=>whnf
    ((conv=>whnf);(repeat' ((first|refine Nd ?_|refine Hv fun _h=>?_);conv=>whnf)))
    rw [e0, e1]
    refine ⟨(), trivial, ?_⟩
    refine Mv.k1 ?_
    exact fun i hi j hj => WC.eq (rotG hkl hi) (Ql _ _)
   rintro ⟨⟩ _
   have hrl : (L.drop k ++ L.take k).length = L.length := by simp; omega
   have hrm : ∀ f, f ∈ L.drop k ++ L.take k ↔ f ∈ L := fun f => by
    rw [List.mem_append]
    constructor
    ·rintro (h | h)
     ·exact List.mem_of_mem_drop h
     ·exact List.mem_of_mem_take h
    ·intro h
     rw [← List.take_append_drop k L, List.mem_append] at h
     exact h.symm
   generalize L.drop k ++ L.take k = G0 at *
   refine AWn.join hΓ (ι := List Fnd) [6, 7, 9, 11] (fun g => [(13, .c (.sl 3 7 g.length g.length false))]) (fun g => [.vr c.cells, .vr d.cells, .vr B.cells, .arr 71 7 g.length (fndG g)]) (fun g => g.length = L.length ∧ ∀ f, f ∈ g ↔ f ∈ L) ?_ ?_
   ·((conv=>whnf);(repeat' ((first|refine Nd ?_|refine Hv fun _h=>?_);conv=>whnf)))
    by_cases h3 : 1 < L.length
    ·refine Br.yes (decide_eq_true (by omega)) ?_
     ((conv=>whnf);(repeat' ((first|refine Nd ?_|refine Hv fun _h=>?_);conv=>whnf)))
     refine CallN.pureA Qdi (Qdh swap (L.length : Int) ) ?_
     ((conv=>whnf);(repeat' ((first|refine Nd ?_|refine Hv fun _h=>?_);conv=>whnf)))
     refine CallN.pureA Qdi (Qdh (IntKind.i64.wrap (turn + swap)) (L.length : Int) ) ?_
     ((conv=>whnf);(repeat' ((first|refine Nd ?_|refine Hv fun _h=>?_);conv=>whnf)))
     have hi := QdO (x := swap) (n := (L.length : Int)) (by omega) (by omega)
     have hj := QdO (x := IntKind.i64.wrap (turn + swap)) (n := (L.length : Int)) (by omega) (by omega)
     generalize modI swap (L.length : Int) = u at *
     generalize modI (IntKind.i64.wrap (turn + swap)) (L.length : Int) = v at *
     obtain ⟨u, rfl⟩ := Int.eq_ofNat_of_zero_le hi.1
     obtain ⟨v, rfl⟩ := Int.eq_ofNat_of_zero_le hj.1
     have hu : u < L.length := by omega
     have hv : v < L.length := by omega
     refine Dr.mkE hΓ hMix [] [(2, 13), (3, 13)] (by kernel_rfl) ?_; conv=>whnf
     ((conv=>whnf);(repeat' ((first|refine Nd ?_|refine Hv fun _h=>?_);conv=>whnf)))
     have q1 : (G0.getD v default).cells.length = 7 := rfl
     have q2 : (G0.getD u default).cells.length = 7 := rfl
     refine Frc.mk (.a (G0.getD v default).cells) rfl ?_
     ((conv=>whnf);(repeat' ((first|refine Nd ?_|refine Hv fun _h=>?_);conv=>whnf)))
     refine Frc.mk (.a (G0.getD u default).cells) rfl ?_
     ((conv=>whnf);(repeat' ((first|refine Nd ?_|refine Hv fun _h=>?_);conv=>whnf)))
     have hsl : ((G0.set u (G0.getD v default)).set v (G0.getD u default)).length = L.length := by rw [List.length_set, List.length_set]; exact hrl
     refine ⟨(G0.set u (G0.getD v default)).set v (G0.getD u default), ⟨hsl, fun f => (Qtx (by omega) (by omega)).trans (hrm f)⟩, ?_⟩
     rw [hsl]
     refine Mv.k1 ?_
     exact fun i hi j hj => WC.eq (Qvk (by omega) (by omega) hj) (Ql _ _)
    ·refine Br.no (decide_eq_false (by omega)) ?_
     ((conv=>whnf);(repeat' ((first|refine Nd ?_|refine Hv fun _h=>?_);conv=>whnf)))
     refine ⟨G0, ⟨hrl, hrm⟩, ?_⟩
     rw [hrl]
     exact Mv.k0
   ·rintro g ⟨hgl, hgm⟩
    have hgl : g.length = L.length := hgl
    have hgm : ∀ f, f ∈ g ↔ f ∈ L := hgm
    have hL : L.length ≤ 10000 := hL
    have hgL : g.length ≤ 10000 := by omega
    refine AWn.seq hΓ ?_
    ((conv=>whnf);(repeat' ((first|refine Nd ?_|refine Hv fun _h=>?_);conv=>whnf)))
    refine AWn.seq hΓ ?_
    ((conv=>whnf);(repeat' ((first|refine Nd ?_|refine Hv fun _h=>?_);conv=>whnf)))
    refine Lp.reserve 71 7 (fndG []) 16 rfl ?_
    refine Lp.mkK hΓ (ι := Nat) [6, 7, 9, 11, 13] (fun k => [(17, .c (.int .i64 k)), (16, .c (.sl 4 7 (QaU B g k).length (QaU B g k).length false))]) (fun k => [.vr c.cells, .vr d.cells, .vr B.cells, .arr 71 7 g.length (fndG g), .arr 71 7 (QaU B g k).length (fndG (QaU B g k))]) (fun k => k ≤ g.length) (fun k => g.length - k) 0 (Nat.zero_le _) ?_ ?_
    ·exact Mv.k0
    ·intro k hk
     have hcl := QjN B g k
     ((conv=>whnf);(repeat' ((first|refine Nd ?_|refine Hv fun _h=>?_);conv=>whnf)))
     refine Br.of (fun h4=>?_) (fun h4=>?_)<;>(try simp only [Int.toNat_natCast] at h4)<;>(conv=>whnf)
     ·((conv=>whnf);(repeat' ((first|refine Nd ?_|refine Hv fun _h=>?_);conv=>whnf)))
      have w0 := Qa (↑k + 1) (by omega) (by omega)
      refine Dr.mk hΓ hMix (by kernel_rfl) ?_; conv=>whnf
      ((conv=>whnf);(repeat' ((first|refine Nd ?_|refine Hv fun _h=>?_);conv=>whnf)))
      refine Frc.mk (.a (g.getD k default).cells) rfl ?_
      ((conv=>whnf);(repeat' ((first|refine Nd ?_|refine Hv fun _h=>?_);conv=>whnf)))
      refine CallP.auto Qd8 (Qew B (g.getD k default) (by omega) ) ?_
      ((conv=>whnf);(repeat' ((first|refine Nd ?_|refine Hv fun _h=>?_);conv=>whnf)))
      cases c6 : Q6 B (g.getD k default) with
      | true =>
       refine Br.yes rfl ?_
       ((conv=>whnf);(repeat' ((first|refine Nd ?_|refine Hv fun _h=>?_);conv=>whnf)))
       refine Frc.mk (.a (g.getD k default).cells) rfl ?_
       ((conv=>whnf);(repeat' ((first|refine Nd ?_|refine Hv fun _h=>?_);conv=>whnf)))
       refine ⟨k + 1, by omega, by omega, ?_⟩
       rw [QjA (by omega) c6]
       refine Mv.k1 ?_
       exact fun i hi j hj => WC.eq (Qg6 rfl (by simpa using hi) hj) (Ql _ _)
      | false =>
       refine Br.no rfl ?_
       ((conv=>whnf);(repeat' ((first|refine Nd ?_|refine Hv fun _h=>?_);conv=>whnf)))
       refine ⟨k + 1, by omega, by omega, ?_⟩
       rw [Qmr (by omega) c6]
       exact Mv.k0
     ·((conv=>whnf);(repeat' ((first|refine Nd ?_|refine Hv fun _h=>?_);conv=>whnf)))
      have : k = g.length := by omega
      subst this
      have hall : QaU B g g.length = g.filter (Q6 B) := by unfold QaU; rw [List.take_length]
      rw [hall] at hcl ⊢
      have hcf := confR_iff.1 (QaR hG.conf).1
      have hs1 : ∀ i, QS B g i = QS B L i := fun i => Qkd hPl fun f _ => hgm f
      have hs2 : ∀ i, QS B (g.filter (Q6 B)) i = QS B L i := fun i => Qkd hPl fun f he => by
       rw [List.mem_filter, hgm]
       exact ⟨fun q => q.1, fun q => ⟨q, he.2⟩⟩
      generalize g.filter (Q6 B) = less at *
      refine AWn.seq hΓ ?_
      ((conv=>whnf);(repeat' ((first|refine Nd ?_|refine Hv fun _h=>?_);conv=>whnf)))
      refine Lp.mkK hΓ (ι := Nat) [7, 9, 11] (fun k => [(18, .c (.int .i64 k)), (13, .c (Qcc g)), (16, .c (Qcc less))]) (fun k => [.vr c.cells, .vr d.cells, .vr B.cells]) (fun k => k ≤ c.blocks.toNat) (fun k => c.blocks.toNat - k) 0 (Nat.zero_le _) ?_ ?_
      ·refine ((Mv.fz (g := fndG g) 3 rfl (Nat.zero_le _) (fun _ _ _ _ => Ql _ _)).trans (Mv.fz (g := fndG less) (n := less.length) (e := 71) (es := 7) 4 (by
        refine Eq.trans (b := some (.arr 71 7 less.length (fun i j => fzC 3 g.length (fndG g) (fndG less i j)))) rfl ?_
        rw [QuT]) (Nat.zero_le _) (fun _ _ _ _ => Ql _ _))).trans ?_
       refine Mv.k1 ?_
       ·rw [QqM rfl, Bool.and_false]
        exact WC.imm rfl
      ·intro k hk
       ((conv=>whnf);(repeat' ((first|refine Nd ?_|refine Hv fun _h=>?_);conv=>whnf)))
       refine Br.of (fun h5=>?_) (fun h5=>?_)<;>(try simp only [Int.toNat_natCast] at h5)<;>(conv=>whnf)
       ·((conv=>whnf);(repeat' ((first|refine Nd ?_|refine Hv fun _h=>?_);conv=>whnf)))
        have w0 := Qa (↑k + 1) (by omega) (by omega)
        refine CallN.pureA QfR (QfJ B L k (by omega) (by omega) ) ?_
        ((conv=>whnf);(repeat' ((first|refine Nd ?_|refine Hv fun _h=>?_);conv=>whnf)))
        refine CallN.pureA QfR (QfJ B g k (by omega) (by omega) ) ?_
        ((conv=>whnf);(repeat' ((first|refine Nd ?_|refine Hv fun _h=>?_);conv=>whnf)))
        refine CallN.pureA QfR (QfJ B less k (by omega) (by omega) ) ?_
        ((conv=>whnf);(repeat' ((first|refine Nd ?_|refine Hv fun _h=>?_);conv=>whnf)))
        rw [hs1, hs2]
        refine Br.no (by simp) ?_
        ((conv=>whnf);(repeat' ((first|refine Nd ?_|refine Hv fun _h=>?_);conv=>whnf)))
        refine ⟨k + 1, by omega, by omega, ?_⟩
        exact Mv.k0
       ·((conv=>whnf);(repeat' ((first|refine Nd ?_|refine Hv fun _h=>?_);conv=>whnf)))
        refine AWn.ofVc hΓ ?_
        ((conv=>whnf);(repeat' ((first|refine Nd ?_|refine Hv fun _h=>?_);conv=>whnf)))
        refine CallN.pureA QiI (Qiw ) ?_
        ((conv=>whnf);(repeat' ((first|refine Nd ?_|refine Hv fun _h=>?_);conv=>whnf)))
        exact RM.i0
 ·refine Br.yes (by rw [decide_eq_false h1]; rfl) ?_
  ((conv=>whnf);(repeat' ((first|refine Nd ?_|refine Hv fun _h=>?_);conv=>whnf)))
  refine CallN.pureA QiI (Qiw ) ?_
  ((conv=>whnf);(repeat' ((first|refine Nd ?_|refine Hv fun _h=>?_);conv=>whnf)))
  exact RM.i0
end Go.Proofs
end
