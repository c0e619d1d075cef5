/- Contracts, lemmas; no condition. -/
import Derived.Test.YtmollgldghpbkaaGreatNFV
import Derived.Test.YtmollgldghpbkaaGreatNDV
import Derived.Test.YtmollgldghpbkaaGreatEvBV
import Derived.Test.YtmollgldghpbkaaGreatG8bV
import Derived.Test.YtmollgldghpbkaaGreatStBV
import Derived.Test.YtmollgldghpbkaaGreatS22V
import Derived.Test.YtmollgldghpbkaaGreatCtIV
import Derived.Test.YtmollgldghpbkaaGreatAmFV
import Derived.Test.YtmollgldghpbkaaGreatN15V
import Derived.Test.YtmollgldghpbkaaGreatCtCV
import Derived.Test.YtmollgldghpbkaaGreatCtGV
import Derived.Test.YtmollgldghpbkaaGreatCtHV
import Derived.Test.YtmollgldghpbkaaGreatKsV
import Derived.Test.YtmollgldghpbkaaGreatG8V
set_option linter.all false
section
open Go Go.Am
namespace Go.Proofs
set_option maxRecDepth 20000
theorem Qoc {s : St} {q : Int} (h : begA s q = false) : (Qn false s q).1.works = s.works := by
 unfold Qn
 dsimp only
 split
 ·rename_i h1
  split
  ·rename_i h2
   split
   ·rename_i h3
    rw [begA_iff.2 ⟨h1, h2, h3⟩] at h
    cases h
   ·rfl
  ·rfl
 ·rfl
set_option maxHeartbeats 8000000 in
theorem QmD (l : List Int) (hl : l.length ≤ 300) : CS 10 [.c (Qi l)] [] fun x H => ∃ s : St, Gz s ∧ x = .a s.cells ∧ H = [] := by
 have hd0 : (DiceM.mk l 0).ok := ⟨Nat.zero_le _, by show l.length ≤ 10000000; omega⟩
 refine CSpec.rm ?_
 refine ov0 hΓ Tryz.func10 54 0 [.cell 2 58] Tryz.ntmps10 Tryz.results10 ?_
 refine CallN.autoI [] QkY (Qla l om) plh (Go0 ?_)
 generalize DiceM.mk l 0 = d0 at *
 refine CallN.exI [1] Qrv (QpP d0 hd0) (fun _ => plh) (fun i hi => ?_); conv=>whnf
 obtain ⟨c, d1, s1⟩ := i
 obtain ⟨⟨dx, hcx⟩, hd1, h1⟩ := hi
 refine Go0 ?_
 have hb := Qhj dx
 rw [← show c = Qad dx from hcx] at hb
 have h1 : Gq c 300 32 s1 := h1
 have h0 := h1.gs (by decide)
 have hd1 : d1.ok := hd1
 have hcf := confR_iff.1 (Qv h1.gd.conf).1
 refine Lp.mkK hΓ (ι := DS × Nat) [2, 3, 4] (fun i => [(5, .c (.int .i64 i.2))]) (fun i => [.vr (default : St).cells, .vr i.1.1.cells, i.1.2.wobj, .vr (i.1.2.cellsK 2)]) (fun i => i.2 ≤ c.queues.toNat ∧ i.1.1.ok ∧ Gs c (300 + i.2) (5 * i.2) i.1.2) (fun i => c.queues.toNat - i.2) ((d1, s1), 0) ⟨Nat.zero_le _, hd1, h0⟩ ?_ ?_
 ·exact Mv.k0
 ·rintro ⟨⟨d2, s2⟩, i⟩ ⟨hi, hd2, h2⟩
  have hi : i ≤ c.queues.toNat := hi
  have hd2 : d2.ok := hd2
  have h2 : Gs c (300 + i) (5 * i) s2 := h2
  have hcq : s2.cfg.queues = c.queues := by rw [h2.gd.cfg]
  refine Go0 ?_
  rw [hcq]
  refine Br.of (fun h3=>Go0 ?_) (fun h3=>Go0 ?_)
  ·have w0 := Qa (↑i + 1) om om
   refine CallN.autoQ [1] Ql (Qm d2 hd2 3) (Go0 ?_)
   have hx := d2.next_range (n := 3) om om
   have hd3 := hd2.step
   refine Lp.mkK hΓ (ι := DS × Nat) [2, 3, 4, 5] (fun j => [(6, .c (.int .i64 (d2.next 3 - j.2)))]) (fun i => [.vr (default : St).cells, .vr i.1.1.cells, i.1.2.wobj, .vr (i.1.2.cellsK 2)]) (fun j => j.2 ≤ (d2.next 3).toNat ∧ j.1.1.ok ∧ Gs c (300 + i) (5 * i + 2 * j.2) j.1.2) (fun j => (d2.next 3).toNat - j.2) ((d2.step, s2), 0) ⟨Nat.zero_le _, hd3, h2⟩ ?_ ?_
   ·exact Mv.k0
   ·rintro ⟨⟨d4, s4⟩, j⟩ ⟨hj, hd4, h4⟩
    have hj : j ≤ (d2.next 3).toNat := hj
    have hd4 : d4.ok := hd4
    have h4 : Gs c (300 + i) (5 * i + 2 * j) s4 := h4
    have hsm4 := h4.small om
    refine Go0 ?_
    refine Br.of (fun h5=>Go0 ?_) (fun h5=>Go0 ?_)
    ·have w1 := Qa (d2.next 3 - ↑j - 1) om om
     refine Dr.mkE hΓ hMix [25, 35, 8589934627] [(0, 6), (1, 6), (10, 11)] (by kernel_rfl) (Go0 ?_)
     refine CallE.autoQ [1] QmM (Qny d4 hd4 s4.cfg.blocks) (Go0 ?_)
     refine CallF.autoI [2] Qkq (QkC s4 hsm4 i (cmdM d4 s4.cfg.blocks)) plh (Go0 ?_)
     have hw : (QI s4 i (cmdM d4 s4.cfg.blocks)).1.works = s4.works := Qhd _ _ _
     refine ⟨((cmdD d4 s4.cfg.blocks, (QI s4 i (cmdM d4 s4.cfg.blocks)).1), j + 1), ⟨by show j + 1 ≤ (d2.next 3).toNat; omega, QpE hd4, h4.submit i _⟩, by show (d2.next 3).toNat - (j + 1) < (d2.next 3).toNat - j; omega, ?_⟩
     refine Mv.mkW ?_ ?_ leN <;> (first|exact wb0|refine wb1 ?_|refine wb2 ?_ ?_|refine wb3 ?_ ?_ ?_|refine wb4 ?_ ?_ ?_ ?_)
     ·refine WO.arr (congrArg List.length hw).symm fun i _ j _ => ?_
      show WC _ _ (wrkG s4.works i j) (wrkG (QI s4 _ (cmdM d4 s4.cfg.blocks)).1.works i j)
      rw [hw]
      exact WC.imm (Qj _ _)
     all_goals exact WC.slA (hl := congrArg List.length hw.symm) (ht := congrArg List.length hw.symm)
    ·have h4 : Gs c (300 + i) (5 * i + 4) s4 := h4.weak (Int.le_refl _) om
     have hql := h4.len
     refine CallN.autoQ [1] Ql (Qm d4 hd4 4) (Go0 ?_)
     have hd5 := hd4.step
     by_cases c1 : d4.next 4 > 0
     ·refine Br.yes (decide_eq_true c1) (Go0 ?_)
      have hbg := Qme s4 hsm4 i
      have h5 : Gs c (300 + i) (5 * i + 5) (Qn false s4 i).1 := h4.begin i
      have hql5 := h5.len
      by_cases hA : begA s4 i = true
      ·simp only [if_pos hA] at hbg
       refine CallN.autoI [2] Qg3 hbg plh (Go0 ?_)
       generalize (Qn false s4 i).1 = s5 at *
       refine CallN.exI [1, 4] Qhn (QhD c (300 + i) (5 * i + 5) d4.step hd5 s5 h5 om om i om) (fun r => by obtain ⟨b, p, o⟩ := r; cases b <;> (simp only [cond]; exact plh)) (fun r hr => ?_)
       obtain ⟨b, ⟨d6, s6⟩, o⟩ := r
       obtain ⟨hd6, h6⟩ := hr
       have h6 : Gs c (300 + i + 1) (5 * i + 5) s6 := h6
       have hd6 : d6.ok := hd6
       cases b with
       | true =>
        refine Go0 ?_
        refine ⟨((d6, s6), i + 1), ⟨by show i + 1 ≤ c.queues.toNat; omega, hd6, h6.weak (by show (300 : Int) + i + 1 ≤ 300 + ((i + 1 : Nat) : Int); omega) (by show 5 * i + 5 ≤ 5 * (i + 1); omega)⟩, by show c.queues.toNat - (i + 1) < c.queues.toNat - i; omega, ?_⟩
        exact Mv.renW [0, 1, 5, 3] (by decide) (fun i hi => absurd hi (Nat.not_lt_zero _)) (Nat.zero_le _) wb0 wb0
       | false =>
        refine Go0 ?_
        refine ⟨((d6, s6), i + 1), ⟨by show i + 1 ≤ c.queues.toNat; omega, hd6, h6.weak (by show (300 : Int) + i + 1 ≤ 300 + ((i + 1 : Nat) : Int); omega) (by show 5 * i + 5 ≤ 5 * (i + 1); omega)⟩, by show c.queues.toNat - (i + 1) < c.queues.toNat - i; omega, ?_⟩
        exact Mv.renW [0, 1, 4, 3] (by decide) (fun i hi => absurd hi (Nat.not_lt_zero _)) (Nat.zero_le _) wb0 wb0
      ·simp only [if_neg hA] at hbg
       have hw5 := Qoc (Qg hA)
       have hwo : s4.wobj = (Qn false s4 i).1.wobj := by unfold St.wobj; rw [hw5]
       rw [hwo] at hbg
       refine CallN.autoI [2] Qg3 hbg plh (h := by
        refine WR.cons rfl (WO.arr (congrArg List.length hw5).symm fun i _ j _ => ?_) WR.nil
        show WC _ _ (wrkG s4.works i j) (wrkG (Qn false s4 _).1.works i j)
        rw [hw5]
        exact WC.imm (Qj _ _)) (ha := by
        (repeat' (first | exact WA.nil | refine WA.cons rfl ?_ ?_ | exact WB.nil | refine WB.cons ?_ ?_ | exact WT.nil | refine WT.cons ?_ ?_ | exact WH.nil | refine WH.cons ?_ ?_ | exact WR.nil | refine WR.cons rfl ?_ ?_ | refine WO.vr ?_ | exact WO.dead | exact WO.mpS | refine WO.mpA ?_ | exact WO.arrPA (fun i j => Qb _ _ _) | refine WO.arrA ?_ | exact WS.u | refine WS.c ?_ | refine WS.a ?_ | refine WS.t ?_ | exact WL.nil | refine WL.cons ?_ ?_ | exact WTL.nil | refine WTL.consC ?_ ?_ | refine WTL.consL ?_ ?_ | exact WC.nils | exact WC.nil rfl | exact WC.nilp | refine WC.fzA | exact WC.ptr rfl leN | exact WC.mpr rfl leN | refine WC.slA | refine WC.intA | refine WC.int ?_ | refine WC.boolA | refine WC.bool ?_ | refine WC.strA | refine WC.str ?_ | exact WC.imm rfl))
        all_goals exact WC.slA (hl := congrArg List.length hw5.symm) (ht := congrArg List.length hw5.symm)) ?_
       refine Go0 ?_
       generalize (Qn false s4 i).1 = s5 at *
       refine CallN.exI [1, 2] Qhn (QhD c (300 + i) (5 * i + 5) d4.step hd5 s5 h5 om om i om) (fun r => by obtain ⟨b, p, o⟩ := r; cases b <;> (simp only [cond]; exact plh)) (fun r hr => ?_)
       obtain ⟨b, ⟨d6, s6⟩, o⟩ := r
       obtain ⟨hd6, h6⟩ := hr
       have h6 : Gs c (300 + i + 1) (5 * i + 5) s6 := h6
       have hd6 : d6.ok := hd6
       cases b with
       | true =>
        refine Go0 ?_
        refine ⟨((d6, s6), i + 1), ⟨by show i + 1 ≤ c.queues.toNat; omega, hd6, h6.weak (by show (300 : Int) + i + 1 ≤ 300 + ((i + 1 : Nat) : Int); omega) (by show 5 * i + 5 ≤ 5 * (i + 1); omega)⟩, by show c.queues.toNat - (i + 1) < c.queues.toNat - i; omega, ?_⟩
        exact Mv.renW [0, 1, 4, 3] (by decide) (fun i hi => absurd hi (Nat.not_lt_zero _)) (Nat.zero_le _) wb0 wb0
       | false =>
        refine Go0 ?_
        refine ⟨((d6, s6), i + 1), ⟨by show i + 1 ≤ c.queues.toNat; omega, hd6, h6.weak (by show (300 : Int) + i + 1 ≤ 300 + ((i + 1 : Nat) : Int); omega) (by show 5 * i + 5 ≤ 5 * (i + 1); omega)⟩, by show c.queues.toNat - (i + 1) < c.queues.toNat - i; omega, ?_⟩
        exact Mv.renW [0, 1, 2, 3] (by decide) (fun i hi => absurd hi (Nat.not_lt_zero _)) (Nat.zero_le _) wb0 wb0
     ·refine Br.no (decide_eq_false c1) (Go0 ?_)
      have h5 : Gs c (300 + i) (5 * i + 5) s4 := h4.weak (Int.le_refl _) om
      have hql5 := h5.len
      generalize s4 = s5 at *
      refine CallN.exI [1, 2] Qhn (QhD c (300 + i) (5 * i + 5) d4.step hd5 s5 h5 om om i om) (fun r => by obtain ⟨b, p, o⟩ := r; cases b <;> (simp only [cond]; exact plh)) (fun r hr => ?_)
      obtain ⟨b, ⟨d6, s6⟩, o⟩ := r
      obtain ⟨hd6, h6⟩ := hr
      have h6 : Gs c (300 + i + 1) (5 * i + 5) s6 := h6
      have hd6 : d6.ok := hd6
      cases b with
      | true =>
       refine Go0 ?_
       refine ⟨((d6, s6), i + 1), ⟨by show i + 1 ≤ c.queues.toNat; omega, hd6, h6.weak (by show (300 : Int) + i + 1 ≤ 300 + ((i + 1 : Nat) : Int); omega) (by show 5 * i + 5 ≤ 5 * (i + 1); omega)⟩, by show c.queues.toNat - (i + 1) < c.queues.toNat - i; omega, ?_⟩
       exact Mv.renW [0, 1, 4, 3] (by decide) (fun i hi => absurd hi (Nat.not_lt_zero _)) (Nat.zero_le _) wb0 wb0
      | false =>
       refine Go0 ?_
       refine ⟨((d6, s6), i + 1), ⟨by show i + 1 ≤ c.queues.toNat; omega, hd6, h6.weak (by show (300 : Int) + i + 1 ≤ 300 + ((i + 1 : Nat) : Int); omega) (by show 5 * i + 5 ≤ 5 * (i + 1); omega)⟩, by show c.queues.toNat - (i + 1) < c.queues.toNat - i; omega, ?_⟩
       exact Mv.renW [0, 1, 2, 3] (by decide) (fun i hi => absurd hi (Nat.not_lt_zero _)) (Nat.zero_le _) wb0 wb0
  ·have : i = c.queues.toNat := by omega
   subst this
   have h2 : Gs c 400 50 s2 := h2.weak om om
   refine CallN.fzK 2 [2, 3, 4] [] [.vr (default : St).cells, .vr d2.cells, .dead, .vr s2.cells] [.c (.ptr 1 0), .a s2.cells] rfl (Nat.zero_le _) (fun i _ j _ => Qj _ _) wb0 wb0 wb0 (Nat.zero_le _) ?_
   refine CallN.exI [1] QpX (QqN c 400 50 d2 hd2 s2 h2 om om) (fun _ => plh) (fun r hr => ?_); conv=>whnf
   obtain ⟨d3, s3⟩ := r
   obtain ⟨hd3, h3⟩ := hr
   have hd3 : d3.ok := hd3
   have h3 : Gs c 400 50 s3 := h3
   refine Go0 ?_
   refine CallN.exI [1] QsR (Qr3 c 400 50 d3 hd3 s3 h3 om om) (fun _ => plh) (fun r hr => ?_); conv=>whnf
   obtain ⟨d4, s4⟩ := r
   obtain ⟨hd4, h4⟩ := hr
   have h4 : Gz s4 := h4
   refine Go0 ?_
   exact QeI (q := Gz) h4 (RM.immW rfl wb0)
theorem QmP : HB 10 := hB Tryz.func10
theorem n14w {p : Prop} (h : p := by (repeat' (first | exact WA.nil | refine WA.cons rfl ?_ ?_ | exact WB.nil | refine WB.cons ?_ ?_ | exact WT.nil | refine WT.cons ?_ ?_ | exact WH.nil | refine WH.cons ?_ ?_ | exact WR.nil | refine WR.cons rfl ?_ ?_ | refine WO.vr ?_ | exact WO.dead | exact WO.mpS | refine WO.mpA ?_ | exact WO.arrPA (fun i j => Qb _ _ _) | refine WO.arrA ?_ | exact WS.u | refine WS.c ?_ | refine WS.a ?_ | refine WS.t ?_ | exact WL.nil | refine WL.cons ?_ ?_ | exact WTL.nil | refine WTL.consC ?_ ?_ | refine WTL.consL ?_ ?_ | exact WC.nils | exact WC.nil rfl | exact WC.nilp | refine WC.fzA | exact WC.ptr rfl leN | exact WC.mpr rfl leN | refine WC.slA | refine WC.intA | refine WC.int ?_ | refine WC.boolA | refine WC.bool ?_ | refine WC.strA | refine WC.str ?_ | exact WC.imm rfl)) <;> first | exact fun i _ j _ => WC.fzI (QB _ _) | exact fun i _ j _ => WC.fzI (Qj _ _) | exact fun i _ j _ => WC.fzI (QaP _ _)) : p := h
set_option maxHeartbeats 4000000 in
theorem Qwh (s : St) (hs : s.small) (l : List Ent) (hall : Qu s.map = true → AllS s.map l) (q : Int) : PS 16 [.a s.cells, .c (.int .i64 q)] (.c (.bool (Qnb s q))) := by
 refine PSpec.rm ?_
 refine ov0 hΓ Tryz.func16 51 0 [.tmp 4] Tryz.ntmps16 Tryz.results16 ?_
 refine CallN.pureA QiV (QiW s hs l hall ) (Go0 ?_)
 by_cases hc : inQ s q = true ∧ (Qtl s q).state = 10
 ·obtain ⟨hv, h0, h1⟩ := inQ_iff.1 hc.1
  have hst : (s.works.getD q.toNat default).state = 10 := hc.2
  refine Br.no (by
   rw [hv, hst, decide_eq_false (show ¬ q < 0 by omega), decide_eq_false (show ¬ q ≥ (s.works.length : Int) by omega)]
   rfl) ?_
  refine Go0 ?_
  refine CallN.pureA Qjc (QjG s hs l hall ) (Go1 fun _h=>?_)
  rw [show Qj3 s = Qcu s.evs from if_pos hv]
  have hb : Qnb s q = (Qcu s.evs).any fun n => decide (n < (s.works.getD q.toNat default).req.serial) := by
   unfold Qnb
   rw [hc.1, decide_eq_true hc.2]
   rfl
  rw [hb]
  have hol : (Qcu s.evs).length ≤ 1000000 := Nat.le_trans (QdI _ _) hs.evs
  generalize (s.works.getD q.toNat default).req.serial = own at *
  generalize Qcu s.evs = o at *
  refine Lp.mkK hΓ (ι := Nat) [4, 5, 40, 41] (fun k => [(6, .c (.bool false)), (42, .c (.int .i64 k))]) (fun k => [.vr s.cells]) (fun k => k ≤ o.length ∧ ∀ i, i < k → ¬ o.getD i default < own) (fun k => o.length - k) 0 ⟨Nat.zero_le _, fun i hi => absurd hi (Nat.not_lt_zero _)⟩ ?_ ?_
  ·exact Mv.k0
  ·rintro k ⟨hk, hk2⟩
   refine Go0 ?_
   refine Br.of (fun h3=>?_) (fun h3=>?_)<;>(try simp only [Int.toNat_natCast] at h3)<;>refine Go0 ?_
   ·have w0 := Qa (↑k + 1) om om
    refine Br.of (fun h4=>?_) (fun h4=>?_)<;>(try simp only [Int.toNat_natCast] at h4)<;>refine Go0 ?_
    ·refine ⟨k + 1, ⟨om, QD hk2 om⟩, om, ?_⟩
     exact Mv.k0
    ·rw [Qxs (k := k) om om]
     exact RM.i0
   ·rw [Qxj hk2 om]
    exact RM.i0
 ·have hb : Qnb s q = false := by
   unfold Qnb
   cases h : inQ s q with
   | false => rfl
   | true => rw [decide_eq_false fun z => hc ⟨h, z⟩]; rfl
  rw [hb]
  refine Br.yes (Decidable.byContradiction fun z => hc (by
   have z := Qg z
   cases hv : Qz s with
   | false => rw [hv] at z; cases z
   | true =>
    simp [-List.getD_eq_getElem?_getD, hv] at z
    exact ⟨inQ_iff.2 ⟨hv, om, om⟩, by unfold Qtl; omega⟩)) ?_
  refine Go0 ?_
  exact RM.i0
theorem Qwg : HB 16 := hB Tryz.func16
theorem Qxz {l : List Wrk} {q : Nat} {st : Int} (hq : q < l.length) (i j : Nat) (hj : j < 12) : updG (wrkG l) q 0 [.int .i64 st] i j = wrkG (l.set q { l.getD q default with state := st }) i j := QsO hq i j hj
set_option maxHeartbeats 4000000 in
theorem Qwb (s : St) (hs : s.small) (l : List Ent) (hall : Qu s.map = true → AllS s.map l) (q : Int) : PS 14 [.a s.cells, .c (.int .i64 q)] (.t [.inr (barS s q).1.cells, .inl (.int .i64 (barS s q).2)]) := by
 refine PSpec.rm ?_
 refine ov0 hΓ Tryz.func14 76 0 [.cell 4 58, .tmp 5] Tryz.ntmps14 Tryz.results14 ?_
 refine CallN.autoI [] Qqp (Qrh s hs) plh (Go0 ?_)
 refine CallN.pureA QiV (QiW s hs l hall ) (Go0 ?_)
 by_cases hQ : inQ s q = true
 ·obtain ⟨hv, h0, h1⟩ := inQ_iff.1 hQ
  have h1' : q.toNat < s.works.length := by omega
  refine Br.no (by
   rw [hv, decide_eq_false (show ¬ q < 0 by omega), decide_eq_false (show ¬ q ≥ (s.works.length : Int) by omega)]
   rfl) ?_
  refine Go0 ?_
  refine Frc.mk (.c (.int .i64 (s.works.getD q.toNat default).state)) rfl (Go0 ?_)
  refine Frc.mk (.c (.int .i64 (s.works.getD q.toNat default).state)) rfl (Go0 ?_)
  by_cases hA : (Qtl s q).state = 10 ∨ (Qtl s q).state = 11
  ·have hA' : (s.works.getD q.toNat default).state = 10 ∨ (s.works.getD q.toNat default).state = 11 := hA
   have hb : barS s q = if Qnb s q = true then (s, 15) else if (Qtl s q).state = 10 then (s.setWork q.toNat { Qtl s q with state := 11 }, 0) else ((QdM { s with dev := Qbn s.dev } q 0 ByteArray.empty).1, 0) := if_pos ⟨hQ, hA⟩
   refine Br.no (by rcases hA' with z | z <;> rw [z] <;> rfl) ?_
   refine Go0 ?_
   refine CallN.pureA Qwg (Qwh s hs l hall q ) (Go0 ?_)
   by_cases hB : Qnb s q = true
   ·refine Br.yes hB (Go0 ?_)
    rw [hb, if_pos hB]
    refine RM.allT (FwT.consL (FwL.own (s := s) (a := 2) (b := 3) (c := 4) rfl rfl rfl) (FwT.consC (Fw.same rfl) FwT.nil))
   ·refine Br.no (Qg hB) (Go0 ?_)
    rw [if_neg hB] at hb
    refine Frc.mk (.c (.int .i64 (s.works.getD q.toNat default).state)) rfl (Go0 ?_)
    by_cases h10 : (s.works.getD q.toNat default).state = 10
    ·refine Br.yes (by rw [h10]; rfl) (Go0 ?_)
     rw [hb, if_pos (show (Qtl s q).state = 10 from h10)]
     refine RM.allT (FwT.consL (FwL.ownG (s.setWork q.toNat { Qtl s q with state := 11 }) (a := 2) (b := 3) (c := 4) rfl rfl rfl ?_ ?_ ?_ ?_ ?_ ?_) (FwT.consC (Fw.same rfl) FwT.nil))
     ·rfl
     ·exact size_set.symm
     ·rfl
     ·exact fun _ _ _ _ => rfl
     ·exact fun i _ j hj => Qxz h1' i j hj
     ·exact fun _ _ _ _ => rfl
    ·refine Br.no (by simpa [-List.getD_eq_getElem?_getD] using h10) ?_
     refine Go0 ?_
     refine CallN.pureA Qxa (Qxb s.dev hs.dev ) (Go0 ?_)
     refine Br.no (by rw [(validS_V.1 hv).parts.dev]; rfl) (Go0 ?_)
     refine CallN.fzK 2 [1, 4, 5, 6] [] [.vr s.cells, .vr (default : St).cells, .dead, .arr 68 12 s.works.length (wrkG s.works), .arr 94 8 s.evs.length (evG s.evs), .vr (St.cellsW { s with dev := Qbn s.dev } (rngC s.rings) (.sl 3 12 s.works.length s.works.length false) (.sl 4 8 s.evs.length s.evs.length false)), .vr [.int .i64 (Qbn s.dev).size, .int .i64 (Qbn s.dev).maxOpen, .int .i64 (Qbn s.dev).maxActive, Qc2 (Qbn s.dev).zones]] [.a (St.cellsW { s with dev := Qbn s.dev } (rngC s.rings) (.sl 3 12 s.works.length s.works.length false) (.sl 4 8 s.evs.length s.evs.length false)), .c (.int .i64 q), .a [.int .i64 0, .str ByteArray.empty]] rfl (Nat.zero_le _) (fun i _ j _ => QB _ _) n14w wb0 n14w (Nat.zero_le _) ?_
     refine CallN.fzK 3 [1, 4, 5, 6] [] [.vr s.cells, .vr (default : St).cells, .dead, .dead, .arr 94 8 s.evs.length (evG s.evs), .vr (St.cellsW { s with dev := Qbn s.dev } (rngC s.rings) (wrkC s.works) (.sl 4 8 s.evs.length s.evs.length false)), .vr [.int .i64 (Qbn s.dev).size, .int .i64 (Qbn s.dev).maxOpen, .int .i64 (Qbn s.dev).maxActive, Qc2 (Qbn s.dev).zones]] [.a (St.cellsW { s with dev := Qbn s.dev } (rngC s.rings) (wrkC s.works) (.sl 4 8 s.evs.length s.evs.length false)), .c (.int .i64 q), .a [.int .i64 0, .str ByteArray.empty]] rfl (Nat.zero_le _) (fun i _ j _ => Qj _ _) n14w wb0 n14w (Nat.zero_le _) ?_
     refine CallN.fzK 4 [1, 4, 5, 6] [] [.vr s.cells, .vr (default : St).cells, .dead, .dead, .dead, .vr (St.cellsW { s with dev := Qbn s.dev } (rngC s.rings) (wrkC s.works) (evC s.evs)), .vr [.int .i64 (Qbn s.dev).size, .int .i64 (Qbn s.dev).maxOpen, .int .i64 (Qbn s.dev).maxActive, Qc2 (Qbn s.dev).zones]] [.a (St.cellsW { s with dev := Qbn s.dev } (rngC s.rings) (wrkC s.works) (evC s.evs)), .c (.int .i64 q), .a [.int .i64 0, .str ByteArray.empty]] rfl (Nat.zero_le _) (fun i _ j _ => QaP _ _) n14w wb0 n14w (Nat.zero_le _) ?_
     refine CallN.pureA Qo1 (QoM { s with dev := Qbn s.dev } (Qw5 hs hv) l hall q 0 ByteArray.empty ) (Go0 ?_)
     rw [hb, if_neg (show ¬ (Qtl s q).state = 10 from h10)]
     exact RM.i0
  ·have hA' : ¬ ((s.works.getD q.toNat default).state = 10 ∨ (s.works.getD q.toNat default).state = 11) := hA
   refine Br.yes (Decidable.byContradiction fun z => hA' (by
    have z := Qg z
    simp [-List.getD_eq_getElem?_getD] at z
    omega)) ?_
   refine Go0 ?_
   rw [show barS s q = (s, 6) from if_neg fun z => hA z.2]
   refine RM.allT (FwT.consL (FwL.own (s := s) (a := 2) (b := 3) (c := 4) rfl rfl rfl) (FwT.consC (Fw.same rfl) FwT.nil))
 ·have hb : barS s q = (s, 6) := if_neg fun z => hQ z.1
  refine Br.yes (Decidable.byContradiction fun z => hQ (by
   have z := Qg z
   cases hv : Qz s with
   | false => rw [hv] at z; cases z
   | true =>
    simp [hv] at z
    exact inQ_iff.2 ⟨hv, om, om⟩)) ?_
  refine Go0 ?_
  rw [hb]
  refine RM.allT (FwT.consL (FwL.own (s := s) (a := 2) (b := 3) (c := 4) rfl rfl rfl) (FwT.consC (Fw.same rfl) FwT.nil))
theorem Qwc : HB 14 := hB Tryz.func14
def b2W : St := (Qn false s1W 0).1
def b3W : St := (barS b2W 0).1
def b4W : St := (barS b3W 0).1
theorem bk2 : Wk24 b2W := Qjw (by decide +kernel)
theorem bk3 : Wk24 b3W := Qjw (by decide +kernel)
theorem bf2 : (Qn false s1W 0).2 = true := by decide +kernel
theorem bf3 : (barS b2W 0).2 = 0 := by decide +kernel
theorem bf4 : (barS b3W 0).2 = 0 := by decide +kernel
theorem bf5 : b4W.evs.length = 2 := by decide +kernel
theorem bf6 : (b4W.evs.getD 1 default).ret = true := by decide +kernel
set_option maxHeartbeats 4000000 in
theorem Qwm : PS 9 [] (.c (.bool true)) := by
 have hn : PS 34 [.a (Qad dice0).cells] (.t [.inr s0W.cells, .inl (.int .i64 0)]) := QwH (Qad dice0) (QiM dice0)
 have hs := Qwx s0W w0.sm 0 fl0
 rw [show QI s0W 0 fl0 = (s1W, 0) by rw [← f1]; rfl] at hs
 have hb := QwG s1W w1.sm 0
 rw [show Qn false s1W 0 = (b2W, true) by rw [← bf2]; rfl] at hb
 have h3 := Qwb b2W bk2.sm [] bk2.all 0
 rw [show barS b2W 0 = (b3W, 0) by rw [← bf3]; rfl] at h3
 have h4 := Qwb b3W bk3.sm [] bk3.all 0
 rw [show barS b3W 0 = (b4W, 0) by rw [← bf4]; rfl] at h4
 have e5 := bf5
 have e6 := bf6
 generalize s0W = s0 at *
 generalize s1W = s1 at *
 generalize b2W = s2 at *
 generalize b3W = s3 at *
 generalize b4W = s4 at *
 refine PSpec.rm ?_
 refine ov0 hΓ Tryz.func9 51 0 [.tmp 0] Tryz.ntmps9 Tryz.results9 ?_
 refine CallN.autoQ [] QkY (Qla [] (Nat.zero_le _)) (Go0 ?_)
 refine CallN.autoQ [0] QjS (QjZ dice0 QtF) (Go0 ?_)
 refine CallN.pureA QwI hn (Go0 ?_)
 refine CallN.pureA Qwv hs (Go0 ?_)
 refine CallN.pureA QwB hb (Go0 ?_)
 refine CallN.pureA Qwc h3 (Go0 ?_)
 refine CallN.pureA Qwc h4 (Go0 ?_)
 refine RM.i1 ?_
 dsimp only
 rw [e5, show (Int.toNat 1) = 1 from rfl, e6]
 rfl
theorem Qwk : HB 9 := hB Tryz.func9
end Go.Proofs
end
