/- Contracts, lemmas; no condition. -/
import Derived.Test.YtmollgldghpbkaaGreatNF
import Derived.Test.YtmollgldghpbkaaGreatND
import Derived.Test.YtmollgldghpbkaaGreatEvB
import Derived.Test.YtmollgldghpbkaaGreatGG
import Derived.Test.YtmollgldghpbkaaGreatStB
import Derived.Test.YtmollgldghpbkaaGreatF5
import Derived.Test.YtmollgldghpbkaaGreatCtI
import Derived.Test.YtmollgldghpbkaaGreatAmF
set_option linter.all false
section
open Go Go.Am
namespace Go.Proofs
set_option maxRecDepth 20000
theorem Qoc {s : St} {q : Int} (h : begA s q = false) : (Qn false s q).1.works = s.works := by
 unfold Qn
 dsimp only
 split
 ·rename_i h1
  split
  ·rename_i h2
   split
   ·rename_i h3
    rw [begA_iff.2 ⟨h1, h2, h3⟩] at h
    cases h
   ·rfl
  ·rfl
 ·rfl
set_option maxHeartbeats 8000000 in
theorem QmD (l : List Int) (hl : l.length ≤ 300) : CS 10 [.c (Qi l)] [] fun x H => ∃ s : St, Gz s ∧ x = .a s.cells ∧ H = [] := by
 have hd0 : (DiceM.mk l 0).ok := ⟨Nat.zero_le _, by show l.length ≤ 10000000; omega⟩
 refine CSpec.rm ?_
 refine ov0 hΓ Tryz.func10 54 0 [.cell 2 58] Tryz.ntmps10 Tryz.results10 ?_
 refine CallN.autoI [] QkY (Qla l om) plh (Go0 ?_)
 generalize DiceM.mk l 0 = d0 at *
 refine CallN.exI [1] Qrv (QpP d0 hd0) (fun _ => plh) (fun i hi => ?_); conv=>whnf
 obtain ⟨c, d1, s1⟩ := i
 obtain ⟨⟨dx, hcx⟩, hd1, h1⟩ := hi
 refine Go0 ?_
 have hb := Qhj dx
 rw [← show c = Qad dx from hcx] at hb
 have h1 : Gq c 300 32 s1 := h1
 have h0 := h1.gs (by decide)
 have hd1 : d1.ok := hd1
 have hcf := confR_iff.1 (Qv h1.gd.conf).1
 refine Lp.mkK hΓ (ι := DS × Nat) [2, 3, 4] (fun i => [(5, .c (.int .i64 i.2))]) (fun i => [.vr (default : St).cells, .vr i.1.1.cells, i.1.2.wobj, .vr (i.1.2.cellsK 2)]) (fun i => i.2 ≤ c.queues.toNat ∧ i.1.1.ok ∧ Gs c (300 + i.2) (5 * i.2) i.1.2) (fun i => c.queues.toNat - i.2) ((d1, s1), 0) ⟨Nat.zero_le _, hd1, h0⟩ ?_ ?_
 ·exact Mv.k0
 ·rintro ⟨⟨d2, s2⟩, i⟩ ⟨hi, hd2, h2⟩
  have hi : i ≤ c.queues.toNat := hi
  have hd2 : d2.ok := hd2
  have h2 : Gs c (300 + i) (5 * i) s2 := h2
  have hcq : s2.cfg.queues = c.queues := by rw [h2.gd.cfg]
  refine Go0 ?_
  rw [hcq]
  refine Br.of (fun h3=>Go0 ?_) (fun h3=>Go0 ?_)
  ·have w0 := Qa (↑i + 1) om om
   refine CallN.autoQ [1] Ql (Qm d2 hd2 3) (Go0 ?_)
   have hx := d2.next_range (n := 3) om om
   have hd3 := hd2.step
   refine Lp.mkK hΓ (ι := DS × Nat) [2, 3, 4, 5] (fun j => [(6, .c (.int .i64 (d2.next 3 - j.2)))]) (fun i => [.vr (default : St).cells, .vr i.1.1.cells, i.1.2.wobj, .vr (i.1.2.cellsK 2)]) (fun j => j.2 ≤ (d2.next 3).toNat ∧ j.1.1.ok ∧ Gs c (300 + i) (5 * i + 2 * j.2) j.1.2) (fun j => (d2.next 3).toNat - j.2) ((d2.step, s2), 0) ⟨Nat.zero_le _, hd3, h2⟩ ?_ ?_
   ·exact Mv.k0
   ·rintro ⟨⟨d4, s4⟩, j⟩ ⟨hj, hd4, h4⟩
    have hj : j ≤ (d2.next 3).toNat := hj
    have hd4 : d4.ok := hd4
    have h4 : Gs c (300 + i) (5 * i + 2 * j) s4 := h4
    have hsm4 := h4.small om
    refine Go0 ?_
    refine Br.of (fun h5=>Go0 ?_) (fun h5=>Go0 ?_)
    ·have w1 := Qa (d2.next 3 - ↑j - 1) om om
     refine Dr.mkE hΓ hMix [25, 35, 8589934627] [(0, 6), (1, 6), (10, 11)] (by kernel_rfl) (Go0 ?_)
     refine CallE.autoQ [1] QmM (Qny d4 hd4 s4.cfg.blocks) (Go0 ?_)
     refine CallF.autoI [2] Qkq (QkC s4 hsm4 i (cmdM d4 s4.cfg.blocks)) plh (Go0 ?_)
     have hw : (QI s4 i (cmdM d4 s4.cfg.blocks)).1.works = s4.works := Qhd _ _ _
     refine ⟨((cmdD d4 s4.cfg.blocks, (QI s4 i (cmdM d4 s4.cfg.blocks)).1), j + 1), ⟨by show j + 1 ≤ (d2.next 3).toNat; omega, QpE hd4, h4.submit i _⟩, by show (d2.next 3).toNat - (j + 1) < (d2.next 3).toNat - j; omega, ?_⟩
     refine Mv.mkW ?_ ?_ leN <;> (first|exact wb0|refine wb1 ?_|refine wb2 ?_ ?_|refine wb3 ?_ ?_ ?_|refine wb4 ?_ ?_ ?_ ?_)
     ·refine WO.arr (congrArg List.length hw).symm fun i _ j _ => ?_
      show WC _ _ (wrkG s4.works i j) (wrkG (QI s4 _ (cmdM d4 s4.cfg.blocks)).1.works i j)
      rw [hw]
      exact WC.imm (Qj _ _)
     all_goals exact WC.slA (hl := congrArg List.length hw.symm) (ht := congrArg List.length hw.symm)
    ·have h4 : Gs c (300 + i) (5 * i + 4) s4 := h4.weak (Int.le_refl _) om
     have hql := h4.len
     refine CallN.autoQ [1] Ql (Qm d4 hd4 4) (Go0 ?_)
     have hd5 := hd4.step
     by_cases c1 : d4.next 4 > 0
     ·refine Br.yes (decide_eq_true c1) (Go0 ?_)
      have hbg := Qme s4 hsm4 i
      have h5 : Gs c (300 + i) (5 * i + 5) (Qn false s4 i).1 := h4.begin i
      have hql5 := h5.len
      by_cases hA : begA s4 i = true
      ·simp only [if_pos hA] at hbg
       refine CallN.autoI [2] Qg3 hbg plh (Go0 ?_)
       generalize (Qn false s4 i).1 = s5 at *
       refine CallN.exI [1, 4] Qhn (QhD c (300 + i) (5 * i + 5) d4.step hd5 s5 h5 om om i om) (fun r => by obtain ⟨b, p, o⟩ := r; cases b <;> (simp only [cond]; exact plh)) (fun r hr => ?_)
       obtain ⟨b, ⟨d6, s6⟩, o⟩ := r
       obtain ⟨hd6, h6⟩ := hr
       have h6 : Gs c (300 + i + 1) (5 * i + 5) s6 := h6
       have hd6 : d6.ok := hd6
       cases b with
       | true =>
        refine Go0 ?_
        refine ⟨((d6, s6), i + 1), ⟨by show i + 1 ≤ c.queues.toNat; omega, hd6, h6.weak (by show (300 : Int) + i + 1 ≤ 300 + ((i + 1 : Nat) : Int); omega) (by show 5 * i + 5 ≤ 5 * (i + 1); omega)⟩, by show c.queues.toNat - (i + 1) < c.queues.toNat - i; omega, ?_⟩
        exact Mv.renW [0, 1, 5, 3] (by decide) (fun i hi => absurd hi (Nat.not_lt_zero _)) (Nat.zero_le _) wb0 wb0
       | false =>
        refine Go0 ?_
        refine ⟨((d6, s6), i + 1), ⟨by show i + 1 ≤ c.queues.toNat; omega, hd6, h6.weak (by show (300 : Int) + i + 1 ≤ 300 + ((i + 1 : Nat) : Int); omega) (by show 5 * i + 5 ≤ 5 * (i + 1); omega)⟩, by show c.queues.toNat - (i + 1) < c.queues.toNat - i; omega, ?_⟩
        exact Mv.renW [0, 1, 4, 3] (by decide) (fun i hi => absurd hi (Nat.not_lt_zero _)) (Nat.zero_le _) wb0 wb0
      ·simp only [if_neg hA] at hbg
       have hw5 := Qoc (Qg hA)
       have hwo : s4.wobj = (Qn false s4 i).1.wobj := by unfold St.wobj; rw [hw5]
       rw [hwo] at hbg
       refine CallN.autoI [2] Qg3 hbg plh (h := by
        refine WR.cons rfl (WO.arr (congrArg List.length hw5).symm fun i _ j _ => ?_) WR.nil
        show WC _ _ (wrkG s4.works i j) (wrkG (Qn false s4 _).1.works i j)
        rw [hw5]
        exact WC.imm (Qj _ _)) (ha := by
        (repeat' (first | exact WA.nil | refine WA.cons rfl ?_ ?_ | exact WB.nil | refine WB.cons ?_ ?_ | exact WT.nil | refine WT.cons ?_ ?_ | exact WH.nil | refine WH.cons ?_ ?_ | exact WR.nil | refine WR.cons rfl ?_ ?_ | refine WO.vr ?_ | exact WO.dead | exact WO.mpS | refine WO.mpA ?_ | exact WO.arrPA (fun i j => Qb _ _ _) | refine WO.arrA ?_ | exact WS.u | refine WS.c ?_ | refine WS.a ?_ | refine WS.t ?_ | exact WL.nil | refine WL.cons ?_ ?_ | exact WTL.nil | refine WTL.consC ?_ ?_ | refine WTL.consL ?_ ?_ | exact WC.nils | exact WC.nil rfl | exact WC.nilp | refine WC.fzA | exact WC.ptr rfl leN | exact WC.mpr rfl leN | refine WC.slA | refine WC.intA | refine WC.int ?_ | refine WC.boolA | refine WC.bool ?_ | refine WC.strA | refine WC.str ?_ | exact WC.imm rfl))
        all_goals exact WC.slA (hl := congrArg List.length hw5.symm) (ht := congrArg List.length hw5.symm)) ?_
       refine Go0 ?_
       generalize (Qn false s4 i).1 = s5 at *
       refine CallN.exI [1, 2] Qhn (QhD c (300 + i) (5 * i + 5) d4.step hd5 s5 h5 om om i om) (fun r => by obtain ⟨b, p, o⟩ := r; cases b <;> (simp only [cond]; exact plh)) (fun r hr => ?_)
       obtain ⟨b, ⟨d6, s6⟩, o⟩ := r
       obtain ⟨hd6, h6⟩ := hr
       have h6 : Gs c (300 + i + 1) (5 * i + 5) s6 := h6
       have hd6 : d6.ok := hd6
       cases b with
       | true =>
        refine Go0 ?_
        refine ⟨((d6, s6), i + 1), ⟨by show i + 1 ≤ c.queues.toNat; omega, hd6, h6.weak (by show (300 : Int) + i + 1 ≤ 300 + ((i + 1 : Nat) : Int); omega) (by show 5 * i + 5 ≤ 5 * (i + 1); omega)⟩, by show c.queues.toNat - (i + 1) < c.queues.toNat - i; omega, ?_⟩
        exact Mv.renW [0, 1, 4, 3] (by decide) (fun i hi => absurd hi (Nat.not_lt_zero _)) (Nat.zero_le _) wb0 wb0
       | false =>
        refine Go0 ?_
        refine ⟨((d6, s6), i + 1), ⟨by show i + 1 ≤ c.queues.toNat; omega, hd6, h6.weak (by show (300 : Int) + i + 1 ≤ 300 + ((i + 1 : Nat) : Int); omega) (by show 5 * i + 5 ≤ 5 * (i + 1); omega)⟩, by show c.queues.toNat - (i + 1) < c.queues.toNat - i; omega, ?_⟩
        exact Mv.renW [0, 1, 2, 3] (by decide) (fun i hi => absurd hi (Nat.not_lt_zero _)) (Nat.zero_le _) wb0 wb0
     ·refine Br.no (decide_eq_false c1) (Go0 ?_)
      have h5 : Gs c (300 + i) (5 * i + 5) s4 := h4.weak (Int.le_refl _) om
      have hql5 := h5.len
      generalize s4 = s5 at *
      refine CallN.exI [1, 2] Qhn (QhD c (300 + i) (5 * i + 5) d4.step hd5 s5 h5 om om i om) (fun r => by obtain ⟨b, p, o⟩ := r; cases b <;> (simp only [cond]; exact plh)) (fun r hr => ?_)
      obtain ⟨b, ⟨d6, s6⟩, o⟩ := r
      obtain ⟨hd6, h6⟩ := hr
      have h6 : Gs c (300 + i + 1) (5 * i + 5) s6 := h6
      have hd6 : d6.ok := hd6
      cases b with
      | true =>
       refine Go0 ?_
       refine ⟨((d6, s6), i + 1), ⟨by show i + 1 ≤ c.queues.toNat; omega, hd6, h6.weak (by show (300 : Int) + i + 1 ≤ 300 + ((i + 1 : Nat) : Int); omega) (by show 5 * i + 5 ≤ 5 * (i + 1); omega)⟩, by show c.queues.toNat - (i + 1) < c.queues.toNat - i; omega, ?_⟩
       exact Mv.renW [0, 1, 4, 3] (by decide) (fun i hi => absurd hi (Nat.not_lt_zero _)) (Nat.zero_le _) wb0 wb0
      | false =>
       refine Go0 ?_
       refine ⟨((d6, s6), i + 1), ⟨by show i + 1 ≤ c.queues.toNat; omega, hd6, h6.weak (by show (300 : Int) + i + 1 ≤ 300 + ((i + 1 : Nat) : Int); omega) (by show 5 * i + 5 ≤ 5 * (i + 1); omega)⟩, by show c.queues.toNat - (i + 1) < c.queues.toNat - i; omega, ?_⟩
       exact Mv.renW [0, 1, 2, 3] (by decide) (fun i hi => absurd hi (Nat.not_lt_zero _)) (Nat.zero_le _) wb0 wb0
  ·have : i = c.queues.toNat := by omega
   subst this
   have h2 : Gs c 400 50 s2 := h2.weak om om
   refine CallN.fzK 2 [2, 3, 4] [] [.vr (default : St).cells, .vr d2.cells, .dead, .vr s2.cells] [.c (.ptr 1 0), .a s2.cells] rfl (Nat.zero_le _) (fun i _ j _ => Qj _ _) wb0 wb0 wb0 (Nat.zero_le _) ?_
   refine CallN.exI [1] QpX (QqN c 400 50 d2 hd2 s2 h2 om om) (fun _ => plh) (fun r hr => ?_); conv=>whnf
   obtain ⟨d3, s3⟩ := r
   obtain ⟨hd3, h3⟩ := hr
   have hd3 : d3.ok := hd3
   have h3 : Gs c 400 50 s3 := h3
   refine Go0 ?_
   refine CallN.exI [1] QsR (Qr3 c 400 50 d3 hd3 s3 h3 om om) (fun _ => plh) (fun r hr => ?_); conv=>whnf
   obtain ⟨d4, s4⟩ := r
   obtain ⟨hd4, h4⟩ := hr
   have h4 : Gz s4 := h4
   refine Go0 ?_
   exact QeI (q := Gz) h4 (RM.immW rfl wb0)
theorem QmP : HB 10 := hB Tryz.func10
end Go.Proofs
end
