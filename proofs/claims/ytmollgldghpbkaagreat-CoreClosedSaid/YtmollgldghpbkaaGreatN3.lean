/- Contracts, lemmas; no condition. -/
import Derived.Test.YtmollgldghpbkaaGreatGG
import Derived.Test.YtmollgldghpbkaaGreatStB
import Derived.Test.YtmollgldghpbkaaGreatNA
import Derived.Test.YtmollgldghpbkaaGreatKs
set_option linter.all false
section
open Go Go.Am
namespace Go.Proofs
set_option maxRecDepth 20000
theorem Qhp {c : Conf} {n : Int} {r : Nat} {s : St} (h : Gq c n r s) : (allS s.map).length ≤ 100000 := Qld h.gd.val
set_option maxHeartbeats 8000000 in
theorem Qp7 (c : Conf) (n : Int) (r : Nat) (d : DiceM) (hd : d.ok) (s : St) (h : Gq c n r s) (hn : n + c.size ≤ 100000) (hr : r ≤ 1000) : CS 92 [.c (.ptr 0 0), .a (s.cellsK 1)] [.vr d.cells, s.wobj] fun x H => ∃ i : DS, (i.1.ok ∧ Gq c (n + c.size) r i.2) ∧ x = .a (i.2.cellsK 1) ∧ H = [.vr i.1.cells, i.2.wobj] := by
 have hcf := confR_iff.1 (Qv h.gd.conf).1
 have hsm := h.small om
 refine CSpec.rm ?_
 refine ov hΓ Tryz.func92 107 2 [.cell 4 58] Tryz.ntmps92 Tryz.results92 ?_
 refine Go1 fun _h=>?_
 refine CallG.autoQ [0] Ql (Qm d hd 4) (fun hg => ?_) (fun hg => ?_) <;> (conv=>whnf)
 ·refine Go0 ?_
  have hf : 0 < s.free.length := by simpa using hg
  rw [decide_eq_true (p := ((s.free.length : Int) > 0)) om]
  by_cases c1 : d.next 4 > 0
  ·refine Br.yes (decide_eq_true c1) (Go0 ?_)
   refine CallN.pureA QcH (QcB s.free (s.free.getD 0 default) hsm.free ) (Go0 ?_)
   refine CallN.autoQ [0] Ql (Qm d.step hd.step s.cfg.size) (Go0 ?_)
   have hx := d.step.next_range (n := s.cfg.size) (by rw [h.gd.cfg]; omega) (by rw [h.gd.cfg]; omega)
   have hcs : s.cfg.size = c.size := by rw [h.gd.cfg]
   refine Lp.mkK hΓ (ι := DS × Nat) [0, 3, 4, 5] (fun i => [(6, .c (.int .i64 (d.step.next s.cfg.size - i.2)))]) (fun i => [.vr i.1.1.cells, i.1.2.wobj, .vr (i.1.2.cellsK 1), .vr (default : St).cells]) (fun i => i.2 ≤ (d.step.next s.cfg.size).toNat ∧ i.1.1.ok ∧ Gq c (n + i.2) r i.1.2) (fun i => (d.step.next s.cfg.size).toNat - i.2) ((d.step.step, { (s.unfree (s.free.getD 0 default)) with host := s.free.getD 0 default }), 0) ⟨Nat.zero_le _, hd.step.step, (h.setHost hf).weak (by simp) (Nat.le_refl _)⟩ ?_ ?_
   ·exact Mv.k0
   ·rintro ⟨⟨d1, s1⟩, k⟩ ⟨hk, hd1, h1⟩
    have h1 : Gq c (n + k) r s1 := h1
    have hk : k ≤ (d.step.next s.cfg.size).toNat := hk
    have hd1 : d1.ok := hd1
    have hsm1 := h1.small om
    have hp1 := h1.gd.val.parts.next
    have hp2 := h1.gd.next
    refine Go0 ?_
    refine Br.of (fun h3=>Go0 ?_) (fun h3=>Go1 fun _h=>?_)
    ·have w0 := Qa (d.step.next s.cfg.size - k - 1) om om
     have hb := QeJ h1.gd.conf
     refine CallN.autoI [0, 1] QjW (Qjm d1 hd1 s1 ⟨om, om⟩) plh (Go0 ?_)
     refine CallN.autoI [1] Qi6 (Qjk s1.bump ((h1.bump om).small om) (s.free.getD 0 default) (recR d1 s1.cfg.blocks s1.next)) plh (Go0 ?_)
     refine ⟨((recD d1, s1.bump.add (s.free.getD 0 default) (recR d1 s1.cfg.blocks s1.next)), k + 1), ⟨by show k + 1 ≤ (d.step.next s.cfg.size).toNat; omega, QpB hd1, ?_⟩, by show (d.step.next s.cfg.size).toNat - (k + 1) < (d.step.next s.cfg.size).toNat - k; omega, ?_⟩
     ·exact ((h1.bump om).add _ (by rw [h1.gd.cfg]; exact (QgM _ hb.1 hb.2).2)).weak (by show n + k + 1 ≤ n + ((k + 1 : Nat) : Int); omega) (Nat.le_refl _)
     ·exact Mv.k0
    ·have : k = (d.step.next s.cfg.size).toNat := by omega
     have h1 : Gq c (n + c.size) r s1 := h1.weak om (Nat.le_refl _)
     have hsb := Gq.small h1 om
     refine CallG.autoQ [0] Ql (Qm d1 hd1 3) (fun hg => ?_) (fun hg => ?_) <;> (conv=>whnf)
     ·refine Go0 ?_
      have hf : 0 < (s1).free.length := by simpa using hg
      rw [decide_eq_true (p := (((s1).free.length : Int) > 0)) om]
      by_cases c2 : (d1).next 3 > 0
      ·refine Br.yes (decide_eq_true c2) (Go0 ?_)
       refine CallN.pureA QcH (QcB (s1).free ((s1).free.getD 0 default) hsb.free ) (Go0 ?_)
       refine CallN.pureA Qeg (Qd7 (s1).map hsb.shard hsb.map ) (Go0 ?_)
       refine Lp.mkK hΓ (ι := DS × Nat) [0, 3, 4, 9, 10] (fun i => [(11, .c (.int .i64 i.2))]) (fun i => [.vr i.1.1.cells, i.1.2.wobj, .vr (i.1.2.cellsK 1), .vr (default : St).cells]) (fun i => i.2 ≤ (allS (s1).map).length ∧ i.1.1.ok ∧ Gq c (n + c.size) r i.1.2) (fun i => (allS (s1).map).length - i.2) (((d1).step, { ((s1).unfree ((s1).free.getD 0 default)) with lane := (s1).free.getD 0 default }), 0) ⟨Nat.zero_le _, DiceM.ok.step hd1, Gq.setLane h1 hf⟩ ?_ ?_
       ·exact Mv.k0
       ·rintro ⟨⟨d2, s2⟩, k⟩ ⟨hk, hd2, h2⟩
        have h2 : Gq c (n + c.size) r s2 := h2
        have hk : k ≤ (allS (s1).map).length := hk
        have hd2 : d2.ok := hd2
        have hl := Qhp h1
        refine Go1 fun _h=>?_
        refine CallG.autoQ [0] Ql (Qm d2 hd2 s2.cfg.size) (fun hg => ?_) (fun hg => ?_) <;> (conv=>whnf)
        ·refine Go0 ?_
         have hk2 : k < (allS (s1).map).length := by simpa using hg
         rw [decide_eq_true (p := ((k : Int) < ((allS (s1).map).length : Int))) om]
         by_cases c3 : (k : Int) < d2.next s2.cfg.size
         ·refine Br.yes (decide_eq_true c3) (Go0 ?_)
          have w0 := Qa (↑k + 1) om om
          refine Dr.mkE hΓ hMix [163, 8589934755] [] (by kernel_rfl) (Go0 ?_)
          refine CallF.autoI [1] QfN (Qfz s2 (h2.small om) ((allS (s1).map).getD k default) ((s1).free.getD 0 default)) plh (Go0 ?_)
          refine ⟨((d2.step, s2.copied ((allS (s1).map).getD k default) ((s1).free.getD 0 default)), k + 1), ⟨hk2, hd2.step, h2.copied _ _⟩, by show (allS (s1).map).length - (k + 1) < (allS (s1).map).length - k; omega, ?_⟩
          have hw : (s2.copied ((allS (s1).map).getD k default) ((s1).free.getD 0 default)).works = s2.works := QcK _ _ _
          refine Mv.mkW ?_ ?_ leN <;> (first|exact wb0|refine wb1 ?_|refine wb2 ?_ ?_|refine wb3 ?_ ?_ ?_|refine wb4 ?_ ?_ ?_ ?_)
          ·refine WO.arr (congrArg List.length hw).symm fun i _ j _ => ?_
           show WC _ _ (wrkG s2.works i j) (wrkG (s2.copied ((allS (s1).map).getD k default) ((s1).free.getD 0 default)).works i j)
           rw [hw]
           exact WC.imm (Qj _ _)
          all_goals exact WC.slA (hl := congrArg List.length hw.symm) (ht := congrArg List.length hw.symm)
         ·refine Br.no (decide_eq_false c3) (Go0 ?_)
          refine ⟨_, _, ?_, ⟨(d2.step, s2), ⟨hd2.step, h2.weak om (Nat.le_refl _)⟩, rfl, rfl⟩⟩
          exact RM.w0
        ·refine Go0 ?_
         rw [hg]
         refine Br.no rfl (Go0 ?_)
         refine ⟨_, _, ?_, ⟨(d2, s2), ⟨hd2, h2.weak om (Nat.le_refl _)⟩, rfl, rfl⟩⟩
         exact RM.w0
      ·refine Br.no (decide_eq_false c2) (Go0 ?_)
       refine ⟨_, _, ?_, ⟨((d1).step, s1), ⟨DiceM.ok.step hd1, Gq.weak h1 om (Nat.le_refl _)⟩, rfl, rfl⟩⟩
       exact RM.w0
     ·refine Go0 ?_
      rw [hg]
      refine Br.no rfl (Go0 ?_)
      refine ⟨_, _, ?_, ⟨(d1, s1), ⟨hd1, Gq.weak h1 om (Nat.le_refl _)⟩, rfl, rfl⟩⟩
      exact RM.w0
  ·refine Br.no (decide_eq_false c1) (Go1 fun _h=>?_)
   have hsb := Gq.small h om
   refine CallG.autoQ [0] Ql (Qm d.step hd.step 3) (fun hg => ?_) (fun hg => ?_) <;> (conv=>whnf)
   ·refine Go0 ?_
    have hf : 0 < (s).free.length := by simpa using hg
    rw [decide_eq_true (p := (((s).free.length : Int) > 0)) om]
    by_cases c2 : (d.step).next 3 > 0
    ·refine Br.yes (decide_eq_true c2) (Go0 ?_)
     refine CallN.pureA QcH (QcB (s).free ((s).free.getD 0 default) hsb.free ) (Go0 ?_)
     refine CallN.pureA Qeg (Qd7 (s).map hsb.shard hsb.map ) (Go0 ?_)
     refine Lp.mkK hΓ (ι := DS × Nat) [0, 3, 4, 9, 10] (fun i => [(11, .c (.int .i64 i.2))]) (fun i => [.vr i.1.1.cells, i.1.2.wobj, .vr (i.1.2.cellsK 1), .vr (default : St).cells]) (fun i => i.2 ≤ (allS (s).map).length ∧ i.1.1.ok ∧ Gq c n r i.1.2) (fun i => (allS (s).map).length - i.2) (((d.step).step, { ((s).unfree ((s).free.getD 0 default)) with lane := (s).free.getD 0 default }), 0) ⟨Nat.zero_le _, DiceM.ok.step hd.step, Gq.setLane h hf⟩ ?_ ?_
     ·exact Mv.k0
     ·rintro ⟨⟨d2, s2⟩, k⟩ ⟨hk, hd2, h2⟩
      have h2 : Gq c n r s2 := h2
      have hk : k ≤ (allS (s).map).length := hk
      have hd2 : d2.ok := hd2
      have hl := Qhp h
      refine Go1 fun _h=>?_
      refine CallG.autoQ [0] Ql (Qm d2 hd2 s2.cfg.size) (fun hg => ?_) (fun hg => ?_) <;> (conv=>whnf)
      ·refine Go0 ?_
       have hk2 : k < (allS (s).map).length := by simpa using hg
       rw [decide_eq_true (p := ((k : Int) < ((allS (s).map).length : Int))) om]
       by_cases c3 : (k : Int) < d2.next s2.cfg.size
       ·refine Br.yes (decide_eq_true c3) (Go0 ?_)
        have w0 := Qa (↑k + 1) om om
        refine Dr.mkE hΓ hMix [163, 8589934755] [] (by kernel_rfl) (Go0 ?_)
        refine CallF.autoI [1] QfN (Qfz s2 (h2.small om) ((allS (s).map).getD k default) ((s).free.getD 0 default)) plh (Go0 ?_)
        refine ⟨((d2.step, s2.copied ((allS (s).map).getD k default) ((s).free.getD 0 default)), k + 1), ⟨hk2, hd2.step, h2.copied _ _⟩, by show (allS (s).map).length - (k + 1) < (allS (s).map).length - k; omega, ?_⟩
        have hw : (s2.copied ((allS (s).map).getD k default) ((s).free.getD 0 default)).works = s2.works := QcK _ _ _
        refine Mv.mkW ?_ ?_ leN <;> (first|exact wb0|refine wb1 ?_|refine wb2 ?_ ?_|refine wb3 ?_ ?_ ?_|refine wb4 ?_ ?_ ?_ ?_)
        ·refine WO.arr (congrArg List.length hw).symm fun i _ j _ => ?_
         show WC _ _ (wrkG s2.works i j) (wrkG (s2.copied ((allS (s).map).getD k default) ((s).free.getD 0 default)).works i j)
         rw [hw]
         exact WC.imm (Qj _ _)
        all_goals exact WC.slA (hl := congrArg List.length hw.symm) (ht := congrArg List.length hw.symm)
       ·refine Br.no (decide_eq_false c3) (Go0 ?_)
        refine ⟨_, _, ?_, ⟨(d2.step, s2), ⟨hd2.step, h2.weak om (Nat.le_refl _)⟩, rfl, rfl⟩⟩
        exact RM.w0
      ·refine Go0 ?_
       rw [hg]
       refine Br.no rfl (Go0 ?_)
       refine ⟨_, _, ?_, ⟨(d2, s2), ⟨hd2, h2.weak om (Nat.le_refl _)⟩, rfl, rfl⟩⟩
       exact RM.w0
    ·refine Br.no (decide_eq_false c2) (Go0 ?_)
     refine ⟨_, _, ?_, ⟨((d.step).step, s), ⟨DiceM.ok.step hd.step, Gq.weak h om (Nat.le_refl _)⟩, rfl, rfl⟩⟩
     exact RM.w0
   ·refine Go0 ?_
    rw [hg]
    refine Br.no rfl (Go0 ?_)
    refine ⟨_, _, ?_, ⟨(d.step, s), ⟨hd.step, Gq.weak h om (Nat.le_refl _)⟩, rfl, rfl⟩⟩
    exact RM.w0
 ·refine Go0 ?_
  rw [hg]
  refine Br.no rfl (Go1 fun _h=>?_)
  have hsb := Gq.small h om
  refine CallG.autoQ [0] Ql (Qm d hd 3) (fun hg => ?_) (fun hg => ?_) <;> (conv=>whnf)
  ·refine Go0 ?_
   have hf : 0 < (s).free.length := by simpa using hg
   rw [decide_eq_true (p := (((s).free.length : Int) > 0)) om]
   by_cases c2 : (d).next 3 > 0
   ·refine Br.yes (decide_eq_true c2) (Go0 ?_)
    refine CallN.pureA QcH (QcB (s).free ((s).free.getD 0 default) hsb.free ) (Go0 ?_)
    refine CallN.pureA Qeg (Qd7 (s).map hsb.shard hsb.map ) (Go0 ?_)
    refine Lp.mkK hΓ (ι := DS × Nat) [0, 3, 4, 9, 10] (fun i => [(11, .c (.int .i64 i.2))]) (fun i => [.vr i.1.1.cells, i.1.2.wobj, .vr (i.1.2.cellsK 1), .vr (default : St).cells]) (fun i => i.2 ≤ (allS (s).map).length ∧ i.1.1.ok ∧ Gq c n r i.1.2) (fun i => (allS (s).map).length - i.2) (((d).step, { ((s).unfree ((s).free.getD 0 default)) with lane := (s).free.getD 0 default }), 0) ⟨Nat.zero_le _, DiceM.ok.step hd, Gq.setLane h hf⟩ ?_ ?_
    ·exact Mv.k0
    ·rintro ⟨⟨d2, s2⟩, k⟩ ⟨hk, hd2, h2⟩
     have h2 : Gq c n r s2 := h2
     have hk : k ≤ (allS (s).map).length := hk
     have hd2 : d2.ok := hd2
     have hl := Qhp h
     refine Go1 fun _h=>?_
     refine CallG.autoQ [0] Ql (Qm d2 hd2 s2.cfg.size) (fun hg => ?_) (fun hg => ?_) <;> (conv=>whnf)
     ·refine Go0 ?_
      have hk2 : k < (allS (s).map).length := by simpa using hg
      rw [decide_eq_true (p := ((k : Int) < ((allS (s).map).length : Int))) om]
      by_cases c3 : (k : Int) < d2.next s2.cfg.size
      ·refine Br.yes (decide_eq_true c3) (Go0 ?_)
       have w0 := Qa (↑k + 1) om om
       refine Dr.mkE hΓ hMix [163, 8589934755] [] (by kernel_rfl) (Go0 ?_)
       refine CallF.autoI [1] QfN (Qfz s2 (h2.small om) ((allS (s).map).getD k default) ((s).free.getD 0 default)) plh (Go0 ?_)
       refine ⟨((d2.step, s2.copied ((allS (s).map).getD k default) ((s).free.getD 0 default)), k + 1), ⟨hk2, hd2.step, h2.copied _ _⟩, by show (allS (s).map).length - (k + 1) < (allS (s).map).length - k; omega, ?_⟩
       have hw : (s2.copied ((allS (s).map).getD k default) ((s).free.getD 0 default)).works = s2.works := QcK _ _ _
       refine Mv.mkW ?_ ?_ leN <;> (first|exact wb0|refine wb1 ?_|refine wb2 ?_ ?_|refine wb3 ?_ ?_ ?_|refine wb4 ?_ ?_ ?_ ?_)
       ·refine WO.arr (congrArg List.length hw).symm fun i _ j _ => ?_
        show WC _ _ (wrkG s2.works i j) (wrkG (s2.copied ((allS (s).map).getD k default) ((s).free.getD 0 default)).works i j)
        rw [hw]
        exact WC.imm (Qj _ _)
       all_goals exact WC.slA (hl := congrArg List.length hw.symm) (ht := congrArg List.length hw.symm)
      ·refine Br.no (decide_eq_false c3) (Go0 ?_)
       refine ⟨_, _, ?_, ⟨(d2.step, s2), ⟨hd2.step, h2.weak om (Nat.le_refl _)⟩, rfl, rfl⟩⟩
       exact RM.w0
     ·refine Go0 ?_
      rw [hg]
      refine Br.no rfl (Go0 ?_)
      refine ⟨_, _, ?_, ⟨(d2, s2), ⟨hd2, h2.weak om (Nat.le_refl _)⟩, rfl, rfl⟩⟩
      exact RM.w0
   ·refine Br.no (decide_eq_false c2) (Go0 ?_)
    refine ⟨_, _, ?_, ⟨((d).step, s), ⟨DiceM.ok.step hd, Gq.weak h om (Nat.le_refl _)⟩, rfl, rfl⟩⟩
    exact RM.w0
  ·refine Go0 ?_
   rw [hg]
   refine Br.no rfl (Go0 ?_)
   refine ⟨_, _, ?_, ⟨(d, s), ⟨hd, Gq.weak h om (Nat.le_refl _)⟩, rfl, rfl⟩⟩
   exact RM.w0
theorem QpZ : HB 92 := hB Tryz.func92
set_option maxHeartbeats 2000000 in
theorem QpP (d : DiceM) (hd : d.ok) : CS 37 [.c (.ptr 0 0)] [.vr d.cells] fun x H => ∃ i : Conf × DS, ((∃ d, i.1 = Qad d) ∧ i.2.1.ok ∧ Gq i.1 300 32 i.2.2) ∧ x = .a (i.2.2.cellsK 1) ∧ H = [.vr i.2.1.cells, i.2.2.wobj] := by
 have hc := QiM d
 have hb := Qhj d
 have hdn := Qpe hc
 have hcf := confR_iff.1 (Qv hc).1
 have hs1 := Qae (Qv hc).1
 have hdz : Qq (Qad d) = (Qad d).zones - 2 * Qo (Qad d) := rfl
 refine CSpec.rm ?_
 refine ov0 hΓ Tryz.func37 118 1 [.cell 2 58] Tryz.ntmps37 Tryz.results37 ?_
 refine CallN.autoQ [0] QjS (QjZ d hd) (Go0 ?_)
 refine CallN.autoI [] Qtd (Qsm (Qad d) hc) plh (Go0 ?_)
 refine CallN.pureA QjY (Qkb (Qad d) hc ) (Go0 ?_)
 have hx := (QeF d).next_range (n := Qq (Qad d)) om om
 refine CallN.autoQ [0] Ql (Qm (QeF d) (Qlv hd) (Qq (Qad d))) (Go0 ?_)
 have hm : ∀ k : Nat, (k : Int) ≤ 32 → (k : Int) * (Qad d).size ≤ 192 := fun k hk => by
  have := Int.mul_le_mul hk hb.1 om om
  omega
 have hsd := Qlv hd
 generalize hcc : Qad d = c at *
 generalize QeF d = d0 at *
 have z0 : Gq c (1 + ((0 : Nat) : Int) * c.size) 0 (QE c) := (Qt7 hc).weak (by simp) (Nat.le_refl _)
 have z1 : (d0).step.ok := hsd.step
 refine Lp.mkK hΓ (ι := DS × Nat) [0, 2, 3, 4, 6, 8] (fun i => [(9, .c (.int .i64 i.2))]) (fun i => [.vr i.1.1.cells, .vr (default : St).cells, .vr c.cells, i.1.2.wobj, .vr (i.1.2.cellsK 3), .vr (Lay.cells c)]) (fun i => i.2 ≤ ((d0).next (Qq c)).toNat ∧ i.1.1.ok ∧ Gq c (1 + i.2 * c.size) 0 i.1.2) (fun i => ((d0).next (Qq c)).toNat - i.2) (((d0).step, QE c), 0) ⟨Nat.zero_le _, z1, z0⟩ ?_ ?_
 ·exact Mv.k0
 ·rintro ⟨⟨d1, s1⟩, k⟩ ⟨hk, hd1, h1⟩
  have h1 : Gq c (1 + k * c.size) 0 s1 := h1
  have hk : k ≤ ((d0).next (Qq c)).toNat := hk
  have hd1 : d1.ok := hd1
  have hsm1 := h1.small om
  have hkm := hm k om
  refine Go0 ?_
  refine Br.of (fun h3=>Go0 ?_) (fun h3=>Go0 ?_)
  ·have w0 := Qa (2 * Qo c + k) om om
   have w1 := Qa (↑k + 1) om om
   have hkm1 := hm (k + 1) om
   rw [show ((k + 1 : Nat) : Int) * c.size = k * c.size + c.size by rw [Int.natCast_add, Int.add_mul]; simp] at hkm1
   rw [w0]
   refine CallN.pureA QcH (QcB s1.free (2 * Qo c + k) hsm1.free ) (Go0 ?_)
   have h2 := h1.unfree (2 * Qo c + k)
   refine CallN.autoI [0, 3] Qtb (QrZ c (1 + k * c.size) 0 0 d1 hd1 (s1.unfree (2 * Qo c + k)) h2.gd om om om (2 * Qo c + k) ⟨om, om⟩) plh (Go0 ?_)
   refine ⟨((fullF (2 * Qo c + k) (d1, s1.unfree (2 * Qo c + k))), k + 1), ⟨by show k + 1 ≤ ((d0).next (Qq c)).toNat; omega, QiI (z := 2 * Qo c + k) (p := (d1, s1.unfree (2 * Qo c + k))) hd1 _, ?_⟩, by show ((d0).next (Qq c)).toNat - (k + 1) < ((d0).next (Qq c)).toNat - k; omega, ?_⟩
   ·exact (Gq.fullF (p := (d1, s1.unfree (2 * Qo c + k))) h2 (2 * Qo c + k) om).weak (by show 1 + (k : Int) * c.size + c.size ≤ 1 + ((k + 1 : Nat) : Int) * c.size; rw [show ((k + 1 : Nat) : Int) * c.size = k * c.size + c.size by rw [Int.natCast_add, Int.add_mul]; simp]; omega) (Nat.le_refl _)
   ·exact Mv.k0
  ·refine CallN.exI [0, 3] QpZ (Qp7 c (1 + k * c.size) 0 d1 hd1 s1 h1 om om) (fun _ => plh) (fun i hi => ?_); conv=>whnf
   obtain ⟨d2, s2⟩ := i
   obtain ⟨hd2, h2⟩ := hi
   have hd2 : d2.ok := hd2
   have h2 : Gq c 300 0 s2 := Gq.weak h2 om (Nat.le_refl _)
   refine Go0 ?_
   refine Lp.mkK hΓ (ι := DS × Nat) [0, 2, 3, 4] (fun i => [(11, .c (.int .i64 (2 * Qo c + i.2)))]) (fun i => [.vr i.1.1.cells, .vr (default : St).cells, .vr c.cells, i.1.2.wobj, .vr (i.1.2.cellsK 3)]) (fun i => i.2 ≤ (Qq c).toNat ∧ i.1.1.ok ∧ Gq c 300 i.2 i.1.2) (fun i => (Qq c).toNat - i.2) ((d2, s2), 0) ⟨Nat.zero_le _, hd2, h2⟩ ?_ ?_
   ·exact Mv.k0
   ·rintro ⟨⟨d3, s3⟩, j⟩ ⟨hj, hd3, h3⟩
    have h3 : Gq c 300 j s3 := h3
    have hj : j ≤ (Qq c).toNat := hj
    have hd3 : d3.ok := hd3
    have hsm3 := h3.small om
    have hz3 := h3.gd.val.parts.zones
    have hl3 := h3.gd.val.parts.live
    rw [h3.gd.cfg] at hz3 hl3
    refine Go0 ?_
    refine Br.of (fun h4=>Go0 ?_) (fun h4=>Go0 ?_)
    ·have w2 := Qa (2 * Qo c + j + 1) om om
     refine CallG.autoQ [0] Ql (Qm d3 hd3 2) (fun hg => ?_) (fun hg => ?_) <;> (conv=>whnf)
     ·refine Go0 ?_
      rw [hg]
      by_cases c2 : d3.next 2 = 0
      ·refine Br.yes (by rw [c2]; rfl) (Go0 ?_)
       refine CallN.pureA QlI (QlC s3.glob s3.pins s3.rets (2 * Qo c + j) hsm3.pins hsm3.rets ) (Go0 ?_)
       have h4 := h3.retire (2 * Qo c + j)
       have hd4 := hd3.step
       have hsm4 := h4.small om
       refine CallN.autoQ [0] Ql (Qm d3.step hd4 6) (Go0 ?_)
       by_cases c5 : (d3.step).next 6 = 5
       ·refine Br.yes (by rw [c5]; rfl) (Go0 ?_)
        refine CallN.pureA Qgw (QgK ({ s3 with rets := (Qau s3.glob s3.pins s3.rets (2 * Qo c + j)).1 }).glob ({ s3 with rets := (Qau s3.glob s3.pins s3.rets (2 * Qo c + j)).1 }).pins ({ s3 with rets := (Qau s3.glob s3.pins s3.rets (2 * Qo c + j)).1 }).rets hsm4.pins hsm4.rets ) (Go0 ?_)
        refine ⟨(((d3.step).step, { ({ s3 with rets := (Qau s3.glob s3.pins s3.rets (2 * Qo c + j)).1 }) with glob := (advM ({ s3 with rets := (Qau s3.glob s3.pins s3.rets (2 * Qo c + j)).1 }).glob ({ s3 with rets := (Qau s3.glob s3.pins s3.rets (2 * Qo c + j)).1 }).pins ({ s3 with rets := (Qau s3.glob s3.pins s3.rets (2 * Qo c + j)).1 }).rets).1 }), j + 1), ⟨by show j + 1 ≤ (Qq c).toNat; omega, hd4.step, h4.adv⟩, by show (Qq c).toNat - (j + 1) < (Qq c).toNat - j; omega, ?_⟩
        exact Mv.k0
       ·refine Br.no (by simpa using c5) (Go0 ?_)
        refine ⟨(((d3.step).step, { s3 with rets := (Qau s3.glob s3.pins s3.rets (2 * Qo c + j)).1 }), j + 1), ⟨by show j + 1 ≤ (Qq c).toNat; omega, hd4.step, h4⟩, by show (Qq c).toNat - (j + 1) < (Qq c).toNat - j; omega, ?_⟩
        exact Mv.k0
      ·refine Br.no (by simpa using c2) (Go0 ?_)
       have h4 : Gq c 300 (j + 1) s3 := h3.weak (Int.le_refl _) om
       have hd4 := hd3.step
       have hsm4 := h4.small om
       refine CallN.autoQ [0] Ql (Qm d3.step hd4 6) (Go0 ?_)
       by_cases c5 : (d3.step).next 6 = 5
       ·refine Br.yes (by rw [c5]; rfl) (Go0 ?_)
        refine CallN.pureA Qgw (QgK (s3).glob (s3).pins (s3).rets hsm4.pins hsm4.rets ) (Go0 ?_)
        refine ⟨(((d3.step).step, { (s3) with glob := (advM (s3).glob (s3).pins (s3).rets).1 }), j + 1), ⟨by show j + 1 ≤ (Qq c).toNat; omega, hd4.step, h4.adv⟩, by show (Qq c).toNat - (j + 1) < (Qq c).toNat - j; omega, ?_⟩
        exact Mv.k0
       ·refine Br.no (by simpa using c5) (Go0 ?_)
        refine ⟨(((d3.step).step, s3), j + 1), ⟨by show j + 1 ≤ (Qq c).toNat; omega, hd4.step, h4⟩, by show (Qq c).toNat - (j + 1) < (Qq c).toNat - j; omega, ?_⟩
        exact Mv.k0
     ·refine Go0 ?_
      rw [hg]
      refine Br.no rfl (Go0 ?_)
      have h4 : Gq c 300 (j + 1) s3 := h3.weak (Int.le_refl _) om
      have hd4 := hd3
      have hsm4 := h4.small om
      refine CallN.autoQ [0] Ql (Qm d3 hd4 6) (Go0 ?_)
      by_cases c5 : (d3).next 6 = 5
      ·refine Br.yes (by rw [c5]; rfl) (Go0 ?_)
       refine CallN.pureA Qgw (QgK (s3).glob (s3).pins (s3).rets hsm4.pins hsm4.rets ) (Go0 ?_)
       refine ⟨(((d3).step, { (s3) with glob := (advM (s3).glob (s3).pins (s3).rets).1 }), j + 1), ⟨by show j + 1 ≤ (Qq c).toNat; omega, hd4.step, h4.adv⟩, by show (Qq c).toNat - (j + 1) < (Qq c).toNat - j; omega, ?_⟩
       exact Mv.k0
      ·refine Br.no (by simpa using c5) (Go0 ?_)
       refine ⟨(((d3).step, s3), j + 1), ⟨by show j + 1 ≤ (Qq c).toNat; omega, hd4.step, h4⟩, by show (Qq c).toNat - (j + 1) < (Qq c).toNat - j; omega, ?_⟩
       exact Mv.k0
    ·have h3 : Gq c 300 32 s3 := h3.weak (Int.le_refl _) om
     refine CallN.autoQ [0] Ql (Qm d3 hd3 4) (Go0 ?_)
     refine CallN.autoQ [0] Ql (Qm d3.step hd3.step 12) (Go0 ?_)
     refine CallN.autoQ [0] Ql (Qm d3.step.step hd3.step.step 3) (Go0 ?_)
     have h4 := h3.flags (d3.next 4 == 3) (d3.step.next 12 == 11)
     by_cases c5 : d3.step.step.next 3 = 2
     ·refine Br.yes (by rw [c5]; rfl) (Go0 ?_)
      refine CallN.pureA Qg2 (QgZ s3.dev hsm3.dev ) (Go0 ?_)
      refine ⟨_, _, ?_, ⟨(c, (d3.step.step.step, { s3 with want := (d3.next 4 == 3), closed := (d3.step.next 12 == 11), dev := Qbn s3.dev })), ⟨⟨_, hcc.symm⟩, hd3.step.step.step, h4.sync⟩, rfl, rfl⟩⟩
      exact RM.renN [0, 3] (by decide) (show ∀ i, i < 1 → rho [0, 3] i = i by decide) leN wb0 wb0
     ·refine Br.no (by simpa using c5) (Go0 ?_)
      refine ⟨_, _, ?_, ⟨(c, (d3.step.step.step, { s3 with want := (d3.next 4 == 3), closed := (d3.step.next 12 == 11) })), ⟨⟨_, hcc.symm⟩, hd3.step.step.step, h4⟩, rfl, rfl⟩⟩
      exact RM.renN [0, 3] (by decide) (show ∀ i, i < 1 → rho [0, 3] i = i by decide) leN wb0 wb0
theorem Qrv : HB 37 := hB Tryz.func37
end Go.Proofs
end
