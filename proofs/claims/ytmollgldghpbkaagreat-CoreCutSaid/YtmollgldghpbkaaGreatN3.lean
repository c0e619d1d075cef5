/- Contracts, lemmas; no condition. -/
import Derived.Test.YtmollgldghpbkaaGreatGG
import Derived.Test.YtmollgldghpbkaaGreatStB
import Derived.Test.YtmollgldghpbkaaGreatNA
set_option linter.all false
open Go Go.Am
namespace Go.Proofs
set_option maxRecDepth 20000
theorem Qhp {c : Conf} {n : Int} {r : Nat} {s : St} (h : Gq c n r s) : (allS s.map).length ≤ 100000 := Qld h.gd.val
set_option maxHeartbeats 8000000 in
theorem Qp7 (c : Conf) (n : Int) (r : Nat) (d : DiceM) (hd : d.ok) (s : St) (h : Gq c n r s) (hn : n + c.size ≤ 100000) (hr : r ≤ 1000) : CSpec Tryz.prog 92 [.c (.ptr 0 0), .a (s.cellsK 1)] [.vr d.cells, s.wobj] fun x H => ∃ i : DS, (i.1.ok ∧ Gq c (n + c.size) r i.2) ∧ x = .a (i.2.cellsK 1) ∧ H = [.vr i.1.cells, i.2.wobj] := by
 have hcf := confR_iff.1 (Qv h.gd.conf).1
 have hsm := h.small (by omega)
 refine CSpec.rm ?_
 refine ov hΓ Tryz.func92 107 2 [.cell 4 58] Tryz.ntmps92 Tryz.results92 ?_
 refine Go1 fun _h=>?_
 refine CallG.autoQ [0] Ql (Qm d hd 4) (fun hg => ?_) (fun hg => ?_) <;> (conv=>whnf)
 ·refine Go0 ?_
  have hf : 0 < s.free.length := by simpa using hg
  rw [decide_eq_true (p := ((s.free.length : Int) > 0)) (by omega)]
  by_cases c1 : d.next 4 > 0
  ·refine Br.yes (decide_eq_true c1) ?_
   refine Go0 ?_
   refine CallN.pureA QcH (QcB s.free (s.free.getD 0 default) hsm.free ) ?_
   refine Go0 ?_
   refine CallN.autoQ [0] Ql (Qm d.step hd.step s.cfg.size) ?_; conv=>whnf
   refine Go0 ?_
   have hx := d.step.next_range (n := s.cfg.size) (by rw [h.gd.cfg]; omega) (by rw [h.gd.cfg]; omega)
   have hcs : s.cfg.size = c.size := by rw [h.gd.cfg]
   refine Lp.mkK hΓ (ι := DS × Nat) [0, 3, 4, 5] (fun i => [(6, .c (.int .i64 (d.step.next s.cfg.size - i.2)))]) (fun i => [.vr i.1.1.cells, i.1.2.wobj, .vr (i.1.2.cellsK 1), .vr (default : St).cells]) (fun i => i.2 ≤ (d.step.next s.cfg.size).toNat ∧ i.1.1.ok ∧ Gq c (n + i.2) r i.1.2) (fun i => (d.step.next s.cfg.size).toNat - i.2) ((d.step.step, { (s.unfree (s.free.getD 0 default)) with host := s.free.getD 0 default }), 0) ⟨Nat.zero_le _, hd.step.step, (h.setHost hf).weak (by simp) (Nat.le_refl _)⟩ ?_ ?_
   ·exact Mv.k0
   ·rintro ⟨⟨d1, s1⟩, k⟩ ⟨hk, hd1, h1⟩
    have h1 : Gq c (n + k) r s1 := h1
    have hk : k ≤ (d.step.next s.cfg.size).toNat := hk
    have hd1 : d1.ok := hd1
    have hsm1 := h1.small (by omega)
    have hp1 := h1.gd.val.parts.next
    have hp2 := h1.gd.next
    refine Go0 ?_
    refine Br.of (fun h3=>?_) (fun h3=>?_)<;>(try simp only [Int.toNat_natCast] at h3)<;>(conv=>whnf)
    ·refine Go0 ?_
     have w0 := Qa (d.step.next s.cfg.size - k - 1) (by omega) (by omega)
     have hb := QeJ h1.gd.conf
     refine CallN.autoI [0, 1] QjW (Qjm d1 hd1 s1 ⟨by omega, by omega⟩) (by repeat' (first | exact PlainH.nil | refine PlainH.vr ?_ | refine PlainH.mp ?_ | refine PlainH.arr (fun i j => ?_) ?_ | exact Qb _ _ _)) ?_; conv=>whnf
     refine Go0 ?_
     refine CallN.autoI [1] Qi6 (Qjk s1.bump ((h1.bump (by omega)).small (by omega)) (s.free.getD 0 default) (recR d1 s1.cfg.blocks s1.next)) (by repeat' (first | exact PlainH.nil | refine PlainH.vr ?_ | refine PlainH.mp ?_ | refine PlainH.arr (fun i j => ?_) ?_ | exact Qb _ _ _)) ?_; conv=>whnf
     refine Go0 ?_
     refine ⟨((recD d1, s1.bump.add (s.free.getD 0 default) (recR d1 s1.cfg.blocks s1.next)), k + 1), ⟨by show k + 1 ≤ (d.step.next s.cfg.size).toNat; omega, QpB hd1, ?_⟩, by show (d.step.next s.cfg.size).toNat - (k + 1) < (d.step.next s.cfg.size).toNat - k; omega, ?_⟩
     ·exact ((h1.bump (by omega)).add _ (by rw [h1.gd.cfg]; exact (QgM _ hb.1 hb.2).2)).weak (by show n + k + 1 ≤ n + ((k + 1 : Nat) : Int); omega) (Nat.le_refl _)
     ·exact Mv.k0
    ·refine Go1 fun _h=>?_
     have : k = (d.step.next s.cfg.size).toNat := by omega
     have h1 : Gq c (n + c.size) r s1 := h1.weak (by omega) (Nat.le_refl _)
     have hsb := Gq.small h1 (by omega)
     refine CallG.autoQ [0] Ql (Qm d1 hd1 3) (fun hg => ?_) (fun hg => ?_) <;> (conv=>whnf)
     ·refine Go0 ?_
      have hf : 0 < (s1).free.length := by simpa using hg
      rw [decide_eq_true (p := (((s1).free.length : Int) > 0)) (by omega)]
      by_cases c2 : (d1).next 3 > 0
      ·refine Br.yes (decide_eq_true c2) ?_
       refine Go0 ?_
       refine CallN.pureA QcH (QcB (s1).free ((s1).free.getD 0 default) hsb.free ) ?_
       refine Go0 ?_
       refine CallN.pureA Qeg (Qd7 (s1).map hsb.shard hsb.map ) ?_
       refine Go0 ?_
       refine Lp.mkK hΓ (ι := DS × Nat) [0, 3, 4, 9, 10] (fun i => [(11, .c (.int .i64 i.2))]) (fun i => [.vr i.1.1.cells, i.1.2.wobj, .vr (i.1.2.cellsK 1), .vr (default : St).cells]) (fun i => i.2 ≤ (allS (s1).map).length ∧ i.1.1.ok ∧ Gq c (n + c.size) r i.1.2) (fun i => (allS (s1).map).length - i.2) (((d1).step, { ((s1).unfree ((s1).free.getD 0 default)) with lane := (s1).free.getD 0 default }), 0) ⟨Nat.zero_le _, DiceM.ok.step hd1, Gq.setLane h1 hf⟩ ?_ ?_
       ·exact Mv.k0
       ·rintro ⟨⟨d2, s2⟩, k⟩ ⟨hk, hd2, h2⟩
        have h2 : Gq c (n + c.size) r s2 := h2
        have hk : k ≤ (allS (s1).map).length := hk
        have hd2 : d2.ok := hd2
        have hl := Qhp h1
        refine Go1 fun _h=>?_
        refine CallG.autoQ [0] Ql (Qm d2 hd2 s2.cfg.size) (fun hg => ?_) (fun hg => ?_) <;> (conv=>whnf)
        ·refine Go0 ?_
         have hk2 : k < (allS (s1).map).length := by simpa using hg
         rw [decide_eq_true (p := ((k : Int) < ((allS (s1).map).length : Int))) (by omega)]
         by_cases c3 : (k : Int) < d2.next s2.cfg.size
         ·refine Br.yes (decide_eq_true c3) ?_
          refine Go0 ?_
          have w0 := Qa (↑k + 1) (by omega) (by omega)
          refine Dr.mkE hΓ hMix [163, 8589934755] [] (by kernel_rfl) ?_; conv=>whnf
          refine Go0 ?_
          refine CallF.autoI [1] QfN (Qfz s2 (h2.small (by omega)) ((allS (s1).map).getD k default) ((s1).free.getD 0 default)) (by repeat' (first | exact PlainH.nil | refine PlainH.vr ?_ | refine PlainH.mp ?_ | refine PlainH.arr (fun i j => ?_) ?_ | exact Qb _ _ _)) ?_; conv=>whnf
          refine Go0 ?_
          refine ⟨((d2.step, s2.copied ((allS (s1).map).getD k default) ((s1).free.getD 0 default)), k + 1), ⟨hk2, hd2.step, h2.copied _ _⟩, by show (allS (s1).map).length - (k + 1) < (allS (s1).map).length - k; omega, ?_⟩
          have hw : (s2.copied ((allS (s1).map).getD k default) ((s1).free.getD 0 default)).works = s2.works := QcK _ _ _
          refine Mv.mkW ?_ ?_ leN <;> (repeat' (first | exact WA.nil | refine WA.cons rfl ?_ ?_ | exact WB.nil | refine WB.cons ?_ ?_ | exact WT.nil | refine WT.cons ?_ ?_ | exact WH.nil | refine WH.cons ?_ ?_ | exact WR.nil | refine WR.cons rfl ?_ ?_ | refine WO.vr ?_ | exact WO.dead | exact WO.mpS | refine WO.mpA ?_ | exact WO.arrPA (fun i j => Qb _ _ _) | refine WO.arrA ?_ | exact WS.u | refine WS.c ?_ | refine WS.a ?_ | refine WS.t ?_ | exact WL.nil | refine WL.cons ?_ ?_ | exact WTL.nil | refine WTL.consC ?_ ?_ | refine WTL.consL ?_ ?_ | exact WC.nils | exact WC.nil rfl | exact WC.nilp | refine WC.fzA | exact WC.ptr rfl leN | exact WC.mpr rfl leN | refine WC.slA | refine WC.intA | refine WC.int ?_ | refine WC.boolA | refine WC.bool ?_ | refine WC.strA | refine WC.str ?_ | exact WC.imm rfl))
          ·refine WO.arr (congrArg List.length hw).symm fun i _ j _ => ?_
           show WC _ _ (wrkG s2.works i j) (wrkG (s2.copied ((allS (s1).map).getD k default) ((s1).free.getD 0 default)).works i j)
           rw [hw]
           exact WC.imm (Qj _ _)
          all_goals exact WC.slA (hl := congrArg List.length hw.symm) (ht := congrArg List.length hw.symm)
         ·refine Br.no (decide_eq_false c3) ?_
          refine Go0 ?_
          refine ⟨_, _, ?_, ⟨(d2.step, s2), ⟨hd2.step, h2.weak (by omega) (Nat.le_refl _)⟩, rfl, rfl⟩⟩
          exact RM.w0
        ·refine Go0 ?_
         rw [hg]
         refine Br.no rfl ?_; conv=>whnf
         refine Go0 ?_
         refine ⟨_, _, ?_, ⟨(d2, s2), ⟨hd2, h2.weak (by omega) (Nat.le_refl _)⟩, rfl, rfl⟩⟩
         exact RM.w0
      ·refine Br.no (decide_eq_false c2) ?_
       refine Go0 ?_
       refine ⟨_, _, ?_, ⟨((d1).step, s1), ⟨DiceM.ok.step hd1, Gq.weak h1 (by omega) (Nat.le_refl _)⟩, rfl, rfl⟩⟩
       exact RM.w0
     ·refine Go0 ?_
      rw [hg]
      refine Br.no rfl ?_; conv=>whnf
      refine Go0 ?_
      refine ⟨_, _, ?_, ⟨(d1, s1), ⟨hd1, Gq.weak h1 (by omega) (Nat.le_refl _)⟩, rfl, rfl⟩⟩
      exact RM.w0
  ·refine Br.no (decide_eq_false c1) ?_
   refine Go1 fun _h=>?_
   have hsb := Gq.small h (by omega)
   refine CallG.autoQ [0] Ql (Qm d.step hd.step 3) (fun hg => ?_) (fun hg => ?_) <;> (conv=>whnf)
   ·refine Go0 ?_
    have hf : 0 < (s).free.length := by simpa using hg
    rw [decide_eq_true (p := (((s).free.length : Int) > 0)) (by omega)]
    by_cases c2 : (d.step).next 3 > 0
    ·refine Br.yes (decide_eq_true c2) ?_
     refine Go0 ?_
     refine CallN.pureA QcH (QcB (s).free ((s).free.getD 0 default) hsb.free ) ?_
     refine Go0 ?_
     refine CallN.pureA Qeg (Qd7 (s).map hsb.shard hsb.map ) ?_
     refine Go0 ?_
     refine Lp.mkK hΓ (ι := DS × Nat) [0, 3, 4, 9, 10] (fun i => [(11, .c (.int .i64 i.2))]) (fun i => [.vr i.1.1.cells, i.1.2.wobj, .vr (i.1.2.cellsK 1), .vr (default : St).cells]) (fun i => i.2 ≤ (allS (s).map).length ∧ i.1.1.ok ∧ Gq c n r i.1.2) (fun i => (allS (s).map).length - i.2) (((d.step).step, { ((s).unfree ((s).free.getD 0 default)) with lane := (s).free.getD 0 default }), 0) ⟨Nat.zero_le _, DiceM.ok.step hd.step, Gq.setLane h hf⟩ ?_ ?_
     ·exact Mv.k0
     ·rintro ⟨⟨d2, s2⟩, k⟩ ⟨hk, hd2, h2⟩
      have h2 : Gq c n r s2 := h2
      have hk : k ≤ (allS (s).map).length := hk
      have hd2 : d2.ok := hd2
      have hl := Qhp h
      refine Go1 fun _h=>?_
      refine CallG.autoQ [0] Ql (Qm d2 hd2 s2.cfg.size) (fun hg => ?_) (fun hg => ?_) <;> (conv=>whnf)
      ·refine Go0 ?_
       have hk2 : k < (allS (s).map).length := by simpa using hg
       rw [decide_eq_true (p := ((k : Int) < ((allS (s).map).length : Int))) (by omega)]
       by_cases c3 : (k : Int) < d2.next s2.cfg.size
       ·refine Br.yes (decide_eq_true c3) ?_
        refine Go0 ?_
        have w0 := Qa (↑k + 1) (by omega) (by omega)
        refine Dr.mkE hΓ hMix [163, 8589934755] [] (by kernel_rfl) ?_; conv=>whnf
        refine Go0 ?_
        refine CallF.autoI [1] QfN (Qfz s2 (h2.small (by omega)) ((allS (s).map).getD k default) ((s).free.getD 0 default)) (by repeat' (first | exact PlainH.nil | refine PlainH.vr ?_ | refine PlainH.mp ?_ | refine PlainH.arr (fun i j => ?_) ?_ | exact Qb _ _ _)) ?_; conv=>whnf
        refine Go0 ?_
        refine ⟨((d2.step, s2.copied ((allS (s).map).getD k default) ((s).free.getD 0 default)), k + 1), ⟨hk2, hd2.step, h2.copied _ _⟩, by show (allS (s).map).length - (k + 1) < (allS (s).map).length - k; omega, ?_⟩
        have hw : (s2.copied ((allS (s).map).getD k default) ((s).free.getD 0 default)).works = s2.works := QcK _ _ _
        refine Mv.mkW ?_ ?_ leN <;> (repeat' (first | exact WA.nil | refine WA.cons rfl ?_ ?_ | exact WB.nil | refine WB.cons ?_ ?_ | exact WT.nil | refine WT.cons ?_ ?_ | exact WH.nil | refine WH.cons ?_ ?_ | exact WR.nil | refine WR.cons rfl ?_ ?_ | refine WO.vr ?_ | exact WO.dead | exact WO.mpS | refine WO.mpA ?_ | exact WO.arrPA (fun i j => Qb _ _ _) | refine WO.arrA ?_ | exact WS.u | refine WS.c ?_ | refine WS.a ?_ | refine WS.t ?_ | exact WL.nil | refine WL.cons ?_ ?_ | exact WTL.nil | refine WTL.consC ?_ ?_ | refine WTL.consL ?_ ?_ | exact WC.nils | exact WC.nil rfl | exact WC.nilp | refine WC.fzA | exact WC.ptr rfl leN | exact WC.mpr rfl leN | refine WC.slA | refine WC.intA | refine WC.int ?_ | refine WC.boolA | refine WC.bool ?_ | refine WC.strA | refine WC.str ?_ | exact WC.imm rfl))
        ·refine WO.arr (congrArg List.length hw).symm fun i _ j _ => ?_
         show WC _ _ (wrkG s2.works i j) (wrkG (s2.copied ((allS (s).map).getD k default) ((s).free.getD 0 default)).works i j)
         rw [hw]
         exact WC.imm (Qj _ _)
        all_goals exact WC.slA (hl := congrArg List.length hw.symm) (ht := congrArg List.length hw.symm)
       ·refine Br.no (decide_eq_false c3) ?_
        refine Go0 ?_
        refine ⟨_, _, ?_, ⟨(d2.step, s2), ⟨hd2.step, h2.weak (by omega) (Nat.le_refl _)⟩, rfl, rfl⟩⟩
        exact RM.w0
      ·refine Go0 ?_
       rw [hg]
       refine Br.no rfl ?_; conv=>whnf
       refine Go0 ?_
       refine ⟨_, _, ?_, ⟨(d2, s2), ⟨hd2, h2.weak (by omega) (Nat.le_refl _)⟩, rfl, rfl⟩⟩
       exact RM.w0
    ·refine Br.no (decide_eq_false c2) ?_
     refine Go0 ?_
     refine ⟨_, _, ?_, ⟨((d.step).step, s), ⟨DiceM.ok.step hd.step, Gq.weak h (by omega) (Nat.le_refl _)⟩, rfl, rfl⟩⟩
     exact RM.w0
   ·refine Go0 ?_
    rw [hg]
    refine Br.no rfl ?_; conv=>whnf
    refine Go0 ?_
    refine ⟨_, _, ?_, ⟨(d.step, s), ⟨hd.step, Gq.weak h (by omega) (Nat.le_refl _)⟩, rfl, rfl⟩⟩
    exact RM.w0
 ·refine Go0 ?_
  rw [hg]
  refine Br.no rfl ?_; conv=>whnf
  refine Go1 fun _h=>?_
  have hsb := Gq.small h (by omega)
  refine CallG.autoQ [0] Ql (Qm d hd 3) (fun hg => ?_) (fun hg => ?_) <;> (conv=>whnf)
  ·refine Go0 ?_
   have hf : 0 < (s).free.length := by simpa using hg
   rw [decide_eq_true (p := (((s).free.length : Int) > 0)) (by omega)]
   by_cases c2 : (d).next 3 > 0
   ·refine Br.yes (decide_eq_true c2) ?_
    refine Go0 ?_
    refine CallN.pureA QcH (QcB (s).free ((s).free.getD 0 default) hsb.free ) ?_
    refine Go0 ?_
    refine CallN.pureA Qeg (Qd7 (s).map hsb.shard hsb.map ) ?_
    refine Go0 ?_
    refine Lp.mkK hΓ (ι := DS × Nat) [0, 3, 4, 9, 10] (fun i => [(11, .c (.int .i64 i.2))]) (fun i => [.vr i.1.1.cells, i.1.2.wobj, .vr (i.1.2.cellsK 1), .vr (default : St).cells]) (fun i => i.2 ≤ (allS (s).map).length ∧ i.1.1.ok ∧ Gq c n r i.1.2) (fun i => (allS (s).map).length - i.2) (((d).step, { ((s).unfree ((s).free.getD 0 default)) with lane := (s).free.getD 0 default }), 0) ⟨Nat.zero_le _, DiceM.ok.step hd, Gq.setLane h hf⟩ ?_ ?_
    ·exact Mv.k0
    ·rintro ⟨⟨d2, s2⟩, k⟩ ⟨hk, hd2, h2⟩
     have h2 : Gq c n r s2 := h2
     have hk : k ≤ (allS (s).map).length := hk
     have hd2 : d2.ok := hd2
     have hl := Qhp h
     refine Go1 fun _h=>?_
     refine CallG.autoQ [0] Ql (Qm d2 hd2 s2.cfg.size) (fun hg => ?_) (fun hg => ?_) <;> (conv=>whnf)
     ·refine Go0 ?_
      have hk2 : k < (allS (s).map).length := by simpa using hg
      rw [decide_eq_true (p := ((k : Int) < ((allS (s).map).length : Int))) (by omega)]
      by_cases c3 : (k : Int) < d2.next s2.cfg.size
      ·refine Br.yes (decide_eq_true c3) ?_
       refine Go0 ?_
       have w0 := Qa (↑k + 1) (by omega) (by omega)
       refine Dr.mkE hΓ hMix [163, 8589934755] [] (by kernel_rfl) ?_; conv=>whnf
       refine Go0 ?_
       refine CallF.autoI [1] QfN (Qfz s2 (h2.small (by omega)) ((allS (s).map).getD k default) ((s).free.getD 0 default)) (by repeat' (first | exact PlainH.nil | refine PlainH.vr ?_ | refine PlainH.mp ?_ | refine PlainH.arr (fun i j => ?_) ?_ | exact Qb _ _ _)) ?_; conv=>whnf
       refine Go0 ?_
       refine ⟨((d2.step, s2.copied ((allS (s).map).getD k default) ((s).free.getD 0 default)), k + 1), ⟨hk2, hd2.step, h2.copied _ _⟩, by show (allS (s).map).length - (k + 1) < (allS (s).map).length - k; omega, ?_⟩
       have hw : (s2.copied ((allS (s).map).getD k default) ((s).free.getD 0 default)).works = s2.works := QcK _ _ _
       refine Mv.mkW ?_ ?_ leN <;> (repeat' (first | exact WA.nil | refine WA.cons rfl ?_ ?_ | exact WB.nil | refine WB.cons ?_ ?_ | exact WT.nil | refine WT.cons ?_ ?_ | exact WH.nil | refine WH.cons ?_ ?_ | exact WR.nil | refine WR.cons rfl ?_ ?_ | refine WO.vr ?_ | exact WO.dead | exact WO.mpS | refine WO.mpA ?_ | exact WO.arrPA (fun i j => Qb _ _ _) | refine WO.arrA ?_ | exact WS.u | refine WS.c ?_ | refine WS.a ?_ | refine WS.t ?_ | exact WL.nil | refine WL.cons ?_ ?_ | exact WTL.nil | refine WTL.consC ?_ ?_ | refine WTL.consL ?_ ?_ | exact WC.nils | exact WC.nil rfl | exact WC.nilp | refine WC.fzA | exact WC.ptr rfl leN | exact WC.mpr rfl leN | refine WC.slA | refine WC.intA | refine WC.int ?_ | refine WC.boolA | refine WC.bool ?_ | refine WC.strA | refine WC.str ?_ | exact WC.imm rfl))
       ·refine WO.arr (congrArg List.length hw).symm fun i _ j _ => ?_
        show WC _ _ (wrkG s2.works i j) (wrkG (s2.copied ((allS (s).map).getD k default) ((s).free.getD 0 default)).works i j)
        rw [hw]
        exact WC.imm (Qj _ _)
       all_goals exact WC.slA (hl := congrArg List.length hw.symm) (ht := congrArg List.length hw.symm)
      ·refine Br.no (decide_eq_false c3) ?_
       refine Go0 ?_
       refine ⟨_, _, ?_, ⟨(d2.step, s2), ⟨hd2.step, h2.weak (by omega) (Nat.le_refl _)⟩, rfl, rfl⟩⟩
       exact RM.w0
     ·refine Go0 ?_
      rw [hg]
      refine Br.no rfl ?_; conv=>whnf
      refine Go0 ?_
      refine ⟨_, _, ?_, ⟨(d2, s2), ⟨hd2, h2.weak (by omega) (Nat.le_refl _)⟩, rfl, rfl⟩⟩
      exact RM.w0
   ·refine Br.no (decide_eq_false c2) ?_
    refine Go0 ?_
    refine ⟨_, _, ?_, ⟨((d).step, s), ⟨DiceM.ok.step hd, Gq.weak h (by omega) (Nat.le_refl _)⟩, rfl, rfl⟩⟩
    exact RM.w0
  ·refine Go0 ?_
   rw [hg]
   refine Br.no rfl ?_; conv=>whnf
   refine Go0 ?_
   refine ⟨_, _, ?_, ⟨(d, s), ⟨hd, Gq.weak h (by omega) (Nat.le_refl _)⟩, rfl, rfl⟩⟩
   exact RM.w0
theorem QpZ : HasBody Tryz.prog 92 := hB Tryz.func92
end Go.Proofs





