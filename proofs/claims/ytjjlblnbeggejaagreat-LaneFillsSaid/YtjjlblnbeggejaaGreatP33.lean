/- Contracts, lemmas; no condition. -/
import Derived.Test.YtjjlblnbeggejaaGreatP31
import Derived.Test.YtjjlblnbeggejaaGreatP26
import Derived.Test.YtjjlblnbeggejaaGreatP32
import Derived.Test.YtjjlblnbeggejaaGreatP25
import Derived.Test.YtjjlblnbeggejaaGreatP10
set_option linter.all false
section
open Go Go.Am
namespace Go.Proofs
set_option maxRecDepth 20000
theorem Qgu {c : Conf} {n : Int} {r : Nat} {s : St} (h : Gl c n r s) : (allS s.map).length ≤ 100000 := QrQ h.gd.val
set_option maxHeartbeats 8000000 in
theorem Qpw (c : Conf) (n : Int) (r : Nat) (d : DiceM) (hd : d.ok) (s : St) (h : Gl c n r s) (hn : n + c.size ≤ 100000) (hr : r ≤ 1000) (hh : s.host = -1) (hl : s.lane = -1) : CS 58 [.c (.ptr 0 0), .a (s.cellsK 1)] [.vr d.cells, s.wobj] fun x H => ∃ i : DS, (i.1.ok ∧ Gl c (n + c.size) r i.2) ∧ x = .a (i.2.cellsK 1) ∧ H = [.vr i.1.cells, i.2.wobj] := by
 have hcf := confR_iff.1 (QR h.gd.conf).1
 have hsm := h.small (by omega)
 refine CSpec.rm ?_
 refine ov hΓ Tryz.func58 107 2 [.cell 4 58] Tryz.ntmps58 Tryz.results58 ?_
 ((conv=>whnf);(repeat' ((first|refine Nd ?_|refine Hv fun _h=>?_);conv=>whnf)))
 refine CallG.autoQ [0] QK (QJ d hd 4) (fun hg => ?_) (fun hg => ?_) <;> (conv=>whnf)
 ·((conv=>whnf);(repeat' ((first|refine Nd ?_|refine Hv fun _h=>?_);conv=>whnf)))
  have hf : 0 < s.free.length := by simpa using hg
  rw [decide_eq_true (p := ((s.free.length : Int) > 0)) (by omega)]
  by_cases c1 : d.next 4 > 0
  ·refine Br.yes (decide_eq_true c1) ?_
   ((conv=>whnf);(repeat' ((first|refine Nd ?_|refine Hv fun _h=>?_);conv=>whnf)))
   refine CallN.pureA Qck (Qcc s.free (s.free.getD 0 default) hsm.free ) ?_
   ((conv=>whnf);(repeat' ((first|refine Nd ?_|refine Hv fun _h=>?_);conv=>whnf)))
   refine CallN.autoQ [0] QK (QJ d.step hd.step s.cfg.size) ?_; conv=>whnf
   ((conv=>whnf);(repeat' ((first|refine Nd ?_|refine Hv fun _h=>?_);conv=>whnf)))
   have hx := d.step.next_range (n := s.cfg.size) (by rw [h.gd.cfg]; omega) (by rw [h.gd.cfg]; omega)
   have hcs : s.cfg.size = c.size := by rw [h.gd.cfg]
   refine Lp.mkK hΓ (ι := DS × Nat) [0, 3, 4, 5] (fun i => [(6, .c (.int .i64 (d.step.next s.cfg.size - i.2)))]) (fun i => [.vr i.1.1.cells, i.1.2.wobj, .vr (i.1.2.cellsK 1), .vr (default : St).cells]) (fun i => i.2 ≤ (d.step.next s.cfg.size).toNat ∧ i.1.1.ok ∧ Gl c (n + i.2) r i.1.2 ∧ i.1.2.host = s.free.getD 0 default ∧ i.1.2.lane = -1 ∧ Wz i.1.2 [i.1.2.host, i.1.2.lane] (s.free.getD 0 default) i.2) (fun i => (d.step.next s.cfg.size).toNat - i.2) ((d.step.step, { (s.unfree (s.free.getD 0 default)) with host := s.free.getD 0 default }), 0) ⟨Nat.zero_le _, hd.step.step, (h.setHost hf hh).1.weak (by simp) (Nat.le_refl _), rfl, hl, (h.setHost hf hh).2⟩ ?_ ?_
   ·exact Mv.k0
   ·rintro ⟨⟨d1, s1⟩, k⟩ ⟨hk, hd1, h1, hh1, hl1, hw1⟩
    have h1 : Gl c (n + k) r s1 := h1
    have hh1 : s1.host = s.free.getD 0 default := hh1
    have hl1 : s1.lane = -1 := hl1
    have hw1 : Wz s1 [s1.host, s1.lane] (s.free.getD 0 default) k := hw1
    have hk : k ≤ (d.step.next s.cfg.size).toNat := hk
    have hd1 : d1.ok := hd1
    have hsm1 := h1.small (by omega)
    have hp1 := h1.gd.val.parts.next
    have hp2 := h1.gd.next
    ((conv=>whnf);(repeat' ((first|refine Nd ?_|refine Hv fun _h=>?_);conv=>whnf)))
    refine Br.of (fun h3=>?_) (fun h3=>?_)<;>(try simp only [Int.toNat_natCast] at h3)<;>(conv=>whnf)
    ·((conv=>whnf);(repeat' ((first|refine Nd ?_|refine Hv fun _h=>?_);conv=>whnf)))
     have w0 := Qa (d.step.next s.cfg.size - k - 1) (by omega) (by omega)
     have hb := Qcf h1.gd.conf
     refine CallN.autoI [0, 1] Qje (Qjp d1 hd1 s1 ⟨by omega, by omega⟩) plh ?_; conv=>whnf
     ((conv=>whnf);(repeat' ((first|refine Nd ?_|refine Hv fun _h=>?_);conv=>whnf)))
     refine CallN.autoI [1] QjH (Qjd s1.bump ((h1.bump (by omega)).small (by omega)) (s.free.getD 0 default) (recR d1 s1.cfg.blocks s1.next)) plh ?_; conv=>whnf
     ((conv=>whnf);(repeat' ((first|refine Nd ?_|refine Hv fun _h=>?_);conv=>whnf)))
     have hro := Qht (d := d1) (b := s1.cfg.blocks) (v := s1.next) (by rw [h1.gd.cfg]; omega) (by omega)
     obtain ⟨g1, g2, g3, g4⟩ := Gl.addL (h1.bump (by omega)) (z := s.free.getD 0 default) (k := k) (.inl hh1.symm) hw1.ge ⟨hw1.mem, hw1.ge, hw1.lt, hw1.nfree, hw1.len, hw1.st⟩ (by omega) (x := recR d1 s1.cfg.blocks s1.next) (by rw [h1.gd.cfg]; exact (Qf8 _ hb.1 hb.2).2) hro.1 hro.2
     refine ⟨((recD d1, s1.bump.add (s.free.getD 0 default) (recR d1 s1.cfg.blocks s1.next)), k + 1), ⟨by show k + 1 ≤ (d.step.next s.cfg.size).toNat; omega, Qhj hd1, ?_, g3.trans hh1, g4.trans hl1, g2⟩, by show (d.step.next s.cfg.size).toNat - (k + 1) < (d.step.next s.cfg.size).toNat - k; omega, ?_⟩
     ·exact g1.weak (by show n + k + 1 ≤ n + ((k + 1 : Nat) : Int); omega) (Nat.le_refl _)
     ·exact Mv.k0
    ·((conv=>whnf);(repeat' ((first|refine Nd ?_|refine Hv fun _h=>?_);conv=>whnf)))
     have : k = (d.step.next s.cfg.size).toNat := by omega
     have h1 : Gl c (n + c.size) r s1 := h1.weak (by omega) (Nat.le_refl _)
     have hsb := Gl.small h1 (by omega)
     refine CallG.autoQ [0] QK (QJ d1 hd1 3) (fun hg => ?_) (fun hg => ?_) <;> (conv=>whnf)
     ·((conv=>whnf);(repeat' ((first|refine Nd ?_|refine Hv fun _h=>?_);conv=>whnf)))
      have hf : 0 < (s1).free.length := by simpa using hg
      rw [decide_eq_true (p := (((s1).free.length : Int) > 0)) (by omega)]
      by_cases c2 : (d1).next 3 > 0
      ·refine Br.yes (decide_eq_true c2) ?_
       ((conv=>whnf);(repeat' ((first|refine Nd ?_|refine Hv fun _h=>?_);conv=>whnf)))
       refine CallN.pureA Qck (Qcc (s1).free ((s1).free.getD 0 default) hsb.free ) ?_
       ((conv=>whnf);(repeat' ((first|refine Nd ?_|refine Hv fun _h=>?_);conv=>whnf)))
       refine CallN.pureA Qgm (QgX (s1).map hsb.shard hsb.map ) ?_
       ((conv=>whnf);(repeat' ((first|refine Nd ?_|refine Hv fun _h=>?_);conv=>whnf)))
       refine Lp.mkK hΓ (ι := DS × Nat) [0, 3, 4, 9, 10] (fun i => [(11, .c (.int .i64 i.2))]) (fun i => [.vr i.1.1.cells, i.1.2.wobj, .vr (i.1.2.cellsK 1), .vr (default : St).cells]) (fun i => i.2 ≤ (allS (s1).map).length ∧ i.1.1.ok ∧ Gl c (n + c.size) r i.1.2 ∧ i.1.2.lane = (s1).free.getD 0 default ∧ ∃ j, j ≤ i.2 ∧ Wz i.1.2 [i.1.2.host, i.1.2.lane] ((s1).free.getD 0 default) j) (fun i => (allS (s1).map).length - i.2) (((d1).step, { ((s1).unfree ((s1).free.getD 0 default)) with lane := (s1).free.getD 0 default }), 0) ⟨Nat.zero_le _, DiceM.ok.step hd1, (Gl.setLane h1 hf hl1).1, rfl, 0, Nat.le_refl _, (Gl.setLane h1 hf hl1).2⟩ ?_ ?_
       ·exact Mv.k0
       ·rintro ⟨⟨d2, s2⟩, k⟩ ⟨hk, hd2, h2, hln, j, hj, hw⟩
        have h2 : Gl c (n + c.size) r s2 := h2
        have hln : s2.lane = (s1).free.getD 0 default := hln
        have hj : j ≤ k := hj
        have hw : Wz s2 [s2.host, s2.lane] ((s1).free.getD 0 default) j := hw
        have hk : k ≤ (allS (s1).map).length := hk
        have hd2 : d2.ok := hd2
        have hl := Qgu h1
        ((conv=>whnf);(repeat' ((first|refine Nd ?_|refine Hv fun _h=>?_);conv=>whnf)))
        refine CallG.autoQ [0] QK (QJ d2 hd2 s2.cfg.size) (fun hg => ?_) (fun hg => ?_) <;> (conv=>whnf)
        ·((conv=>whnf);(repeat' ((first|refine Nd ?_|refine Hv fun _h=>?_);conv=>whnf)))
         have hk2 : k < (allS (s1).map).length := by simpa using hg
         rw [decide_eq_true (p := ((k : Int) < ((allS (s1).map).length : Int))) (by omega)]
         by_cases c3 : (k : Int) < d2.next s2.cfg.size
         ·refine Br.yes (decide_eq_true c3) ?_
          ((conv=>whnf);(repeat' ((first|refine Nd ?_|refine Hv fun _h=>?_);conv=>whnf)))
          have w0 := Qa (↑k + 1) (by omega) (by omega)
          have hx2 := d2.next_range (n := s2.cfg.size) (by rw [h2.gd.cfg]; omega) (by rw [h2.gd.cfg]; omega)
          have hcc2 : s2.cfg.size = c.size := by rw [h2.gd.cfg]
          obtain ⟨g1, ⟨j2, hj2, g2⟩, g3, g4⟩ := h2.copied (.inr hln.symm) hw.ge hw (by omega) ((allS (s1).map).getD k default)
          refine Dr.mkE hΓ hMix [144, 8589934736] [] (by kernel_rfl) ?_; conv=>whnf
          ((conv=>whnf);(repeat' ((first|refine Nd ?_|refine Hv fun _h=>?_);conv=>whnf)))
          refine CallF.autoI [1] Qfh (Qe2 s2 (h2.small (by omega)) ((allS (s1).map).getD k default) ((s1).free.getD 0 default)) plh ?_; conv=>whnf
          ((conv=>whnf);(repeat' ((first|refine Nd ?_|refine Hv fun _h=>?_);conv=>whnf)))
          refine ⟨((d2.step, s2.copied ((allS (s1).map).getD k default) ((s1).free.getD 0 default)), k + 1), ⟨hk2, hd2.step, g1, g4.trans hln, j2, by show j2 ≤ k + 1; omega, g2⟩, by show (allS (s1).map).length - (k + 1) < (allS (s1).map).length - k; omega, ?_⟩
          have hw : (s2.copied ((allS (s1).map).getD k default) ((s1).free.getD 0 default)).works = s2.works := Qda _ _ _
          refine Mv.mkW ?_ ?_ leN <;> (first|exact wb0|refine wb1 ?_|refine wb2 ?_ ?_|refine wb3 ?_ ?_ ?_|refine wb4 ?_ ?_ ?_ ?_)
          ·refine WO.arr (congrArg List.length hw).symm fun i _ j _ => ?_
           show WC _ _ (wrkG s2.works i j) (wrkG (s2.copied ((allS (s1).map).getD k default) ((s1).free.getD 0 default)).works i j)
           rw [hw]
           exact WC.imm (QaW _ _)
          all_goals exact WC.slA (hl := congrArg List.length hw.symm) (ht := congrArg List.length hw.symm)
         ·refine Br.no (decide_eq_false c3) ?_
          ((conv=>whnf);(repeat' ((first|refine Nd ?_|refine Hv fun _h=>?_);conv=>whnf)))
          refine ⟨_, _, ?_, ⟨(d2.step, s2), ⟨hd2.step, h2.weak (by omega) (Nat.le_refl _)⟩, rfl, rfl⟩⟩
          exact RM.w0
        ·((conv=>whnf);(repeat' ((first|refine Nd ?_|refine Hv fun _h=>?_);conv=>whnf)))
         rw [hg]
         refine Br.no rfl ?_; conv=>whnf
         ((conv=>whnf);(repeat' ((first|refine Nd ?_|refine Hv fun _h=>?_);conv=>whnf)))
         refine ⟨_, _, ?_, ⟨(d2, s2), ⟨hd2, h2.weak (by omega) (Nat.le_refl _)⟩, rfl, rfl⟩⟩
         exact RM.w0
      ·refine Br.no (decide_eq_false c2) ?_
       ((conv=>whnf);(repeat' ((first|refine Nd ?_|refine Hv fun _h=>?_);conv=>whnf)))
       refine ⟨_, _, ?_, ⟨((d1).step, s1), ⟨DiceM.ok.step hd1, Gl.weak h1 (by omega) (Nat.le_refl _)⟩, rfl, rfl⟩⟩
       exact RM.w0
     ·((conv=>whnf);(repeat' ((first|refine Nd ?_|refine Hv fun _h=>?_);conv=>whnf)))
      rw [hg]
      refine Br.no rfl ?_; conv=>whnf
      ((conv=>whnf);(repeat' ((first|refine Nd ?_|refine Hv fun _h=>?_);conv=>whnf)))
      refine ⟨_, _, ?_, ⟨(d1, s1), ⟨hd1, Gl.weak h1 (by omega) (Nat.le_refl _)⟩, rfl, rfl⟩⟩
      exact RM.w0
  ·refine Br.no (decide_eq_false c1) ?_
   ((conv=>whnf);(repeat' ((first|refine Nd ?_|refine Hv fun _h=>?_);conv=>whnf)))
   have hsb := Gl.small h (by omega)
   refine CallG.autoQ [0] QK (QJ d.step hd.step 3) (fun hg => ?_) (fun hg => ?_) <;> (conv=>whnf)
   ·((conv=>whnf);(repeat' ((first|refine Nd ?_|refine Hv fun _h=>?_);conv=>whnf)))
    have hf : 0 < (s).free.length := by simpa using hg
    rw [decide_eq_true (p := (((s).free.length : Int) > 0)) (by omega)]
    by_cases c2 : (d.step).next 3 > 0
    ·refine Br.yes (decide_eq_true c2) ?_
     ((conv=>whnf);(repeat' ((first|refine Nd ?_|refine Hv fun _h=>?_);conv=>whnf)))
     refine CallN.pureA Qck (Qcc (s).free ((s).free.getD 0 default) hsb.free ) ?_
     ((conv=>whnf);(repeat' ((first|refine Nd ?_|refine Hv fun _h=>?_);conv=>whnf)))
     refine CallN.pureA Qgm (QgX (s).map hsb.shard hsb.map ) ?_
     ((conv=>whnf);(repeat' ((first|refine Nd ?_|refine Hv fun _h=>?_);conv=>whnf)))
     refine Lp.mkK hΓ (ι := DS × Nat) [0, 3, 4, 9, 10] (fun i => [(11, .c (.int .i64 i.2))]) (fun i => [.vr i.1.1.cells, i.1.2.wobj, .vr (i.1.2.cellsK 1), .vr (default : St).cells]) (fun i => i.2 ≤ (allS (s).map).length ∧ i.1.1.ok ∧ Gl c n r i.1.2 ∧ i.1.2.lane = (s).free.getD 0 default ∧ ∃ j, j ≤ i.2 ∧ Wz i.1.2 [i.1.2.host, i.1.2.lane] ((s).free.getD 0 default) j) (fun i => (allS (s).map).length - i.2) (((d.step).step, { ((s).unfree ((s).free.getD 0 default)) with lane := (s).free.getD 0 default }), 0) ⟨Nat.zero_le _, DiceM.ok.step hd.step, (Gl.setLane h hf hl).1, rfl, 0, Nat.le_refl _, (Gl.setLane h hf hl).2⟩ ?_ ?_
     ·exact Mv.k0
     ·rintro ⟨⟨d2, s2⟩, k⟩ ⟨hk, hd2, h2, hln, j, hj, hw⟩
      have h2 : Gl c n r s2 := h2
      have hln : s2.lane = (s).free.getD 0 default := hln
      have hj : j ≤ k := hj
      have hw : Wz s2 [s2.host, s2.lane] ((s).free.getD 0 default) j := hw
      have hk : k ≤ (allS (s).map).length := hk
      have hd2 : d2.ok := hd2
      have hl := Qgu h
      ((conv=>whnf);(repeat' ((first|refine Nd ?_|refine Hv fun _h=>?_);conv=>whnf)))
      refine CallG.autoQ [0] QK (QJ d2 hd2 s2.cfg.size) (fun hg => ?_) (fun hg => ?_) <;> (conv=>whnf)
      ·((conv=>whnf);(repeat' ((first|refine Nd ?_|refine Hv fun _h=>?_);conv=>whnf)))
       have hk2 : k < (allS (s).map).length := by simpa using hg
       rw [decide_eq_true (p := ((k : Int) < ((allS (s).map).length : Int))) (by omega)]
       by_cases c3 : (k : Int) < d2.next s2.cfg.size
       ·refine Br.yes (decide_eq_true c3) ?_
        ((conv=>whnf);(repeat' ((first|refine Nd ?_|refine Hv fun _h=>?_);conv=>whnf)))
        have w0 := Qa (↑k + 1) (by omega) (by omega)
        have hx2 := d2.next_range (n := s2.cfg.size) (by rw [h2.gd.cfg]; omega) (by rw [h2.gd.cfg]; omega)
        have hcc2 : s2.cfg.size = c.size := by rw [h2.gd.cfg]
        obtain ⟨g1, ⟨j2, hj2, g2⟩, g3, g4⟩ := h2.copied (.inr hln.symm) hw.ge hw (by omega) ((allS (s).map).getD k default)
        refine Dr.mkE hΓ hMix [144, 8589934736] [] (by kernel_rfl) ?_; conv=>whnf
        ((conv=>whnf);(repeat' ((first|refine Nd ?_|refine Hv fun _h=>?_);conv=>whnf)))
        refine CallF.autoI [1] Qfh (Qe2 s2 (h2.small (by omega)) ((allS (s).map).getD k default) ((s).free.getD 0 default)) plh ?_; conv=>whnf
        ((conv=>whnf);(repeat' ((first|refine Nd ?_|refine Hv fun _h=>?_);conv=>whnf)))
        refine ⟨((d2.step, s2.copied ((allS (s).map).getD k default) ((s).free.getD 0 default)), k + 1), ⟨hk2, hd2.step, g1, g4.trans hln, j2, by show j2 ≤ k + 1; omega, g2⟩, by show (allS (s).map).length - (k + 1) < (allS (s).map).length - k; omega, ?_⟩
        have hw : (s2.copied ((allS (s).map).getD k default) ((s).free.getD 0 default)).works = s2.works := Qda _ _ _
        refine Mv.mkW ?_ ?_ leN <;> (first|exact wb0|refine wb1 ?_|refine wb2 ?_ ?_|refine wb3 ?_ ?_ ?_|refine wb4 ?_ ?_ ?_ ?_)
        ·refine WO.arr (congrArg List.length hw).symm fun i _ j _ => ?_
         show WC _ _ (wrkG s2.works i j) (wrkG (s2.copied ((allS (s).map).getD k default) ((s).free.getD 0 default)).works i j)
         rw [hw]
         exact WC.imm (QaW _ _)
        all_goals exact WC.slA (hl := congrArg List.length hw.symm) (ht := congrArg List.length hw.symm)
       ·refine Br.no (decide_eq_false c3) ?_
        ((conv=>whnf);(repeat' ((first|refine Nd ?_|refine Hv fun _h=>?_);conv=>whnf)))
        refine ⟨_, _, ?_, ⟨(d2.step, s2), ⟨hd2.step, h2.weak (by omega) (Nat.le_refl _)⟩, rfl, rfl⟩⟩
        exact RM.w0
      ·((conv=>whnf);(repeat' ((first|refine Nd ?_|refine Hv fun _h=>?_);conv=>whnf)))
       rw [hg]
       refine Br.no rfl ?_; conv=>whnf
       ((conv=>whnf);(repeat' ((first|refine Nd ?_|refine Hv fun _h=>?_);conv=>whnf)))
       refine ⟨_, _, ?_, ⟨(d2, s2), ⟨hd2, h2.weak (by omega) (Nat.le_refl _)⟩, rfl, rfl⟩⟩
       exact RM.w0
    ·refine Br.no (decide_eq_false c2) ?_
     ((conv=>whnf);(repeat' ((first|refine Nd ?_|refine Hv fun _h=>?_);conv=>whnf)))
     refine ⟨_, _, ?_, ⟨((d.step).step, s), ⟨DiceM.ok.step hd.step, Gl.weak h (by omega) (Nat.le_refl _)⟩, rfl, rfl⟩⟩
     exact RM.w0
   ·((conv=>whnf);(repeat' ((first|refine Nd ?_|refine Hv fun _h=>?_);conv=>whnf)))
    rw [hg]
    refine Br.no rfl ?_; conv=>whnf
    ((conv=>whnf);(repeat' ((first|refine Nd ?_|refine Hv fun _h=>?_);conv=>whnf)))
    refine ⟨_, _, ?_, ⟨(d.step, s), ⟨hd.step, Gl.weak h (by omega) (Nat.le_refl _)⟩, rfl, rfl⟩⟩
    exact RM.w0
 ·((conv=>whnf);(repeat' ((first|refine Nd ?_|refine Hv fun _h=>?_);conv=>whnf)))
  rw [hg]
  refine Br.no rfl ?_; conv=>whnf
  ((conv=>whnf);(repeat' ((first|refine Nd ?_|refine Hv fun _h=>?_);conv=>whnf)))
  have hsb := Gl.small h (by omega)
  refine CallG.autoQ [0] QK (QJ d hd 3) (fun hg => ?_) (fun hg => ?_) <;> (conv=>whnf)
  ·((conv=>whnf);(repeat' ((first|refine Nd ?_|refine Hv fun _h=>?_);conv=>whnf)))
   have hf : 0 < (s).free.length := by simpa using hg
   rw [decide_eq_true (p := (((s).free.length : Int) > 0)) (by omega)]
   by_cases c2 : (d).next 3 > 0
   ·refine Br.yes (decide_eq_true c2) ?_
    ((conv=>whnf);(repeat' ((first|refine Nd ?_|refine Hv fun _h=>?_);conv=>whnf)))
    refine CallN.pureA Qck (Qcc (s).free ((s).free.getD 0 default) hsb.free ) ?_
    ((conv=>whnf);(repeat' ((first|refine Nd ?_|refine Hv fun _h=>?_);conv=>whnf)))
    refine CallN.pureA Qgm (QgX (s).map hsb.shard hsb.map ) ?_
    ((conv=>whnf);(repeat' ((first|refine Nd ?_|refine Hv fun _h=>?_);conv=>whnf)))
    refine Lp.mkK hΓ (ι := DS × Nat) [0, 3, 4, 9, 10] (fun i => [(11, .c (.int .i64 i.2))]) (fun i => [.vr i.1.1.cells, i.1.2.wobj, .vr (i.1.2.cellsK 1), .vr (default : St).cells]) (fun i => i.2 ≤ (allS (s).map).length ∧ i.1.1.ok ∧ Gl c n r i.1.2 ∧ i.1.2.lane = (s).free.getD 0 default ∧ ∃ j, j ≤ i.2 ∧ Wz i.1.2 [i.1.2.host, i.1.2.lane] ((s).free.getD 0 default) j) (fun i => (allS (s).map).length - i.2) (((d).step, { ((s).unfree ((s).free.getD 0 default)) with lane := (s).free.getD 0 default }), 0) ⟨Nat.zero_le _, DiceM.ok.step hd, (Gl.setLane h hf hl).1, rfl, 0, Nat.le_refl _, (Gl.setLane h hf hl).2⟩ ?_ ?_
    ·exact Mv.k0
    ·rintro ⟨⟨d2, s2⟩, k⟩ ⟨hk, hd2, h2, hln, j, hj, hw⟩
     have h2 : Gl c n r s2 := h2
     have hln : s2.lane = (s).free.getD 0 default := hln
     have hj : j ≤ k := hj
     have hw : Wz s2 [s2.host, s2.lane] ((s).free.getD 0 default) j := hw
     have hk : k ≤ (allS (s).map).length := hk
     have hd2 : d2.ok := hd2
     have hl := Qgu h
     ((conv=>whnf);(repeat' ((first|refine Nd ?_|refine Hv fun _h=>?_);conv=>whnf)))
     refine CallG.autoQ [0] QK (QJ d2 hd2 s2.cfg.size) (fun hg => ?_) (fun hg => ?_) <;> (conv=>whnf)
     ·((conv=>whnf);(repeat' ((first|refine Nd ?_|refine Hv fun _h=>?_);conv=>whnf)))
      have hk2 : k < (allS (s).map).length := by simpa using hg
      rw [decide_eq_true (p := ((k : Int) < ((allS (s).map).length : Int))) (by omega)]
      by_cases c3 : (k : Int) < d2.next s2.cfg.size
      ·refine Br.yes (decide_eq_true c3) ?_
       ((conv=>whnf);(repeat' ((first|refine Nd ?_|refine Hv fun _h=>?_);conv=>whnf)))
       have w0 := Qa (↑k + 1) (by omega) (by omega)
       have hx2 := d2.next_range (n := s2.cfg.size) (by rw [h2.gd.cfg]; omega) (by rw [h2.gd.cfg]; omega)
       have hcc2 : s2.cfg.size = c.size := by rw [h2.gd.cfg]
       obtain ⟨g1, ⟨j2, hj2, g2⟩, g3, g4⟩ := h2.copied (.inr hln.symm) hw.ge hw (by omega) ((allS (s).map).getD k default)
       refine Dr.mkE hΓ hMix [144, 8589934736] [] (by kernel_rfl) ?_; conv=>whnf
       ((conv=>whnf);(repeat' ((first|refine Nd ?_|refine Hv fun _h=>?_);conv=>whnf)))
       refine CallF.autoI [1] Qfh (Qe2 s2 (h2.small (by omega)) ((allS (s).map).getD k default) ((s).free.getD 0 default)) plh ?_; conv=>whnf
       ((conv=>whnf);(repeat' ((first|refine Nd ?_|refine Hv fun _h=>?_);conv=>whnf)))
       refine ⟨((d2.step, s2.copied ((allS (s).map).getD k default) ((s).free.getD 0 default)), k + 1), ⟨hk2, hd2.step, g1, g4.trans hln, j2, by show j2 ≤ k + 1; omega, g2⟩, by show (allS (s).map).length - (k + 1) < (allS (s).map).length - k; omega, ?_⟩
       have hw : (s2.copied ((allS (s).map).getD k default) ((s).free.getD 0 default)).works = s2.works := Qda _ _ _
       refine Mv.mkW ?_ ?_ leN <;> (first|exact wb0|refine wb1 ?_|refine wb2 ?_ ?_|refine wb3 ?_ ?_ ?_|refine wb4 ?_ ?_ ?_ ?_)
       ·refine WO.arr (congrArg List.length hw).symm fun i _ j _ => ?_
        show WC _ _ (wrkG s2.works i j) (wrkG (s2.copied ((allS (s).map).getD k default) ((s).free.getD 0 default)).works i j)
        rw [hw]
        exact WC.imm (QaW _ _)
       all_goals exact WC.slA (hl := congrArg List.length hw.symm) (ht := congrArg List.length hw.symm)
      ·refine Br.no (decide_eq_false c3) ?_
       ((conv=>whnf);(repeat' ((first|refine Nd ?_|refine Hv fun _h=>?_);conv=>whnf)))
       refine ⟨_, _, ?_, ⟨(d2.step, s2), ⟨hd2.step, h2.weak (by omega) (Nat.le_refl _)⟩, rfl, rfl⟩⟩
       exact RM.w0
     ·((conv=>whnf);(repeat' ((first|refine Nd ?_|refine Hv fun _h=>?_);conv=>whnf)))
      rw [hg]
      refine Br.no rfl ?_; conv=>whnf
      ((conv=>whnf);(repeat' ((first|refine Nd ?_|refine Hv fun _h=>?_);conv=>whnf)))
      refine ⟨_, _, ?_, ⟨(d2, s2), ⟨hd2, h2.weak (by omega) (Nat.le_refl _)⟩, rfl, rfl⟩⟩
      exact RM.w0
   ·refine Br.no (decide_eq_false c2) ?_
    ((conv=>whnf);(repeat' ((first|refine Nd ?_|refine Hv fun _h=>?_);conv=>whnf)))
    refine ⟨_, _, ?_, ⟨((d).step, s), ⟨DiceM.ok.step hd, Gl.weak h (by omega) (Nat.le_refl _)⟩, rfl, rfl⟩⟩
    exact RM.w0
  ·((conv=>whnf);(repeat' ((first|refine Nd ?_|refine Hv fun _h=>?_);conv=>whnf)))
   rw [hg]
   refine Br.no rfl ?_; conv=>whnf
   ((conv=>whnf);(repeat' ((first|refine Nd ?_|refine Hv fun _h=>?_);conv=>whnf)))
   refine ⟨_, _, ?_, ⟨(d, s), ⟨hd, Gl.weak h (by omega) (Nat.le_refl _)⟩, rfl, rfl⟩⟩
   exact RM.w0
theorem Qqk : HB 58 := hB Tryz.func58
set_option maxHeartbeats 2000000 in
theorem Qqt (d : DiceM) (hd : d.ok) : CS 14 [.c (.ptr 0 0)] [.vr d.cells] fun x H => ∃ i : Conf × DS, ((∃ d, i.1 = Q7 d) ∧ i.2.1.ok ∧ Gl i.1 300 32 i.2.2) ∧ x = .a (i.2.2.cellsK 1) ∧ H = [.vr i.2.1.cells, i.2.2.wobj] := by
 have hc := QfV d
 have hb := Qno d
 have hdn := Qol hc
 have hcf := confR_iff.1 (QR hc).1
 have hs1 := Qak (QR hc).1
 have hdz : Qp (Q7 d) = (Q7 d).zones - 2 * Qz (Q7 d) := rfl
 refine CSpec.rm ?_
 refine ov hΓ Tryz.func14 118 1 [.cell 2 58] Tryz.ntmps14 Tryz.results14 ?_
 ((conv=>whnf);(repeat' ((first|refine Nd ?_|refine Hv fun _h=>?_);conv=>whnf)))
 refine CallN.autoQ [0] Qjs (QiT d hd) ?_; conv=>whnf
 ((conv=>whnf);(repeat' ((first|refine Nd ?_|refine Hv fun _h=>?_);conv=>whnf)))
 refine CallN.autoI [] Qsf (QrV (Q7 d) hc) plh ?_; conv=>whnf
 ((conv=>whnf);(repeat' ((first|refine Nd ?_|refine Hv fun _h=>?_);conv=>whnf)))
 refine CallN.pureA QfZ (QfS (Q7 d) hc ) ?_
 ((conv=>whnf);(repeat' ((first|refine Nd ?_|refine Hv fun _h=>?_);conv=>whnf)))
 have hx := (QfD d).next_range (n := Qp (Q7 d)) (by omega) (by omega)
 refine CallN.autoQ [0] QK (QJ (QfD d) (Qkr hd) (Qp (Q7 d))) ?_; conv=>whnf
 ((conv=>whnf);(repeat' ((first|refine Nd ?_|refine Hv fun _h=>?_);conv=>whnf)))
 have hm : ∀ k : Nat, (k : Int) ≤ 32 → (k : Int) * (Q7 d).size ≤ 192 := fun k hk => by
  have := Int.mul_le_mul hk hb.1 (by omega) (by omega)
  omega
 have hsd := Qkr hd
 generalize hcc : Q7 d = c at *
 generalize QfD d = d0 at *
 have z0 : Gl c (1 + ((0 : Nat) : Int) * c.size) 0 (Qs c) := (Qie hc).1.weak (by simp) (Nat.le_refl _)
 have z1 : (d0).step.ok := hsd.step
 refine Lp.mkK hΓ (ι := DS × Nat) [0, 2, 3, 4, 6, 8] (fun i => [(9, .c (.int .i64 i.2))]) (fun i => [.vr i.1.1.cells, .vr (default : St).cells, .vr c.cells, i.1.2.wobj, .vr (i.1.2.cellsK 3), .vr (Lay.cells c)]) (fun i => i.2 ≤ ((d0).next (Qp c)).toNat ∧ i.1.1.ok ∧ Gl c (1 + i.2 * c.size) 0 i.1.2 ∧ i.1.2.host = -1 ∧ i.1.2.lane = -1 ∧ ∀ j : Nat, 2 * Qz c + i.2 ≤ (j : Int) → (i.1.2.dev.zones.getD j default).state = 0) (fun i => ((d0).next (Qp c)).toNat - i.2) (((d0).step, Qs c), 0) ⟨Nat.zero_le _, z1, z0, rfl, rfl, fun j _ => (Qie hc).2 j⟩ ?_ ?_
 ·exact Mv.k0
 ·rintro ⟨⟨d1, s1⟩, k⟩ ⟨hk, hd1, h1, hh1, hl1, he1⟩
  have h1 : Gl c (1 + k * c.size) 0 s1 := h1
  have hh1 : s1.host = -1 := hh1
  have hl1 : s1.lane = -1 := hl1
  have he1 : ∀ j : Nat, 2 * Qz c + k ≤ (j : Int) → (s1.dev.zones.getD j default).state = 0 := he1
  have hk : k ≤ ((d0).next (Qp c)).toNat := hk
  have hd1 : d1.ok := hd1
  have hsm1 := h1.small (by omega)
  have hkm := hm k (by omega)
  ((conv=>whnf);(repeat' ((first|refine Nd ?_|refine Hv fun _h=>?_);conv=>whnf)))
  refine Br.of (fun h3=>?_) (fun h3=>?_)<;>(try simp only [Int.toNat_natCast] at h3)<;>(conv=>whnf)
  ·((conv=>whnf);(repeat' ((first|refine Nd ?_|refine Hv fun _h=>?_);conv=>whnf)))
   have w0 := Qa (2 * Qz c + k) (by omega) (by omega)
   have w1 := Qa (↑k + 1) (by omega) (by omega)
   have hkm1 := hm (k + 1) (by omega)
   rw [show ((k + 1 : Nat) : Int) * c.size = k * c.size + c.size by rw [Int.natCast_add, Int.add_mul]; simp] at hkm1
   rw [w0]
   refine CallN.pureA Qck (Qcc s1.free (2 * Qz c + k) hsm1.free ) ?_
   ((conv=>whnf);(repeat' ((first|refine Nd ?_|refine Hv fun _h=>?_);conv=>whnf)))
   have h2 := h1.gq.unfree (2 * Qz c + k)
   obtain ⟨g1, g2, g3, g4⟩ := Gl.fullF (p := (d1, s1)) (z := 2 * Qz c + k) h1 hh1 hl1 ⟨by omega, by omega⟩ (by unfold zAt; exact he1 _ (by omega)) (by omega)
   refine CallN.autoI [0, 3] Qra (QrI c (1 + k * c.size) 0 0 d1 hd1 (s1.unfree (2 * Qz c + k)) h2.gd (by omega) (by omega) (by omega) (2 * Qz c + k) ⟨by omega, by omega⟩) plh ?_; conv=>whnf
   ((conv=>whnf);(repeat' ((first|refine Nd ?_|refine Hv fun _h=>?_);conv=>whnf)))
   refine ⟨((fullF (2 * Qz c + k) (d1, s1.unfree (2 * Qz c + k))), k + 1), ⟨by show k + 1 ≤ ((d0).next (Qp c)).toNat; omega, Qh6 (z := 2 * Qz c + k) (p := (d1, s1.unfree (2 * Qz c + k))) hd1 _, ?_, g2, g3, fun j hj => by
    have hj : 2 * Qz c + ((k + 1 : Nat) : Int) ≤ j := hj
    show ((Go.Proofs.fullF (2 * Qz c + k) (d1, s1.unfree (2 * Qz c + k))).2.dev.zones.getD j default).state = 0
    rw [g4 j (by omega)]; exact he1 j (by omega)⟩, by show ((d0).next (Qp c)).toNat - (k + 1) < ((d0).next (Qp c)).toNat - k; omega, ?_⟩
   ·exact g1.weak (by show 1 + (k : Int) * c.size + c.size ≤ 1 + ((k + 1 : Nat) : Int) * c.size; rw [show ((k + 1 : Nat) : Int) * c.size = k * c.size + c.size by rw [Int.natCast_add, Int.add_mul]; simp]; omega) (Nat.le_refl _)
   ·exact Mv.k0
  ·((conv=>whnf);(repeat' ((first|refine Nd ?_|refine Hv fun _h=>?_);conv=>whnf)))
   refine CallN.exI [0, 3] Qqk (Qpw c (1 + k * c.size) 0 d1 hd1 s1 h1 (by omega) (by omega) hh1 hl1) (fun _ => plh) (fun i hi => ?_); conv=>whnf
   obtain ⟨d2, s2⟩ := i
   obtain ⟨hd2, h2⟩ := hi
   have hd2 : d2.ok := hd2
   have h2 : Gl c 300 0 s2 := Gl.weak h2 (by omega) (Nat.le_refl _)
   ((conv=>whnf);(repeat' ((first|refine Nd ?_|refine Hv fun _h=>?_);conv=>whnf)))
   refine Lp.mkK hΓ (ι := DS × Nat) [0, 2, 3, 4] (fun i => [(11, .c (.int .i64 (2 * Qz c + i.2)))]) (fun i => [.vr i.1.1.cells, .vr (default : St).cells, .vr c.cells, i.1.2.wobj, .vr (i.1.2.cellsK 3)]) (fun i => i.2 ≤ (Qp c).toNat ∧ i.1.1.ok ∧ Gl c 300 i.2 i.1.2) (fun i => (Qp c).toNat - i.2) ((d2, s2), 0) ⟨Nat.zero_le _, hd2, h2⟩ ?_ ?_
   ·exact Mv.k0
   ·rintro ⟨⟨d3, s3⟩, j⟩ ⟨hj, hd3, h3⟩
    have h3 : Gl c 300 j s3 := h3
    have hj : j ≤ (Qp c).toNat := hj
    have hd3 : d3.ok := hd3
    have hsm3 := h3.small (by omega)
    have hz3 := h3.gd.val.parts.zones
    have hl3 := h3.gd.val.parts.live
    rw [h3.gd.cfg] at hz3 hl3
    ((conv=>whnf);(repeat' ((first|refine Nd ?_|refine Hv fun _h=>?_);conv=>whnf)))
    refine Br.of (fun h4=>?_) (fun h4=>?_)<;>(try simp only [Int.toNat_natCast] at h4)<;>(conv=>whnf)
    ·((conv=>whnf);(repeat' ((first|refine Nd ?_|refine Hv fun _h=>?_);conv=>whnf)))
     have w2 := Qa (2 * Qz c + j + 1) (by omega) (by omega)
     refine CallG.autoQ [0] QK (QJ d3 hd3 2) (fun hg => ?_) (fun hg => ?_) <;> (conv=>whnf)
     ·((conv=>whnf);(repeat' ((first|refine Nd ?_|refine Hv fun _h=>?_);conv=>whnf)))
      rw [hg]
      by_cases c2 : d3.next 2 = 0
      ·refine Br.yes (by rw [c2]; rfl) ?_
       ((conv=>whnf);(repeat' ((first|refine Nd ?_|refine Hv fun _h=>?_);conv=>whnf)))
       refine CallN.pureA QlA (QlE s3.glob s3.pins s3.rets (2 * Qz c + j) hsm3.pins hsm3.rets ) ?_
       ((conv=>whnf);(repeat' ((first|refine Nd ?_|refine Hv fun _h=>?_);conv=>whnf)))
       have h4 := h3.retire (2 * Qz c + j)
       have hd4 := hd3.step
       have hsm4 := h4.small (by omega)
       refine CallN.autoQ [0] QK (QJ d3.step hd4 6) ?_; conv=>whnf
       ((conv=>whnf);(repeat' ((first|refine Nd ?_|refine Hv fun _h=>?_);conv=>whnf)))
       by_cases c5 : (d3.step).next 6 = 5
       ·refine Br.yes (by rw [c5]; rfl) ?_
        ((conv=>whnf);(repeat' ((first|refine Nd ?_|refine Hv fun _h=>?_);conv=>whnf)))
        refine CallN.pureA Qf0 (Qf9 ({ s3 with rets := (Qas s3.glob s3.pins s3.rets (2 * Qz c + j)).1 }).glob ({ s3 with rets := (Qas s3.glob s3.pins s3.rets (2 * Qz c + j)).1 }).pins ({ s3 with rets := (Qas s3.glob s3.pins s3.rets (2 * Qz c + j)).1 }).rets hsm4.pins hsm4.rets ) ?_
        ((conv=>whnf);(repeat' ((first|refine Nd ?_|refine Hv fun _h=>?_);conv=>whnf)))
        refine ⟨(((d3.step).step, { ({ s3 with rets := (Qas s3.glob s3.pins s3.rets (2 * Qz c + j)).1 }) with glob := (advM ({ s3 with rets := (Qas s3.glob s3.pins s3.rets (2 * Qz c + j)).1 }).glob ({ s3 with rets := (Qas s3.glob s3.pins s3.rets (2 * Qz c + j)).1 }).pins ({ s3 with rets := (Qas s3.glob s3.pins s3.rets (2 * Qz c + j)).1 }).rets).1 }), j + 1), ⟨by show j + 1 ≤ (Qp c).toNat; omega, hd4.step, h4.adv⟩, by show (Qp c).toNat - (j + 1) < (Qp c).toNat - j; omega, ?_⟩
        exact Mv.k0
       ·refine Br.no (by simpa using c5) ?_
        ((conv=>whnf);(repeat' ((first|refine Nd ?_|refine Hv fun _h=>?_);conv=>whnf)))
        refine ⟨(((d3.step).step, { s3 with rets := (Qas s3.glob s3.pins s3.rets (2 * Qz c + j)).1 }), j + 1), ⟨by show j + 1 ≤ (Qp c).toNat; omega, hd4.step, h4⟩, by show (Qp c).toNat - (j + 1) < (Qp c).toNat - j; omega, ?_⟩
        exact Mv.k0
      ·refine Br.no (by simpa using c2) ?_
       ((conv=>whnf);(repeat' ((first|refine Nd ?_|refine Hv fun _h=>?_);conv=>whnf)))
       have h4 : Gl c 300 (j + 1) s3 := h3.weak (Int.le_refl _) (by omega)
       have hd4 := hd3.step
       have hsm4 := h4.small (by omega)
       refine CallN.autoQ [0] QK (QJ d3.step hd4 6) ?_; conv=>whnf
       ((conv=>whnf);(repeat' ((first|refine Nd ?_|refine Hv fun _h=>?_);conv=>whnf)))
       by_cases c5 : (d3.step).next 6 = 5
       ·refine Br.yes (by rw [c5]; rfl) ?_
        ((conv=>whnf);(repeat' ((first|refine Nd ?_|refine Hv fun _h=>?_);conv=>whnf)))
        refine CallN.pureA Qf0 (Qf9 (s3).glob (s3).pins (s3).rets hsm4.pins hsm4.rets ) ?_
        ((conv=>whnf);(repeat' ((first|refine Nd ?_|refine Hv fun _h=>?_);conv=>whnf)))
        refine ⟨(((d3.step).step, { (s3) with glob := (advM (s3).glob (s3).pins (s3).rets).1 }), j + 1), ⟨by show j + 1 ≤ (Qp c).toNat; omega, hd4.step, h4.adv⟩, by show (Qp c).toNat - (j + 1) < (Qp c).toNat - j; omega, ?_⟩
        exact Mv.k0
       ·refine Br.no (by simpa using c5) ?_
        ((conv=>whnf);(repeat' ((first|refine Nd ?_|refine Hv fun _h=>?_);conv=>whnf)))
        refine ⟨(((d3.step).step, s3), j + 1), ⟨by show j + 1 ≤ (Qp c).toNat; omega, hd4.step, h4⟩, by show (Qp c).toNat - (j + 1) < (Qp c).toNat - j; omega, ?_⟩
        exact Mv.k0
     ·((conv=>whnf);(repeat' ((first|refine Nd ?_|refine Hv fun _h=>?_);conv=>whnf)))
      rw [hg]
      refine Br.no rfl ?_; conv=>whnf
      ((conv=>whnf);(repeat' ((first|refine Nd ?_|refine Hv fun _h=>?_);conv=>whnf)))
      have h4 : Gl c 300 (j + 1) s3 := h3.weak (Int.le_refl _) (by omega)
      have hd4 := hd3
      have hsm4 := h4.small (by omega)
      refine CallN.autoQ [0] QK (QJ d3 hd4 6) ?_; conv=>whnf
      ((conv=>whnf);(repeat' ((first|refine Nd ?_|refine Hv fun _h=>?_);conv=>whnf)))
      by_cases c5 : (d3).next 6 = 5
      ·refine Br.yes (by rw [c5]; rfl) ?_
       ((conv=>whnf);(repeat' ((first|refine Nd ?_|refine Hv fun _h=>?_);conv=>whnf)))
       refine CallN.pureA Qf0 (Qf9 (s3).glob (s3).pins (s3).rets hsm4.pins hsm4.rets ) ?_
       ((conv=>whnf);(repeat' ((first|refine Nd ?_|refine Hv fun _h=>?_);conv=>whnf)))
       refine ⟨(((d3).step, { (s3) with glob := (advM (s3).glob (s3).pins (s3).rets).1 }), j + 1), ⟨by show j + 1 ≤ (Qp c).toNat; omega, hd4.step, h4.adv⟩, by show (Qp c).toNat - (j + 1) < (Qp c).toNat - j; omega, ?_⟩
       exact Mv.k0
      ·refine Br.no (by simpa using c5) ?_
       ((conv=>whnf);(repeat' ((first|refine Nd ?_|refine Hv fun _h=>?_);conv=>whnf)))
       refine ⟨(((d3).step, s3), j + 1), ⟨by show j + 1 ≤ (Qp c).toNat; omega, hd4.step, h4⟩, by show (Qp c).toNat - (j + 1) < (Qp c).toNat - j; omega, ?_⟩
       exact Mv.k0
    ·((conv=>whnf);(repeat' ((first|refine Nd ?_|refine Hv fun _h=>?_);conv=>whnf)))
     have h3 : Gl c 300 32 s3 := h3.weak (Int.le_refl _) (by omega)
     refine CallN.autoQ [0] QK (QJ d3 hd3 4) ?_; conv=>whnf
     ((conv=>whnf);(repeat' ((first|refine Nd ?_|refine Hv fun _h=>?_);conv=>whnf)))
     refine CallN.autoQ [0] QK (QJ d3.step hd3.step 12) ?_; conv=>whnf
     ((conv=>whnf);(repeat' ((first|refine Nd ?_|refine Hv fun _h=>?_);conv=>whnf)))
     refine CallN.autoQ [0] QK (QJ d3.step.step hd3.step.step 3) ?_; conv=>whnf
     ((conv=>whnf);(repeat' ((first|refine Nd ?_|refine Hv fun _h=>?_);conv=>whnf)))
     have h4 := h3.flags (d3.next 4 == 3) (d3.step.next 12 == 11)
     by_cases c5 : d3.step.step.next 3 = 2
     ·refine Br.yes (by rw [c5]; rfl) ?_
      ((conv=>whnf);(repeat' ((first|refine Nd ?_|refine Hv fun _h=>?_);conv=>whnf)))
      refine CallN.pureA QlC (QlD s3.dev hsm3.dev ) ?_
      ((conv=>whnf);(repeat' ((first|refine Nd ?_|refine Hv fun _h=>?_);conv=>whnf)))
      refine ⟨_, _, ?_, ⟨(c, (d3.step.step.step, { s3 with want := (d3.next 4 == 3), closed := (d3.step.next 12 == 11), dev := Qbo s3.dev })), ⟨⟨_, hcc.symm⟩, hd3.step.step.step, h4.sync⟩, rfl, rfl⟩⟩
      exact RM.renN [0, 3] (by decide) (show ∀ i, i < 1 → rho [0, 3] i = i by decide) leN wb0 wb0
     ·refine Br.no (by simpa using c5) ?_
      ((conv=>whnf);(repeat' ((first|refine Nd ?_|refine Hv fun _h=>?_);conv=>whnf)))
      refine ⟨_, _, ?_, ⟨(c, (d3.step.step.step, { s3 with want := (d3.next 4 == 3), closed := (d3.step.next 12 == 11) })), ⟨⟨_, hcc.symm⟩, hd3.step.step.step, h4⟩, rfl, rfl⟩⟩
      exact RM.renN [0, 3] (by decide) (show ∀ i, i < 1 → rho [0, 3] i = i by decide) leN wb0 wb0
theorem QqC : HB 14 := hB Tryz.func14
set_option maxHeartbeats 16000000 in
theorem QjN (l : List Int) (b : Bool) (n : Int) : PS 7 [.c (Qh l), .c (.bool b), .c (.int .u8 n)] (.c (.bool true)) := by
 refine PSpec.rm ?_
 refine ov hΓ Tryz.func7 165 0 [.tmp 6] Tryz.ntmps7 Tryz.results7 ?_
 ((conv=>whnf);(repeat' ((first|refine Nd ?_|refine Hv fun _h=>?_);conv=>whnf)))
 refine CallN.pureA QqD (QpI l ) ?_
 ((conv=>whnf);(repeat' ((first|refine Nd ?_|refine Hv fun _h=>?_);conv=>whnf)))
 by_cases hl : l.length ≤ 300
 ·refine Br.no (by rw [decide_eq_true hl]; rfl) ?_
  ((conv=>whnf);(repeat' ((first|refine Nd ?_|refine Hv fun _h=>?_);conv=>whnf)))
  refine CallN.autoQ [] Qkm (Qk3 l (by omega)) ?_; conv=>whnf
  ((conv=>whnf);(repeat' ((first|refine Nd ?_|refine Hv fun _h=>?_);conv=>whnf)))
  refine CallN.exI [0] QqC (Qqt ⟨l, 0⟩ ⟨Nat.zero_le _, by show l.length ≤ _; omega⟩) (fun _ => plh) (fun q hq => ?_); conv=>whnf
  ((conv=>whnf);(repeat' ((first|refine Nd ?_|refine Hv fun _h=>?_);conv=>whnf)))
  obtain ⟨c, d0, s0⟩ := q
  obtain ⟨⟨_, hcd⟩, hd0, hg0⟩ := hq
  have hc0 : QB c = 0 := hg0.gd.conf
  have hf0 : Fl 0 s0 := hg0.fl
  have hcs0 : s0.cfg = c := hg0.gd.cfg
  have hb := Qcf hc0
  refine Lp.mkK hΓ (ι := (DiceM × St) × Nat) [1, 2, 7, 8] (fun x => [(9, .c (.int .i64 x.2))]) (fun x => [.vr x.1.1.cells, .dead, .vr x.1.2.cells]) (fun x => (x.2 ≤ 40 ∧ x.1.1.ok) ∧ x.1.2.cfg = c ∧ Fl x.2 x.1.2) (fun x => 40 - x.2) ((d0, s0), 0) ⟨⟨Nat.zero_le _, hd0⟩, hcs0, hf0⟩ ?_ ?_
  ·refine (Mv.fz 1 rfl (Nat.zero_le _) (fun i _ j _ => QaW _ _)).trans (Mv.mkW ?_ ?_ leN) <;> (first|exact wb0|refine wb1 ?_|refine wb2 ?_ ?_|refine wb3 ?_ ?_ ?_|refine wb4 ?_ ?_ ?_ ?_)
  ·rintro ⟨⟨d, s⟩, i⟩ ⟨⟨hi, hd⟩, hcs, hf⟩
   have hi : i ≤ 40 := hi
   have hd : d.ok := hd
   have hcs : s.cfg = c := hcs
   have hf : Fl i s := hf
   ((conv=>whnf);(repeat' ((first|refine Nd ?_|refine Hv fun _h=>?_);conv=>whnf)))
   have hm : (IntKind.i64.wrap n).tmod 40 < 40 := Int.tmod_lt_of_pos _ (by decide)
   have hall := hf.val.all
   have hsm := hf.small
   by_cases h1 : (i : Int) < (IntKind.i64.wrap n).tmod 40
   ·refine Br.yes (decide_eq_true h1) ?_
    ((conv=>whnf);(repeat' ((first|refine Nd ?_|refine Hv fun _h=>?_);conv=>whnf)))
    refine CallN.pureA Qc5 (Qc4 s b ) ?_
    ((conv=>whnf);(repeat' ((first|refine Nd ?_|refine Hv fun _h=>?_);conv=>whnf)))
    refine CallN.pureA QiL (QiE s hsm (allM s.map) hall b ) ?_
    ((conv=>whnf);(repeat' ((first|refine Nd ?_|refine Hv fun _h=>?_);conv=>whnf)))
    rcases hf.prep b with ⟨e1, e2, e3, e4⟩ | ⟨e1, e2, e3, e4, e5⟩
    ·refine Br.yes (by rw [e1]; rfl) ?_
     ((conv=>whnf);(repeat' ((first|refine Nd ?_|refine Hv fun _h=>?_);conv=>whnf)))
     refine Need.mk (fun hg hb => by rw [hg, hb]; rfl) ?_
     ((conv=>whnf);(repeat' ((first|refine Nd ?_|refine Hv fun _h=>?_);conv=>whnf)))
     refine CallG.auto QeC (fun _ => Qey) ?_
     ((conv=>whnf);(repeat' ((first|refine Nd ?_|refine Hv fun _h=>?_);conv=>whnf)))
     refine RM.i1 ?_
     dsimp only
     rw [e2, decide_eq_true e3]
     rcases e4 with rfl | e4
     ·rfl
     ·rw [e4]; cases b <;> rfl
    ·refine Br.no (by rw [e1]; rfl) ?_
     ((conv=>whnf);(repeat' ((first|refine Nd ?_|refine Hv fun _h=>?_);conv=>whnf)))
     refine Br.no (by dsimp only; rw [e1, e4]; exact bne_self_eq_false _) ?_
     ((conv=>whnf);(repeat' ((first|refine Nd ?_|refine Hv fun _h=>?_);conv=>whnf)))
     generalize (Qae s b).1 = s' at *
     refine CallG.auto Qc5 (fun _ => Qc4 s' b) ?_
     ((conv=>whnf);(repeat' ((first|refine Nd ?_|refine Hv fun _h=>?_);conv=>whnf)))
     by_cases h2 : 0 ≤ Qk s b ∧ Qk s' b ≠ Qk s b
     ·refine Br.yes (by rw [decide_eq_true h2.1, bne_iff_ne.2 h2.2]; rfl) ?_
      obtain ⟨g1, g2, g3⟩ := e5 h2.1 h2.2
      have hz1 := (hf.zlt (QbS s b)).2
      ((conv=>whnf);(repeat' ((first|refine Nd ?_|refine Hv fun _h=>?_);conv=>whnf)))
      have hd1 := e2.dev.size
      have hp1 := e2.val.parts.size
      rw [e3] at hp1
      unfold zAt at g1 g2 g3
      refine CallG.auto Qnp (fun _ => Qny (s'.dev.zones.getD (Qk s b).toNat default) (by omega) (by omega)) ?_
      ((conv=>whnf);(repeat' ((first|refine Nd ?_|refine Hv fun _h=>?_);conv=>whnf)))
      refine Br.no (by rw [g1, g2, g3, e3, bne_self_eq_false s.cfg.size]; rfl) ?_
      ((conv=>whnf);(repeat' ((first|refine Nd ?_|refine Hv fun _h=>?_);conv=>whnf)))
      have hsm' := e2.small
      have hall' := e2.val.all
      have w0 := Qa ((i : Int) + 1) (by omega) (by omega)
      refine CallN.pureA QcZ (Qc8 s' hsm' (allM s'.map) hall' b ) ?_
      ((conv=>whnf);(repeat' ((first|refine Nd ?_|refine Hv fun _h=>?_);conv=>whnf)))
      by_cases hr : Qb5 s' b = true
      ·refine Br.yes hr ?_
       have w1 := Qa (1 + (i : Int)) (by omega) (by omega)
       have hro := Qht (d := d) (b := s'.cfg.blocks) (v := 1 + (i : Int)) (by rw [e3, hcs]; omega) (by omega)
       obtain ⟨a1, a2, a3⟩ := e2.app (by omega) hr hro.1 hro.2
       have a4 : (appS s' b (recR d s'.cfg.blocks (1 + (i : Int)))).1.cfg = s'.cfg := by rw [a1]
       have a5 : (appS s' b (recR d s'.cfg.blocks (1 + (i : Int)))).1.dev.zones.length = s'.dev.zones.length := by rw [a1]; exact Qa7 _ _ _
       have hap := QeP s' hsm' (allM s'.map) hall' b (recR d s'.cfg.blocks (1 + (i : Int)))
       have a6 : appS s' b (recR d s'.cfg.blocks (1 + (i : Int))) = ((appS s' b (recR d s'.cfg.blocks (1 + (i : Int)))).1, Qk s' b, ((zAt s'.dev (Qk s' b)).sectors.length : Int), true) := by rw [a1]
       generalize (appS s' b (recR d s'.cfg.blocks (1 + (i : Int)))).1 = s2 at *
       rw [a6] at hap
       dsimp only at hap
       clear a1 a6
       ((conv=>whnf);(repeat' ((first|refine Nd ?_|refine Hv fun _h=>?_);conv=>whnf)))
       refine Dr.mkY hΓ hMix [35] [(0, 8), (1, 8), (14, 8), (15, 8)] [(14, 16), (15, 17)] (by kernel_rfl) (by kernel_rfl) ?_; conv=>whnf
       ((conv=>whnf);(repeat' ((first|refine Nd ?_|refine Hv fun _h=>?_);conv=>whnf)))
       rw [show IntKind.i64.wrap (1 + (((((d, s), i) : (DiceM × St) × Nat).snd : Nat) : Int)) = 1 + (i : Int) from w1]
       refine CallE.autoQ [0] Qfk (Qfb d hd s'.cfg.blocks (1 + (i : Int))) ?_; conv=>whnf
       ((conv=>whnf);(repeat' ((first|refine Nd ?_|refine Hv fun _h=>?_);conv=>whnf)))
       refine CallP.auto QeI hap ?_
       ((conv=>whnf);(repeat' ((first|refine Nd ?_|refine Hv fun _h=>?_);conv=>whnf)))
       refine Dr.mk hΓ hMix (by kernel_rfl) ?_; conv=>whnf
       ((conv=>whnf);(repeat' ((first|refine Nd ?_|refine Hv fun _h=>?_);conv=>whnf)))
       refine CallP.autoG Qc5 (fun _ => Qc4 s' b) ?_
       ((conv=>whnf);(repeat' ((first|refine Nd ?_|refine Hv fun _h=>?_);conv=>whnf)))
       have hz2 := (e2.zlt (QbS s' b)).2
       refine Need.mk (fun _ => hz2) ?_
       ((conv=>whnf);(repeat' ((first|refine Nd ?_|refine Hv fun _h=>?_);conv=>whnf)))
       refine Br.no (by rw [a5]; unfold zAt; simp only [bne_self_eq_false]; rfl) ?_
       ((conv=>whnf);(repeat' ((first|refine Nd ?_|refine Hv fun _h=>?_);conv=>whnf)))
       rw [show IntKind.i64.wrap ((((((d, s), i) : (DiceM × St) × Nat).snd : Nat) : Int) + 1) = (i : Int) + 1 from w0]
       refine ⟨((recD d, s2), i + 1), ⟨⟨by show i + 1 ≤ 40; omega, Qhj hd⟩, a4.trans (e3.trans hcs), a2⟩, by show 40 - (i + 1) < 40 - i; omega, ?_⟩
       exact Mv.k0
      ·refine Br.no (Qq hr) ?_
       ((conv=>whnf);(repeat' ((first|refine Nd ?_|refine Hv fun _h=>?_);conv=>whnf)))
       rw [show IntKind.i64.wrap ((((((d, s), i) : (DiceM × St) × Nat).snd : Nat) : Int) + 1) = (i : Int) + 1 from w0]
       refine ⟨((d, s'), i + 1), ⟨⟨by show i + 1 ≤ 40; omega, hd⟩, e3.trans hcs, e2.up⟩, by show 40 - (i + 1) < 40 - i; omega, ?_⟩
       exact Mv.k0
     ·refine Br.no (by
       by_cases q : 0 ≤ Qk s b
       ·have : Qk s' b = Qk s b := Decidable.byContradiction fun w => h2 ⟨q, w⟩
        rw [this, bne_self_eq_false]; cases decide (Qk s b ≥ 0) <;> rfl
       ·rw [decide_eq_false q]; rfl) ?_
      ((conv=>whnf);(repeat' ((first|refine Nd ?_|refine Hv fun _h=>?_);conv=>whnf)))
      have hsm' := e2.small
      have hall' := e2.val.all
      have w0 := Qa ((i : Int) + 1) (by omega) (by omega)
      refine CallN.pureA QcZ (Qc8 s' hsm' (allM s'.map) hall' b ) ?_
      ((conv=>whnf);(repeat' ((first|refine Nd ?_|refine Hv fun _h=>?_);conv=>whnf)))
      by_cases hr : Qb5 s' b = true
      ·refine Br.yes hr ?_
       have w1 := Qa (1 + (i : Int)) (by omega) (by omega)
       have hro := Qht (d := d) (b := s'.cfg.blocks) (v := 1 + (i : Int)) (by rw [e3, hcs]; omega) (by omega)
       obtain ⟨a1, a2, a3⟩ := e2.app (by omega) hr hro.1 hro.2
       have a4 : (appS s' b (recR d s'.cfg.blocks (1 + (i : Int)))).1.cfg = s'.cfg := by rw [a1]
       have a5 : (appS s' b (recR d s'.cfg.blocks (1 + (i : Int)))).1.dev.zones.length = s'.dev.zones.length := by rw [a1]; exact Qa7 _ _ _
       have hap := QeP s' hsm' (allM s'.map) hall' b (recR d s'.cfg.blocks (1 + (i : Int)))
       have a6 : appS s' b (recR d s'.cfg.blocks (1 + (i : Int))) = ((appS s' b (recR d s'.cfg.blocks (1 + (i : Int)))).1, Qk s' b, ((zAt s'.dev (Qk s' b)).sectors.length : Int), true) := by rw [a1]
       generalize (appS s' b (recR d s'.cfg.blocks (1 + (i : Int)))).1 = s2 at *
       rw [a6] at hap
       dsimp only at hap
       clear a1 a6
       ((conv=>whnf);(repeat' ((first|refine Nd ?_|refine Hv fun _h=>?_);conv=>whnf)))
       refine Dr.mkY hΓ hMix [35] [(0, 8), (1, 8), (14, 8), (15, 8)] [(14, 16), (15, 17)] (by kernel_rfl) (by kernel_rfl) ?_; conv=>whnf
       ((conv=>whnf);(repeat' ((first|refine Nd ?_|refine Hv fun _h=>?_);conv=>whnf)))
       rw [show IntKind.i64.wrap (1 + (((((d, s), i) : (DiceM × St) × Nat).snd : Nat) : Int)) = 1 + (i : Int) from w1]
       refine CallE.autoQ [0] Qfk (Qfb d hd s'.cfg.blocks (1 + (i : Int))) ?_; conv=>whnf
       ((conv=>whnf);(repeat' ((first|refine Nd ?_|refine Hv fun _h=>?_);conv=>whnf)))
       refine CallP.auto QeI hap ?_
       ((conv=>whnf);(repeat' ((first|refine Nd ?_|refine Hv fun _h=>?_);conv=>whnf)))
       refine Dr.mk hΓ hMix (by kernel_rfl) ?_; conv=>whnf
       ((conv=>whnf);(repeat' ((first|refine Nd ?_|refine Hv fun _h=>?_);conv=>whnf)))
       refine CallP.autoG Qc5 (fun _ => Qc4 s' b) ?_
       ((conv=>whnf);(repeat' ((first|refine Nd ?_|refine Hv fun _h=>?_);conv=>whnf)))
       have hz2 := (e2.zlt (QbS s' b)).2
       refine Need.mk (fun _ => hz2) ?_
       ((conv=>whnf);(repeat' ((first|refine Nd ?_|refine Hv fun _h=>?_);conv=>whnf)))
       refine Br.no (by rw [a5]; unfold zAt; simp only [bne_self_eq_false]; rfl) ?_
       ((conv=>whnf);(repeat' ((first|refine Nd ?_|refine Hv fun _h=>?_);conv=>whnf)))
       rw [show IntKind.i64.wrap ((((((d, s), i) : (DiceM × St) × Nat).snd : Nat) : Int) + 1) = (i : Int) + 1 from w0]
       refine ⟨((recD d, s2), i + 1), ⟨⟨by show i + 1 ≤ 40; omega, Qhj hd⟩, a4.trans (e3.trans hcs), a2⟩, by show 40 - (i + 1) < 40 - i; omega, ?_⟩
       exact Mv.k0
      ·refine Br.no (Qq hr) ?_
       ((conv=>whnf);(repeat' ((first|refine Nd ?_|refine Hv fun _h=>?_);conv=>whnf)))
       rw [show IntKind.i64.wrap ((((((d, s), i) : (DiceM × St) × Nat).snd : Nat) : Int) + 1) = (i : Int) + 1 from w0]
       refine ⟨((d, s'), i + 1), ⟨⟨by show i + 1 ≤ 40; omega, hd⟩, e3.trans hcs, e2.up⟩, by show 40 - (i + 1) < 40 - i; omega, ?_⟩
       exact Mv.k0
   ·refine Br.no (decide_eq_false h1) ?_
    ((conv=>whnf);(repeat' ((first|refine Nd ?_|refine Hv fun _h=>?_);conv=>whnf)))
    refine CallN.pureA QeC Qey ?_
    ((conv=>whnf);(repeat' ((first|refine Nd ?_|refine Hv fun _h=>?_);conv=>whnf)))
    exact RM.i0
 ·refine Br.yes (by rw [decide_eq_false hl]; rfl) ?_
  ((conv=>whnf);(repeat' ((first|refine Nd ?_|refine Hv fun _h=>?_);conv=>whnf)))
  refine CallN.pureA QeC Qey ?_
  ((conv=>whnf);(repeat' ((first|refine Nd ?_|refine Hv fun _h=>?_);conv=>whnf)))
  exact RM.i0
end Go.Proofs
end
