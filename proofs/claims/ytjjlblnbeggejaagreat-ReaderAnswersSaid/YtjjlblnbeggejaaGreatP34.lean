/- Contracts, lemmas; no condition. -/
import Derived.Test.YtjjlblnbeggejaaGreatP33
import Derived.Test.YtjjlblnbeggejaaGreatP26
import Derived.Test.YtjjlblnbeggejaaGreatP31
import Derived.Test.YtjjlblnbeggejaaGreatP32
import Derived.Test.YtjjlblnbeggejaaGreatP27
import Derived.Test.YtjjlblnbeggejaaGreatP28
import Derived.Test.YtjjlblnbeggejaaGreatP10
set_option linter.all false
section
open Go Go.Am
namespace Go.Proofs
set_option maxRecDepth 20000
theorem Qgu {c : Conf} {n : Int} {r : Nat} {s : St} (h : Gl c n r s) : (allS s.map).length ≤ 100000 := QrQ h.gd.val
set_option maxHeartbeats 8000000 in
theorem Qpw (c : Conf) (n : Int) (r : Nat) (d : DiceM) (hd : d.ok) (s : St) (h : Gl c n r s) (hn : n + c.size ≤ 100000) (hr : r ≤ 1000) (hh : s.host = -1) (hl : s.lane = -1) : CS 58 [.c (.ptr 0 0), .a (s.cellsK 1)] [.vr d.cells, s.wobj] fun x H => ∃ i : DS, (i.1.ok ∧ Gl c (n + c.size) r i.2) ∧ x = .a (i.2.cellsK 1) ∧ H = [.vr i.1.cells, i.2.wobj] := by
 have hcf := confR_iff.1 (QR h.gd.conf).1
 have hsm := h.small om
 refine CSpec.rm ?_
 refine ov hΓ Tryz.func58 107 2 [.cell 4 58] Tryz.ntmps58 Tryz.results58 ?_
 ((conv=>whnf);(repeat' ((first|refine Nd ?_|refine Hv fun _h=>?_);conv=>whnf)))
 refine CallG.autoQ [0] QK (QJ d hd 4) (fun hg => ?_) (fun hg => ?_) <;> (conv=>whnf)
 ·((conv=>whnf);(repeat' ((first|refine Nd ?_|refine Hv fun _h=>?_);conv=>whnf)))
  have hf : 0 < s.free.length := by simpa using hg
  rw [Qxz (p := ((s.free.length : Int) > 0)) om]
  by_cases c1 : d.next 4 > 0
  ·refine Br.yes (Qxz c1) ?_
   ((conv=>whnf);(repeat' ((first|refine Nd ?_|refine Hv fun _h=>?_);conv=>whnf)))
   refine QuU Qck (Qcc s.free (s.free.getD 0 default) hsm.free ) ?_
   ((conv=>whnf);(repeat' ((first|refine Nd ?_|refine Hv fun _h=>?_);conv=>whnf)))
   refine CallN.autoQ [0] QK (QJ d.step hd.step s.cfg.size) ?_; conv=>whnf
   ((conv=>whnf);(repeat' ((first|refine Nd ?_|refine Hv fun _h=>?_);conv=>whnf)))
   have hx := d.step.next_range (n := s.cfg.size) (by rw [h.gd.cfg]; omega) (by rw [h.gd.cfg]; omega)
   have hcs : s.cfg.size = c.size := by rw [h.gd.cfg]
   refine QuY hΓ (ι := DS × Nat) [0, 3, 4, 5] (fun i => [(6, .c (.int .i64 (d.step.next s.cfg.size - i.2)))]) (fun i => [.vr i.1.1.cells, i.1.2.wobj, .vr (i.1.2.cellsK 1), .vr (default : St).cells]) (fun i => i.2 ≤ (d.step.next s.cfg.size).toNat ∧ i.1.1.ok ∧ Gl c (n + i.2) r i.1.2 ∧ i.1.2.host = s.free.getD 0 default ∧ i.1.2.lane = -1 ∧ Wz i.1.2 [i.1.2.host, i.1.2.lane] (s.free.getD 0 default) i.2) (fun i => (d.step.next s.cfg.size).toNat - i.2) ((d.step.step, { (s.unfree (s.free.getD 0 default)) with host := s.free.getD 0 default }), 0) ⟨Qxx _, hd.step.step, (h.setHost hf hh).1.weak (by simp) (QxB _), rfl, hl, (h.setHost hf hh).2⟩ ?_ ?_
   ·exact QuW
   ·rintro ⟨⟨d1, s1⟩, k⟩ ⟨hk, hd1, h1, hh1, hl1, hw1⟩
    have h1 : Gl c (n + k) r s1 := h1
    have hh1 : s1.host = s.free.getD 0 default := hh1
    have hl1 : s1.lane = -1 := hl1
    have hw1 : Wz s1 [s1.host, s1.lane] (s.free.getD 0 default) k := hw1
    have hk : k ≤ (d.step.next s.cfg.size).toNat := hk
    have hd1 : d1.ok := hd1
    have hsm1 := h1.small om
    have hp1 := h1.gd.val.parts.next
    have hp2 := h1.gd.next
    ((conv=>whnf);(repeat' ((first|refine Nd ?_|refine Hv fun _h=>?_);conv=>whnf)))
    refine Br.of (fun h3=>?_) (fun h3=>?_)<;>(try simp only [Qxy] at h3)<;>(conv=>whnf)
    ·((conv=>whnf);(repeat' ((first|refine Nd ?_|refine Hv fun _h=>?_);conv=>whnf)))
     have w0 := Qa (d.step.next s.cfg.size - k - 1) om om
     have hb := Qcf h1.gd.conf
     refine CallN.autoI [0, 1] Qje (Qjp d1 hd1 s1 ⟨om, om⟩) plh ?_; conv=>whnf
     ((conv=>whnf);(repeat' ((first|refine Nd ?_|refine Hv fun _h=>?_);conv=>whnf)))
     refine CallN.autoI [1] QjH (Qjd s1.bump ((h1.bump om).small om) (s.free.getD 0 default) (recR d1 s1.cfg.blocks s1.next)) plh ?_; conv=>whnf
     ((conv=>whnf);(repeat' ((first|refine Nd ?_|refine Hv fun _h=>?_);conv=>whnf)))
     have hro := Qht (d := d1) (b := s1.cfg.blocks) (v := s1.next) (by rw [h1.gd.cfg]; omega) om
     obtain ⟨g1, g2, g3, g4⟩ := Qxj (h1.bump om) (z := s.free.getD 0 default) (k := k) (.inl hh1.symm) hw1.ge ⟨hw1.mem, hw1.ge, hw1.lt, hw1.nfree, hw1.len, hw1.st⟩ om (x := recR d1 s1.cfg.blocks s1.next) (by rw [h1.gd.cfg]; exact (Qf8 _ hb.1 hb.2).2) hro.1 hro.2
     refine ⟨((recD d1, s1.bump.add (s.free.getD 0 default) (recR d1 s1.cfg.blocks s1.next)), k + 1), ⟨by show k + 1 ≤ (d.step.next s.cfg.size).toNat; omega, Qhj hd1, ?_, g3.trans hh1, g4.trans hl1, g2⟩, by show (d.step.next s.cfg.size).toNat - (k + 1) < (d.step.next s.cfg.size).toNat - k; omega, ?_⟩
     ·exact g1.weak (by show n + k + 1 ≤ n + ((k + 1 : Nat) : Int); omega) (QxB _)
     ·exact QuW
    ·((conv=>whnf);(repeat' ((first|refine Nd ?_|refine Hv fun _h=>?_);conv=>whnf)))
     have : k = (d.step.next s.cfg.size).toNat := by omega
     have h1 : Gl c (n + c.size) r s1 := h1.weak om (QxB _)
     have hsb := Gl.small h1 om
     refine CallG.autoQ [0] QK (QJ d1 hd1 3) (fun hg => ?_) (fun hg => ?_) <;> (conv=>whnf)
     ·((conv=>whnf);(repeat' ((first|refine Nd ?_|refine Hv fun _h=>?_);conv=>whnf)))
      have hf : 0 < (s1).free.length := by simpa using hg
      rw [Qxz (p := (((s1).free.length : Int) > 0)) om]
      by_cases c2 : (d1).next 3 > 0
      ·refine Br.yes (Qxz c2) ?_
       ((conv=>whnf);(repeat' ((first|refine Nd ?_|refine Hv fun _h=>?_);conv=>whnf)))
       refine QuU Qck (Qcc (s1).free ((s1).free.getD 0 default) hsb.free ) ?_
       ((conv=>whnf);(repeat' ((first|refine Nd ?_|refine Hv fun _h=>?_);conv=>whnf)))
       refine QuU Qgm (QgX (s1).map hsb.shard hsb.map ) ?_
       ((conv=>whnf);(repeat' ((first|refine Nd ?_|refine Hv fun _h=>?_);conv=>whnf)))
       refine QuY hΓ (ι := DS × Nat) [0, 3, 4, 9, 10] (fun i => [(11, .c (.int .i64 i.2))]) (fun i => [.vr i.1.1.cells, i.1.2.wobj, .vr (i.1.2.cellsK 1), .vr (default : St).cells]) (fun i => i.2 ≤ (allS (s1).map).length ∧ i.1.1.ok ∧ Gl c (n + c.size) r i.1.2 ∧ i.1.2.lane = (s1).free.getD 0 default ∧ ∃ j, j ≤ i.2 ∧ Wz i.1.2 [i.1.2.host, i.1.2.lane] ((s1).free.getD 0 default) j) (fun i => (allS (s1).map).length - i.2) (((d1).step, { ((s1).unfree ((s1).free.getD 0 default)) with lane := (s1).free.getD 0 default }), 0) ⟨Qxx _, DiceM.ok.step hd1, (Gl.setLane h1 hf hl1).1, rfl, 0, QxB _, (Gl.setLane h1 hf hl1).2⟩ ?_ ?_
       ·exact QuW
       ·rintro ⟨⟨d2, s2⟩, k⟩ ⟨hk, hd2, h2, hln, j, hj, hw⟩
        have h2 : Gl c (n + c.size) r s2 := h2
        have hln : s2.lane = (s1).free.getD 0 default := hln
        have hj : j ≤ k := hj
        have hw : Wz s2 [s2.host, s2.lane] ((s1).free.getD 0 default) j := hw
        have hk : k ≤ (allS (s1).map).length := hk
        have hd2 : d2.ok := hd2
        have hl := Qgu h1
        ((conv=>whnf);(repeat' ((first|refine Nd ?_|refine Hv fun _h=>?_);conv=>whnf)))
        refine CallG.autoQ [0] QK (QJ d2 hd2 s2.cfg.size) (fun hg => ?_) (fun hg => ?_) <;> (conv=>whnf)
        ·((conv=>whnf);(repeat' ((first|refine Nd ?_|refine Hv fun _h=>?_);conv=>whnf)))
         have hk2 : k < (allS (s1).map).length := by simpa using hg
         rw [Qxz (p := ((k : Int) < ((allS (s1).map).length : Int))) om]
         by_cases c3 : (k : Int) < d2.next s2.cfg.size
         ·refine Br.yes (Qxz c3) ?_
          ((conv=>whnf);(repeat' ((first|refine Nd ?_|refine Hv fun _h=>?_);conv=>whnf)))
          have w0 := Qa (↑k + 1) om om
          have hx2 := d2.next_range (n := s2.cfg.size) (by rw [h2.gd.cfg]; omega) (by rw [h2.gd.cfg]; omega)
          have hcc2 : s2.cfg.size = c.size := by rw [h2.gd.cfg]
          obtain ⟨g1, ⟨j2, hj2, g2⟩, g3, g4⟩ := h2.copied (.inr hln.symm) hw.ge hw om ((allS (s1).map).getD k default)
          refine Qvd hΓ hMix [144, 8589934736] [] (by kernel_rfl) ?_; conv=>whnf
          ((conv=>whnf);(repeat' ((first|refine Nd ?_|refine Hv fun _h=>?_);conv=>whnf)))
          refine CallF.autoI [1] Qfh (Qe2 s2 (h2.small om) ((allS (s1).map).getD k default) ((s1).free.getD 0 default)) plh ?_; conv=>whnf
          ((conv=>whnf);(repeat' ((first|refine Nd ?_|refine Hv fun _h=>?_);conv=>whnf)))
          refine ⟨((d2.step, s2.copied ((allS (s1).map).getD k default) ((s1).free.getD 0 default)), k + 1), ⟨hk2, hd2.step, g1, g4.trans hln, j2, by show j2 ≤ k + 1; omega, g2⟩, by show (allS (s1).map).length - (k + 1) < (allS (s1).map).length - k; omega, ?_⟩
          have hw : (s2.copied ((allS (s1).map).getD k default) ((s1).free.getD 0 default)).works = s2.works := Qda _ _ _
          refine Mv.mkW ?_ ?_ leN <;> (first|exact wb0|refine wb1 ?_|refine wb2 ?_ ?_|refine wb3 ?_ ?_ ?_|refine wb4 ?_ ?_ ?_ ?_)
          ·refine WO.arr (QxK List.length hw).symm fun i _ j _ => ?_
           show WC _ _ (wrkG s2.works i j) (wrkG (s2.copied ((allS (s1).map).getD k default) ((s1).free.getD 0 default)).works i j)
           rw [hw]
           exact WC.imm (QaW _ _)
          all_goals exact Qv5 (hl := QxK List.length hw.symm) (ht := QxK List.length hw.symm)
         ·refine Br.no (QxE c3) ?_
          ((conv=>whnf);(repeat' ((first|refine Nd ?_|refine Hv fun _h=>?_);conv=>whnf)))
          refine ⟨_, _, ?_, ⟨(d2.step, s2), ⟨hd2.step, h2.weak om (QxB _)⟩, rfl, rfl⟩⟩
          exact QvB
        ·((conv=>whnf);(repeat' ((first|refine Nd ?_|refine Hv fun _h=>?_);conv=>whnf)))
         rw [hg]
         refine Br.no rfl ?_; conv=>whnf
         ((conv=>whnf);(repeat' ((first|refine Nd ?_|refine Hv fun _h=>?_);conv=>whnf)))
         refine ⟨_, _, ?_, ⟨(d2, s2), ⟨hd2, h2.weak om (QxB _)⟩, rfl, rfl⟩⟩
         exact QvB
      ·refine Br.no (QxE c2) ?_
       ((conv=>whnf);(repeat' ((first|refine Nd ?_|refine Hv fun _h=>?_);conv=>whnf)))
       refine ⟨_, _, ?_, ⟨((d1).step, s1), ⟨DiceM.ok.step hd1, Gl.weak h1 om (QxB _)⟩, rfl, rfl⟩⟩
       exact QvB
     ·((conv=>whnf);(repeat' ((first|refine Nd ?_|refine Hv fun _h=>?_);conv=>whnf)))
      rw [hg]
      refine Br.no rfl ?_; conv=>whnf
      ((conv=>whnf);(repeat' ((first|refine Nd ?_|refine Hv fun _h=>?_);conv=>whnf)))
      refine ⟨_, _, ?_, ⟨(d1, s1), ⟨hd1, Gl.weak h1 om (QxB _)⟩, rfl, rfl⟩⟩
      exact QvB
  ·refine Br.no (QxE c1) ?_
   ((conv=>whnf);(repeat' ((first|refine Nd ?_|refine Hv fun _h=>?_);conv=>whnf)))
   have hsb := Gl.small h om
   refine CallG.autoQ [0] QK (QJ d.step hd.step 3) (fun hg => ?_) (fun hg => ?_) <;> (conv=>whnf)
   ·((conv=>whnf);(repeat' ((first|refine Nd ?_|refine Hv fun _h=>?_);conv=>whnf)))
    have hf : 0 < (s).free.length := by simpa using hg
    rw [Qxz (p := (((s).free.length : Int) > 0)) om]
    by_cases c2 : (d.step).next 3 > 0
    ·refine Br.yes (Qxz c2) ?_
     ((conv=>whnf);(repeat' ((first|refine Nd ?_|refine Hv fun _h=>?_);conv=>whnf)))
     refine QuU Qck (Qcc (s).free ((s).free.getD 0 default) hsb.free ) ?_
     ((conv=>whnf);(repeat' ((first|refine Nd ?_|refine Hv fun _h=>?_);conv=>whnf)))
     refine QuU Qgm (QgX (s).map hsb.shard hsb.map ) ?_
     ((conv=>whnf);(repeat' ((first|refine Nd ?_|refine Hv fun _h=>?_);conv=>whnf)))
     refine QuY hΓ (ι := DS × Nat) [0, 3, 4, 9, 10] (fun i => [(11, .c (.int .i64 i.2))]) (fun i => [.vr i.1.1.cells, i.1.2.wobj, .vr (i.1.2.cellsK 1), .vr (default : St).cells]) (fun i => i.2 ≤ (allS (s).map).length ∧ i.1.1.ok ∧ Gl c n r i.1.2 ∧ i.1.2.lane = (s).free.getD 0 default ∧ ∃ j, j ≤ i.2 ∧ Wz i.1.2 [i.1.2.host, i.1.2.lane] ((s).free.getD 0 default) j) (fun i => (allS (s).map).length - i.2) (((d.step).step, { ((s).unfree ((s).free.getD 0 default)) with lane := (s).free.getD 0 default }), 0) ⟨Qxx _, DiceM.ok.step hd.step, (Gl.setLane h hf hl).1, rfl, 0, QxB _, (Gl.setLane h hf hl).2⟩ ?_ ?_
     ·exact QuW
     ·rintro ⟨⟨d2, s2⟩, k⟩ ⟨hk, hd2, h2, hln, j, hj, hw⟩
      have h2 : Gl c n r s2 := h2
      have hln : s2.lane = (s).free.getD 0 default := hln
      have hj : j ≤ k := hj
      have hw : Wz s2 [s2.host, s2.lane] ((s).free.getD 0 default) j := hw
      have hk : k ≤ (allS (s).map).length := hk
      have hd2 : d2.ok := hd2
      have hl := Qgu h
      ((conv=>whnf);(repeat' ((first|refine Nd ?_|refine Hv fun _h=>?_);conv=>whnf)))
      refine CallG.autoQ [0] QK (QJ d2 hd2 s2.cfg.size) (fun hg => ?_) (fun hg => ?_) <;> (conv=>whnf)
      ·((conv=>whnf);(repeat' ((first|refine Nd ?_|refine Hv fun _h=>?_);conv=>whnf)))
       have hk2 : k < (allS (s).map).length := by simpa using hg
       rw [Qxz (p := ((k : Int) < ((allS (s).map).length : Int))) om]
       by_cases c3 : (k : Int) < d2.next s2.cfg.size
       ·refine Br.yes (Qxz c3) ?_
        ((conv=>whnf);(repeat' ((first|refine Nd ?_|refine Hv fun _h=>?_);conv=>whnf)))
        have w0 := Qa (↑k + 1) om om
        have hx2 := d2.next_range (n := s2.cfg.size) (by rw [h2.gd.cfg]; omega) (by rw [h2.gd.cfg]; omega)
        have hcc2 : s2.cfg.size = c.size := by rw [h2.gd.cfg]
        obtain ⟨g1, ⟨j2, hj2, g2⟩, g3, g4⟩ := h2.copied (.inr hln.symm) hw.ge hw om ((allS (s).map).getD k default)
        refine Qvd hΓ hMix [144, 8589934736] [] (by kernel_rfl) ?_; conv=>whnf
        ((conv=>whnf);(repeat' ((first|refine Nd ?_|refine Hv fun _h=>?_);conv=>whnf)))
        refine CallF.autoI [1] Qfh (Qe2 s2 (h2.small om) ((allS (s).map).getD k default) ((s).free.getD 0 default)) plh ?_; conv=>whnf
        ((conv=>whnf);(repeat' ((first|refine Nd ?_|refine Hv fun _h=>?_);conv=>whnf)))
        refine ⟨((d2.step, s2.copied ((allS (s).map).getD k default) ((s).free.getD 0 default)), k + 1), ⟨hk2, hd2.step, g1, g4.trans hln, j2, by show j2 ≤ k + 1; omega, g2⟩, by show (allS (s).map).length - (k + 1) < (allS (s).map).length - k; omega, ?_⟩
        have hw : (s2.copied ((allS (s).map).getD k default) ((s).free.getD 0 default)).works = s2.works := Qda _ _ _
        refine Mv.mkW ?_ ?_ leN <;> (first|exact wb0|refine wb1 ?_|refine wb2 ?_ ?_|refine wb3 ?_ ?_ ?_|refine wb4 ?_ ?_ ?_ ?_)
        ·refine WO.arr (QxK List.length hw).symm fun i _ j _ => ?_
         show WC _ _ (wrkG s2.works i j) (wrkG (s2.copied ((allS (s).map).getD k default) ((s).free.getD 0 default)).works i j)
         rw [hw]
         exact WC.imm (QaW _ _)
        all_goals exact Qv5 (hl := QxK List.length hw.symm) (ht := QxK List.length hw.symm)
       ·refine Br.no (QxE c3) ?_
        ((conv=>whnf);(repeat' ((first|refine Nd ?_|refine Hv fun _h=>?_);conv=>whnf)))
        refine ⟨_, _, ?_, ⟨(d2.step, s2), ⟨hd2.step, h2.weak om (QxB _)⟩, rfl, rfl⟩⟩
        exact QvB
      ·((conv=>whnf);(repeat' ((first|refine Nd ?_|refine Hv fun _h=>?_);conv=>whnf)))
       rw [hg]
       refine Br.no rfl ?_; conv=>whnf
       ((conv=>whnf);(repeat' ((first|refine Nd ?_|refine Hv fun _h=>?_);conv=>whnf)))
       refine ⟨_, _, ?_, ⟨(d2, s2), ⟨hd2, h2.weak om (QxB _)⟩, rfl, rfl⟩⟩
       exact QvB
    ·refine Br.no (QxE c2) ?_
     ((conv=>whnf);(repeat' ((first|refine Nd ?_|refine Hv fun _h=>?_);conv=>whnf)))
     refine ⟨_, _, ?_, ⟨((d.step).step, s), ⟨DiceM.ok.step hd.step, Gl.weak h om (QxB _)⟩, rfl, rfl⟩⟩
     exact QvB
   ·((conv=>whnf);(repeat' ((first|refine Nd ?_|refine Hv fun _h=>?_);conv=>whnf)))
    rw [hg]
    refine Br.no rfl ?_; conv=>whnf
    ((conv=>whnf);(repeat' ((first|refine Nd ?_|refine Hv fun _h=>?_);conv=>whnf)))
    refine ⟨_, _, ?_, ⟨(d.step, s), ⟨hd.step, Gl.weak h om (QxB _)⟩, rfl, rfl⟩⟩
    exact QvB
 ·((conv=>whnf);(repeat' ((first|refine Nd ?_|refine Hv fun _h=>?_);conv=>whnf)))
  rw [hg]
  refine Br.no rfl ?_; conv=>whnf
  ((conv=>whnf);(repeat' ((first|refine Nd ?_|refine Hv fun _h=>?_);conv=>whnf)))
  have hsb := Gl.small h om
  refine CallG.autoQ [0] QK (QJ d hd 3) (fun hg => ?_) (fun hg => ?_) <;> (conv=>whnf)
  ·((conv=>whnf);(repeat' ((first|refine Nd ?_|refine Hv fun _h=>?_);conv=>whnf)))
   have hf : 0 < (s).free.length := by simpa using hg
   rw [Qxz (p := (((s).free.length : Int) > 0)) om]
   by_cases c2 : (d).next 3 > 0
   ·refine Br.yes (Qxz c2) ?_
    ((conv=>whnf);(repeat' ((first|refine Nd ?_|refine Hv fun _h=>?_);conv=>whnf)))
    refine QuU Qck (Qcc (s).free ((s).free.getD 0 default) hsb.free ) ?_
    ((conv=>whnf);(repeat' ((first|refine Nd ?_|refine Hv fun _h=>?_);conv=>whnf)))
    refine QuU Qgm (QgX (s).map hsb.shard hsb.map ) ?_
    ((conv=>whnf);(repeat' ((first|refine Nd ?_|refine Hv fun _h=>?_);conv=>whnf)))
    refine QuY hΓ (ι := DS × Nat) [0, 3, 4, 9, 10] (fun i => [(11, .c (.int .i64 i.2))]) (fun i => [.vr i.1.1.cells, i.1.2.wobj, .vr (i.1.2.cellsK 1), .vr (default : St).cells]) (fun i => i.2 ≤ (allS (s).map).length ∧ i.1.1.ok ∧ Gl c n r i.1.2 ∧ i.1.2.lane = (s).free.getD 0 default ∧ ∃ j, j ≤ i.2 ∧ Wz i.1.2 [i.1.2.host, i.1.2.lane] ((s).free.getD 0 default) j) (fun i => (allS (s).map).length - i.2) (((d).step, { ((s).unfree ((s).free.getD 0 default)) with lane := (s).free.getD 0 default }), 0) ⟨Qxx _, DiceM.ok.step hd, (Gl.setLane h hf hl).1, rfl, 0, QxB _, (Gl.setLane h hf hl).2⟩ ?_ ?_
    ·exact QuW
    ·rintro ⟨⟨d2, s2⟩, k⟩ ⟨hk, hd2, h2, hln, j, hj, hw⟩
     have h2 : Gl c n r s2 := h2
     have hln : s2.lane = (s).free.getD 0 default := hln
     have hj : j ≤ k := hj
     have hw : Wz s2 [s2.host, s2.lane] ((s).free.getD 0 default) j := hw
     have hk : k ≤ (allS (s).map).length := hk
     have hd2 : d2.ok := hd2
     have hl := Qgu h
     ((conv=>whnf);(repeat' ((first|refine Nd ?_|refine Hv fun _h=>?_);conv=>whnf)))
     refine CallG.autoQ [0] QK (QJ d2 hd2 s2.cfg.size) (fun hg => ?_) (fun hg => ?_) <;> (conv=>whnf)
     ·((conv=>whnf);(repeat' ((first|refine Nd ?_|refine Hv fun _h=>?_);conv=>whnf)))
      have hk2 : k < (allS (s).map).length := by simpa using hg
      rw [Qxz (p := ((k : Int) < ((allS (s).map).length : Int))) om]
      by_cases c3 : (k : Int) < d2.next s2.cfg.size
      ·refine Br.yes (Qxz c3) ?_
       ((conv=>whnf);(repeat' ((first|refine Nd ?_|refine Hv fun _h=>?_);conv=>whnf)))
       have w0 := Qa (↑k + 1) om om
       have hx2 := d2.next_range (n := s2.cfg.size) (by rw [h2.gd.cfg]; omega) (by rw [h2.gd.cfg]; omega)
       have hcc2 : s2.cfg.size = c.size := by rw [h2.gd.cfg]
       obtain ⟨g1, ⟨j2, hj2, g2⟩, g3, g4⟩ := h2.copied (.inr hln.symm) hw.ge hw om ((allS (s).map).getD k default)
       refine Qvd hΓ hMix [144, 8589934736] [] (by kernel_rfl) ?_; conv=>whnf
       ((conv=>whnf);(repeat' ((first|refine Nd ?_|refine Hv fun _h=>?_);conv=>whnf)))
       refine CallF.autoI [1] Qfh (Qe2 s2 (h2.small om) ((allS (s).map).getD k default) ((s).free.getD 0 default)) plh ?_; conv=>whnf
       ((conv=>whnf);(repeat' ((first|refine Nd ?_|refine Hv fun _h=>?_);conv=>whnf)))
       refine ⟨((d2.step, s2.copied ((allS (s).map).getD k default) ((s).free.getD 0 default)), k + 1), ⟨hk2, hd2.step, g1, g4.trans hln, j2, by show j2 ≤ k + 1; omega, g2⟩, by show (allS (s).map).length - (k + 1) < (allS (s).map).length - k; omega, ?_⟩
       have hw : (s2.copied ((allS (s).map).getD k default) ((s).free.getD 0 default)).works = s2.works := Qda _ _ _
       refine Mv.mkW ?_ ?_ leN <;> (first|exact wb0|refine wb1 ?_|refine wb2 ?_ ?_|refine wb3 ?_ ?_ ?_|refine wb4 ?_ ?_ ?_ ?_)
       ·refine WO.arr (QxK List.length hw).symm fun i _ j _ => ?_
        show WC _ _ (wrkG s2.works i j) (wrkG (s2.copied ((allS (s).map).getD k default) ((s).free.getD 0 default)).works i j)
        rw [hw]
        exact WC.imm (QaW _ _)
       all_goals exact Qv5 (hl := QxK List.length hw.symm) (ht := QxK List.length hw.symm)
      ·refine Br.no (QxE c3) ?_
       ((conv=>whnf);(repeat' ((first|refine Nd ?_|refine Hv fun _h=>?_);conv=>whnf)))
       refine ⟨_, _, ?_, ⟨(d2.step, s2), ⟨hd2.step, h2.weak om (QxB _)⟩, rfl, rfl⟩⟩
       exact QvB
     ·((conv=>whnf);(repeat' ((first|refine Nd ?_|refine Hv fun _h=>?_);conv=>whnf)))
      rw [hg]
      refine Br.no rfl ?_; conv=>whnf
      ((conv=>whnf);(repeat' ((first|refine Nd ?_|refine Hv fun _h=>?_);conv=>whnf)))
      refine ⟨_, _, ?_, ⟨(d2, s2), ⟨hd2, h2.weak om (QxB _)⟩, rfl, rfl⟩⟩
      exact QvB
   ·refine Br.no (QxE c2) ?_
    ((conv=>whnf);(repeat' ((first|refine Nd ?_|refine Hv fun _h=>?_);conv=>whnf)))
    refine ⟨_, _, ?_, ⟨((d).step, s), ⟨DiceM.ok.step hd, Gl.weak h om (QxB _)⟩, rfl, rfl⟩⟩
    exact QvB
  ·((conv=>whnf);(repeat' ((first|refine Nd ?_|refine Hv fun _h=>?_);conv=>whnf)))
   rw [hg]
   refine Br.no rfl ?_; conv=>whnf
   ((conv=>whnf);(repeat' ((first|refine Nd ?_|refine Hv fun _h=>?_);conv=>whnf)))
   refine ⟨_, _, ?_, ⟨(d, s), ⟨hd, Gl.weak h om (QxB _)⟩, rfl, rfl⟩⟩
   exact QvB
theorem Qqk : HB 58 := hB Tryz.func58
set_option maxHeartbeats 2000000 in
theorem Qqt (d : DiceM) (hd : d.ok) : CS 14 [.c (.ptr 0 0)] [.vr d.cells] fun x H => ∃ i : Conf × DS, ((∃ d, i.1 = Q7 d) ∧ i.2.1.ok ∧ Gl i.1 300 32 i.2.2) ∧ x = .a (i.2.2.cellsK 1) ∧ H = [.vr i.2.1.cells, i.2.2.wobj] := by
 have hc := QfV d
 have hb := Qno d
 have hdn := Qol hc
 have hcf := confR_iff.1 (QR hc).1
 have hs1 := Qak (QR hc).1
 have hdz : Qp (Q7 d) = (Q7 d).zones - 2 * Qz (Q7 d) := rfl
 refine CSpec.rm ?_
 refine ov hΓ Tryz.func14 118 1 [.cell 2 58] Tryz.ntmps14 Tryz.results14 ?_
 ((conv=>whnf);(repeat' ((first|refine Nd ?_|refine Hv fun _h=>?_);conv=>whnf)))
 refine CallN.autoQ [0] Qjs (QiT d hd) ?_; conv=>whnf
 ((conv=>whnf);(repeat' ((first|refine Nd ?_|refine Hv fun _h=>?_);conv=>whnf)))
 refine CallN.autoI [] Qsf (QrV (Q7 d) hc) plh ?_; conv=>whnf
 ((conv=>whnf);(repeat' ((first|refine Nd ?_|refine Hv fun _h=>?_);conv=>whnf)))
 refine QuU QfZ (QfS (Q7 d) hc ) ?_
 ((conv=>whnf);(repeat' ((first|refine Nd ?_|refine Hv fun _h=>?_);conv=>whnf)))
 have hx := (QfD d).next_range (n := Qp (Q7 d)) om om
 refine CallN.autoQ [0] QK (QJ (QfD d) (Qkr hd) (Qp (Q7 d))) ?_; conv=>whnf
 ((conv=>whnf);(repeat' ((first|refine Nd ?_|refine Hv fun _h=>?_);conv=>whnf)))
 have hm : ∀ k : Nat, (k : Int) ≤ 32 → (k : Int) * (Q7 d).size ≤ 192 := fun k hk => by
  have := Int.mul_le_mul hk hb.1 om om
  omega
 have hsd := Qkr hd
 generalize hcc : Q7 d = c at *
 generalize QfD d = d0 at *
 have z0 : Gl c (1 + ((0 : Nat) : Int) * c.size) 0 (Qs c) := (Qie hc).1.weak (by simp) (QxB _)
 have z1 : (d0).step.ok := hsd.step
 refine QuY hΓ (ι := DS × Nat) [0, 2, 3, 4, 6, 8] (fun i => [(9, .c (.int .i64 i.2))]) (fun i => [.vr i.1.1.cells, .vr (default : St).cells, .vr c.cells, i.1.2.wobj, .vr (i.1.2.cellsK 3), .vr (Lay.cells c)]) (fun i => i.2 ≤ ((d0).next (Qp c)).toNat ∧ i.1.1.ok ∧ Gl c (1 + i.2 * c.size) 0 i.1.2 ∧ i.1.2.host = -1 ∧ i.1.2.lane = -1 ∧ ∀ j : Nat, 2 * Qz c + i.2 ≤ (j : Int) → (i.1.2.dev.zones.getD j default).state = 0) (fun i => ((d0).next (Qp c)).toNat - i.2) (((d0).step, Qs c), 0) ⟨Qxx _, z1, z0, rfl, rfl, fun j _ => (Qie hc).2 j⟩ ?_ ?_
 ·exact QuW
 ·rintro ⟨⟨d1, s1⟩, k⟩ ⟨hk, hd1, h1, hh1, hl1, he1⟩
  have h1 : Gl c (1 + k * c.size) 0 s1 := h1
  have hh1 : s1.host = -1 := hh1
  have hl1 : s1.lane = -1 := hl1
  have he1 : ∀ j : Nat, 2 * Qz c + k ≤ (j : Int) → (s1.dev.zones.getD j default).state = 0 := he1
  have hk : k ≤ ((d0).next (Qp c)).toNat := hk
  have hd1 : d1.ok := hd1
  have hsm1 := h1.small om
  have hkm := hm k om
  ((conv=>whnf);(repeat' ((first|refine Nd ?_|refine Hv fun _h=>?_);conv=>whnf)))
  refine Br.of (fun h3=>?_) (fun h3=>?_)<;>(try simp only [Qxy] at h3)<;>(conv=>whnf)
  ·((conv=>whnf);(repeat' ((first|refine Nd ?_|refine Hv fun _h=>?_);conv=>whnf)))
   have w0 := Qa (2 * Qz c + k) om om
   have w1 := Qa (↑k + 1) om om
   have hkm1 := hm (k + 1) om
   rw [show ((k + 1 : Nat) : Int) * c.size = k * c.size + c.size by rw [Int.natCast_add, Int.add_mul]; simp] at hkm1
   rw [w0]
   refine QuU Qck (Qcc s1.free (2 * Qz c + k) hsm1.free ) ?_
   ((conv=>whnf);(repeat' ((first|refine Nd ?_|refine Hv fun _h=>?_);conv=>whnf)))
   have h2 := h1.gq.unfree (2 * Qz c + k)
   obtain ⟨g1, g2, g3, g4⟩ := Gl.fullF (p := (d1, s1)) (z := 2 * Qz c + k) h1 hh1 hl1 ⟨om, om⟩ (by unfold zAt; exact he1 _ om) om
   refine CallN.autoI [0, 3] Qra (QrI c (1 + k * c.size) 0 0 d1 hd1 (s1.unfree (2 * Qz c + k)) h2.gd om om om (2 * Qz c + k) ⟨om, om⟩) plh ?_; conv=>whnf
   ((conv=>whnf);(repeat' ((first|refine Nd ?_|refine Hv fun _h=>?_);conv=>whnf)))
   refine ⟨((fullF (2 * Qz c + k) (d1, s1.unfree (2 * Qz c + k))), k + 1), ⟨by show k + 1 ≤ ((d0).next (Qp c)).toNat; omega, Qh6 (z := 2 * Qz c + k) (p := (d1, s1.unfree (2 * Qz c + k))) hd1 _, ?_, g2, g3, fun j hj => by
    have hj : 2 * Qz c + ((k + 1 : Nat) : Int) ≤ j := hj
    show ((Go.Proofs.fullF (2 * Qz c + k) (d1, s1.unfree (2 * Qz c + k))).2.dev.zones.getD j default).state = 0
    rw [g4 j om]; exact he1 j om⟩, by show ((d0).next (Qp c)).toNat - (k + 1) < ((d0).next (Qp c)).toNat - k; omega, ?_⟩
   ·exact g1.weak (by show 1 + (k : Int) * c.size + c.size ≤ 1 + ((k + 1 : Nat) : Int) * c.size; rw [show ((k + 1 : Nat) : Int) * c.size = k * c.size + c.size by rw [Int.natCast_add, Int.add_mul]; simp]; omega) (QxB _)
   ·exact QuW
  ·((conv=>whnf);(repeat' ((first|refine Nd ?_|refine Hv fun _h=>?_);conv=>whnf)))
   refine QwN [0, 3] Qqk (Qpw c (1 + k * c.size) 0 d1 hd1 s1 h1 om om hh1 hl1) (fun _ => plh) (fun i hi => ?_); conv=>whnf
   obtain ⟨d2, s2⟩ := i
   obtain ⟨hd2, h2⟩ := hi
   have hd2 : d2.ok := hd2
   have h2 : Gl c 300 0 s2 := Gl.weak h2 om (QxB _)
   ((conv=>whnf);(repeat' ((first|refine Nd ?_|refine Hv fun _h=>?_);conv=>whnf)))
   refine QuY hΓ (ι := DS × Nat) [0, 2, 3, 4] (fun i => [(11, .c (.int .i64 (2 * Qz c + i.2)))]) (fun i => [.vr i.1.1.cells, .vr (default : St).cells, .vr c.cells, i.1.2.wobj, .vr (i.1.2.cellsK 3)]) (fun i => i.2 ≤ (Qp c).toNat ∧ i.1.1.ok ∧ Gl c 300 i.2 i.1.2) (fun i => (Qp c).toNat - i.2) ((d2, s2), 0) ⟨Qxx _, hd2, h2⟩ ?_ ?_
   ·exact QuW
   ·rintro ⟨⟨d3, s3⟩, j⟩ ⟨hj, hd3, h3⟩
    have h3 : Gl c 300 j s3 := h3
    have hj : j ≤ (Qp c).toNat := hj
    have hd3 : d3.ok := hd3
    have hsm3 := h3.small om
    have hz3 := h3.gd.val.parts.zones
    have hl3 := h3.gd.val.parts.live
    rw [h3.gd.cfg] at hz3 hl3
    ((conv=>whnf);(repeat' ((first|refine Nd ?_|refine Hv fun _h=>?_);conv=>whnf)))
    refine Br.of (fun h4=>?_) (fun h4=>?_)<;>(try simp only [Qxy] at h4)<;>(conv=>whnf)
    ·((conv=>whnf);(repeat' ((first|refine Nd ?_|refine Hv fun _h=>?_);conv=>whnf)))
     have w2 := Qa (2 * Qz c + j + 1) om om
     refine CallG.autoQ [0] QK (QJ d3 hd3 2) (fun hg => ?_) (fun hg => ?_) <;> (conv=>whnf)
     ·((conv=>whnf);(repeat' ((first|refine Nd ?_|refine Hv fun _h=>?_);conv=>whnf)))
      rw [hg]
      by_cases c2 : d3.next 2 = 0
      ·refine Br.yes (by rw [c2]; rfl) ?_
       ((conv=>whnf);(repeat' ((first|refine Nd ?_|refine Hv fun _h=>?_);conv=>whnf)))
       refine QuU QlA (QlE s3.glob s3.pins s3.rets (2 * Qz c + j) hsm3.pins hsm3.rets ) ?_
       ((conv=>whnf);(repeat' ((first|refine Nd ?_|refine Hv fun _h=>?_);conv=>whnf)))
       have h4 := h3.retire (2 * Qz c + j)
       have hd4 := hd3.step
       have hsm4 := h4.small om
       refine CallN.autoQ [0] QK (QJ d3.step hd4 6) ?_; conv=>whnf
       ((conv=>whnf);(repeat' ((first|refine Nd ?_|refine Hv fun _h=>?_);conv=>whnf)))
       by_cases c5 : (d3.step).next 6 = 5
       ·refine Br.yes (by rw [c5]; rfl) ?_
        ((conv=>whnf);(repeat' ((first|refine Nd ?_|refine Hv fun _h=>?_);conv=>whnf)))
        refine QuU Qf0 (Qf9 ({ s3 with rets := (Qas s3.glob s3.pins s3.rets (2 * Qz c + j)).1 }).glob ({ s3 with rets := (Qas s3.glob s3.pins s3.rets (2 * Qz c + j)).1 }).pins ({ s3 with rets := (Qas s3.glob s3.pins s3.rets (2 * Qz c + j)).1 }).rets hsm4.pins hsm4.rets ) ?_
        ((conv=>whnf);(repeat' ((first|refine Nd ?_|refine Hv fun _h=>?_);conv=>whnf)))
        refine ⟨(((d3.step).step, { ({ s3 with rets := (Qas s3.glob s3.pins s3.rets (2 * Qz c + j)).1 }) with glob := (advM ({ s3 with rets := (Qas s3.glob s3.pins s3.rets (2 * Qz c + j)).1 }).glob ({ s3 with rets := (Qas s3.glob s3.pins s3.rets (2 * Qz c + j)).1 }).pins ({ s3 with rets := (Qas s3.glob s3.pins s3.rets (2 * Qz c + j)).1 }).rets).1 }), j + 1), ⟨by show j + 1 ≤ (Qp c).toNat; omega, hd4.step, h4.adv⟩, by show (Qp c).toNat - (j + 1) < (Qp c).toNat - j; omega, ?_⟩
        exact QuW
       ·refine Br.no (by simpa using c5) ?_
        ((conv=>whnf);(repeat' ((first|refine Nd ?_|refine Hv fun _h=>?_);conv=>whnf)))
        refine ⟨(((d3.step).step, { s3 with rets := (Qas s3.glob s3.pins s3.rets (2 * Qz c + j)).1 }), j + 1), ⟨by show j + 1 ≤ (Qp c).toNat; omega, hd4.step, h4⟩, by show (Qp c).toNat - (j + 1) < (Qp c).toNat - j; omega, ?_⟩
        exact QuW
      ·refine Br.no (by simpa using c2) ?_
       ((conv=>whnf);(repeat' ((first|refine Nd ?_|refine Hv fun _h=>?_);conv=>whnf)))
       have h4 : Gl c 300 (j + 1) s3 := h3.weak (QyD _) om
       have hd4 := hd3.step
       have hsm4 := h4.small om
       refine CallN.autoQ [0] QK (QJ d3.step hd4 6) ?_; conv=>whnf
       ((conv=>whnf);(repeat' ((first|refine Nd ?_|refine Hv fun _h=>?_);conv=>whnf)))
       by_cases c5 : (d3.step).next 6 = 5
       ·refine Br.yes (by rw [c5]; rfl) ?_
        ((conv=>whnf);(repeat' ((first|refine Nd ?_|refine Hv fun _h=>?_);conv=>whnf)))
        refine QuU Qf0 (Qf9 (s3).glob (s3).pins (s3).rets hsm4.pins hsm4.rets ) ?_
        ((conv=>whnf);(repeat' ((first|refine Nd ?_|refine Hv fun _h=>?_);conv=>whnf)))
        refine ⟨(((d3.step).step, { (s3) with glob := (advM (s3).glob (s3).pins (s3).rets).1 }), j + 1), ⟨by show j + 1 ≤ (Qp c).toNat; omega, hd4.step, h4.adv⟩, by show (Qp c).toNat - (j + 1) < (Qp c).toNat - j; omega, ?_⟩
        exact QuW
       ·refine Br.no (by simpa using c5) ?_
        ((conv=>whnf);(repeat' ((first|refine Nd ?_|refine Hv fun _h=>?_);conv=>whnf)))
        refine ⟨(((d3.step).step, s3), j + 1), ⟨by show j + 1 ≤ (Qp c).toNat; omega, hd4.step, h4⟩, by show (Qp c).toNat - (j + 1) < (Qp c).toNat - j; omega, ?_⟩
        exact QuW
     ·((conv=>whnf);(repeat' ((first|refine Nd ?_|refine Hv fun _h=>?_);conv=>whnf)))
      rw [hg]
      refine Br.no rfl ?_; conv=>whnf
      ((conv=>whnf);(repeat' ((first|refine Nd ?_|refine Hv fun _h=>?_);conv=>whnf)))
      have h4 : Gl c 300 (j + 1) s3 := h3.weak (QyD _) om
      have hd4 := hd3
      have hsm4 := h4.small om
      refine CallN.autoQ [0] QK (QJ d3 hd4 6) ?_; conv=>whnf
      ((conv=>whnf);(repeat' ((first|refine Nd ?_|refine Hv fun _h=>?_);conv=>whnf)))
      by_cases c5 : (d3).next 6 = 5
      ·refine Br.yes (by rw [c5]; rfl) ?_
       ((conv=>whnf);(repeat' ((first|refine Nd ?_|refine Hv fun _h=>?_);conv=>whnf)))
       refine QuU Qf0 (Qf9 (s3).glob (s3).pins (s3).rets hsm4.pins hsm4.rets ) ?_
       ((conv=>whnf);(repeat' ((first|refine Nd ?_|refine Hv fun _h=>?_);conv=>whnf)))
       refine ⟨(((d3).step, { (s3) with glob := (advM (s3).glob (s3).pins (s3).rets).1 }), j + 1), ⟨by show j + 1 ≤ (Qp c).toNat; omega, hd4.step, h4.adv⟩, by show (Qp c).toNat - (j + 1) < (Qp c).toNat - j; omega, ?_⟩
       exact QuW
      ·refine Br.no (by simpa using c5) ?_
       ((conv=>whnf);(repeat' ((first|refine Nd ?_|refine Hv fun _h=>?_);conv=>whnf)))
       refine ⟨(((d3).step, s3), j + 1), ⟨by show j + 1 ≤ (Qp c).toNat; omega, hd4.step, h4⟩, by show (Qp c).toNat - (j + 1) < (Qp c).toNat - j; omega, ?_⟩
       exact QuW
    ·((conv=>whnf);(repeat' ((first|refine Nd ?_|refine Hv fun _h=>?_);conv=>whnf)))
     have h3 : Gl c 300 32 s3 := h3.weak (QyD _) om
     refine CallN.autoQ [0] QK (QJ d3 hd3 4) ?_; conv=>whnf
     ((conv=>whnf);(repeat' ((first|refine Nd ?_|refine Hv fun _h=>?_);conv=>whnf)))
     refine CallN.autoQ [0] QK (QJ d3.step hd3.step 12) ?_; conv=>whnf
     ((conv=>whnf);(repeat' ((first|refine Nd ?_|refine Hv fun _h=>?_);conv=>whnf)))
     refine CallN.autoQ [0] QK (QJ d3.step.step hd3.step.step 3) ?_; conv=>whnf
     ((conv=>whnf);(repeat' ((first|refine Nd ?_|refine Hv fun _h=>?_);conv=>whnf)))
     have h4 := h3.flags (d3.next 4 == 3) (d3.step.next 12 == 11)
     by_cases c5 : d3.step.step.next 3 = 2
     ·refine Br.yes (by rw [c5]; rfl) ?_
      ((conv=>whnf);(repeat' ((first|refine Nd ?_|refine Hv fun _h=>?_);conv=>whnf)))
      refine QuU QlC (QlD s3.dev hsm3.dev ) ?_
      ((conv=>whnf);(repeat' ((first|refine Nd ?_|refine Hv fun _h=>?_);conv=>whnf)))
      refine ⟨_, _, ?_, ⟨(c, (d3.step.step.step, { s3 with want := (d3.next 4 == 3), closed := (d3.step.next 12 == 11), dev := Qbo s3.dev })), ⟨⟨_, hcc.symm⟩, hd3.step.step.step, h4.sync⟩, rfl, rfl⟩⟩
      exact Qw2 [0, 3] (by decide) (show ∀ i, i < 1 → rho [0, 3] i = i by decide) leN wb0 wb0
     ·refine Br.no (by simpa using c5) ?_
      ((conv=>whnf);(repeat' ((first|refine Nd ?_|refine Hv fun _h=>?_);conv=>whnf)))
      refine ⟨_, _, ?_, ⟨(c, (d3.step.step.step, { s3 with want := (d3.next 4 == 3), closed := (d3.step.next 12 == 11) })), ⟨⟨_, hcc.symm⟩, hd3.step.step.step, h4⟩, rfl, rfl⟩⟩
      exact Qw2 [0, 3] (by decide) (show ∀ i, i < 1 → rho [0, 3] i = i by decide) leN wb0 wb0
theorem QqC : HB 14 := hB Tryz.func14
set_option maxHeartbeats 16000000 in
theorem QeI (l : List Int) (b : Int) : PS 6 [.c (Qh l), .c (.int .i64 b)] (.c (.bool true)) := by
 refine PSpec.rm ?_
 refine ov hΓ Tryz.func6 145 0 [.tmp 4] Tryz.ntmps6 Tryz.results6 ?_
 ((conv=>whnf);(repeat' ((first|refine Nd ?_|refine Hv fun _h=>?_);conv=>whnf)))
 refine QuU QqD (QpI l ) ?_
 ((conv=>whnf);(repeat' ((first|refine Nd ?_|refine Hv fun _h=>?_);conv=>whnf)))
 by_cases hl : l.length ≤ 300
 ·refine Br.no (by rw [Qxz hl]; rfl) ?_
  ((conv=>whnf);(repeat' ((first|refine Nd ?_|refine Hv fun _h=>?_);conv=>whnf)))
  refine CallN.autoQ [] Qkm (Qk3 l om) ?_; conv=>whnf
  ((conv=>whnf);(repeat' ((first|refine Nd ?_|refine Hv fun _h=>?_);conv=>whnf)))
  refine QwN [0] QqC (Qqt ⟨l, 0⟩ ⟨Qxx _, by show l.length ≤ _; omega⟩) (fun _ => plh) (fun q hq => ?_); conv=>whnf
  ((conv=>whnf);(repeat' ((first|refine Nd ?_|refine Hv fun _h=>?_);conv=>whnf)))
  obtain ⟨c, d0, s⟩ := q
  obtain ⟨⟨_, hcd⟩, hd0, hgq⟩ := hq
  have hg0 : Gl c 300 32 s := hgq
  clear hgq
  have hcs : s.cfg = c := hg0.gd.cfg
  have hb := Qcf hg0.gd.conf
  have hk := QpU (x := b) (n := s.cfg.blocks) (by rw [hcs]; omega) (by rw [hcs]; omega)
  refine QuU Qia (Qh2 b s.cfg.blocks ) ?_
  ((conv=>whnf);(repeat' ((first|refine Nd ?_|refine Hv fun _h=>?_);conv=>whnf)))
  generalize modI b s.cfg.blocks = k at *
  have hkc : k < c.blocks := by rw [← hcs]; exact hk.2
  obtain ⟨v1, v2, v3, v4, v5, v6, v7, v8⟩ := Qpe hg0 hk.1 hkc
  have hrr : s.rets.length ≤ 32 := hg0.gd.rets
  have hsv := hg0.gd.sav
  have hv0 : Val { s with closed := false } := ⟨{ hg0.gd.val.parts with }, hg0.gd.val.queues, hg0.gd.val.evs⟩
  have hs0 : St.small { s with closed := false } := hv0.small (by show s.rets.length ≤ _; omega) (by have h0 : s.evs.length ≤ 0 := hg0.gd.evs; show s.evs.length ≤ 1000000; omega) (by show s.sav.ents.length ≤ _; rw [hsv]; decide) (by show s.sav.recs.length ≤ _; rw [hsv]; decide)
  have hsA : (rdA s k).small := v1.small (by rw [v3]; omega) om (by rw [v4, hsv]; decide) (by rw [v4, hsv]; decide)
  have hsB := v5.small hrr hsv
  refine QvJ 1 [6, 7] [] [.vr d0.cells, .dead, .vr (St.cells { s with closed := false })] [.a (St.cells { s with closed := false }), .c (.int .i64 0), .a [.int .i64 1, .int .i64 k, .str ByteArray.empty]] rfl (Qxx _) (fun i _ j _ => QaW _ _) wb0 wb0 wb0 (Qxx _) ?_
  refine QuU QhQ (Qh1 { s with closed := false } hs0 0 (rdQ k) ) ?_
  ((conv=>whnf);(repeat' ((first|refine Nd ?_|refine Hv fun _h=>?_);conv=>whnf)))
  refine QuU Qks (QjI (rdA s k) hsA 0 ) ?_
  ((conv=>whnf);(repeat' ((first|refine Nd ?_|refine Hv fun _h=>?_);conv=>whnf)))
  refine Need.mk (fun i _ => ⟨0, rfl⟩) ?_
  ((conv=>whnf);(repeat' ((first|refine Nd ?_|refine Hv fun _h=>?_);conv=>whnf)))
  refine QuU Qvt (Qvc (rdB s k).map k hsB.map hsB.shard ) ?_
  ((conv=>whnf);(repeat' ((first|refine Nd ?_|refine Hv fun _h=>?_);conv=>whnf)))
  rw [v8]
  by_cases hkd : (QfX s.map k).1.kind = 1
  ·have hok : (QfX s.map k).2 = true := QxC fun q => by
    rw [QjN (by simpa using q)] at hkd
    exact absurd (show (0 : Int) = 1 from hkd) (by decide)
   refine Br.yes (by rw [hok, hkd]; rfl) ?_
   ((conv=>whnf);(repeat' ((first|refine Nd ?_|refine Hv fun _h=>?_);conv=>whnf)))
   have hw : Qc1 s k = QcD (rdB s k) (QfX s.map k).1 := (Qxt hkd).trans (by unfold QcD; rw [v5.dev])
   refine QuU Qrh (QpB (rdB s k) (QfX s.map k).1 ) ?_
   ((conv=>whnf);(repeat' ((first|refine Nd ?_|refine Hv fun _h=>?_);conv=>whnf)))
   rw [← hw]
   refine QuY hΓ (ι := Nat × St) [6, 7, 8, 9, 10] (fun x => [(11, .c (.int .i64 x.1))]) (fun x => [.vr d0.cells, .dead, .vr x.2.cells, .arr 5 1 16 (fun _ _ => .int .u8 0), .vr (QfX s.map k).1.cells]) (fun x => x.1 ≤ 4 ∧ Stg s k x.1 x.2) (fun x => 4 - x.1) (0, rdB s k) ⟨Qxx _, Stg.pin v5 rfl v6 v7 v8⟩ ?_ ?_
   ·refine Qvm ?_
    ·exact fun i _ j hj => match j, hj with
      | 0, _ => WC.eq rfl rfl
   ·rintro ⟨i, t⟩ ⟨hi, hst⟩
    have hi : i ≤ 4 := hi
    have hst : Stg s k i t := hst
    have hwl := hst.wl
    ((conv=>whnf);(repeat' ((first|refine Nd ?_|refine Hv fun _h=>?_);conv=>whnf)))
    by_cases hc : i < 4 ∧ 0 < t.works.length ∧ (t.works.getD 0 default).state ≠ 0
    ·refine Br.yes (by rw [Qxz (show ((i : Nat) : Int) < 4 by omega), Qxz (show (t.works.length : Int) > 0 by omega)]; exact Qy2.2 hc.2.2) ?_
     ((conv=>whnf);(repeat' ((first|refine Nd ?_|refine Hv fun _h=>?_);conv=>whnf)))
     obtain ⟨t', e1, e2, e3, e4, e5⟩ := hst.step hg0 hrr hc.1 hc.2.2
     have hr := Qbp t e2 (allM t.map) e3.all 0
     rw [e1] at hr
     have w0 := Qa ((i : Int) + 1) om om
     refine QuU Qa5 hr ?_
     ((conv=>whnf);(repeat' ((first|refine Nd ?_|refine Hv fun _h=>?_);conv=>whnf)))
     refine Br.no rfl ?_
     ((conv=>whnf);(repeat' ((first|refine Nd ?_|refine Hv fun _h=>?_);conv=>whnf)))
     by_cases h1 : i = 1
     ·obtain ⟨f1, f2, f3, f4⟩ := e5 h1
      subst h1
      by_cases hok2 : (QfX s.map k).2 = true
      ·refine Br.yes hok2 ?_
       ((conv=>whnf);(repeat' ((first|refine Nd ?_|refine Hv fun _h=>?_);conv=>whnf)))
       have hen := (QeP hg0.gd.val.parts.map hok2).1
       unfold QaQ at hen
       rw [Qxw] at hen
       rw [show IntKind.i64.wrap ((QfX s.map k).1.version + 1) = (QfX s.map k).1.version + 1 from Qa _ om om]
       refine QuU QqJ (Qqa t'.map ⟨k, 2, (QfX s.map k).1.version + 1, 0, (QfX s.map k).1.zone, (QfX s.map k).1.offset⟩ (by rw [f1]; exact hs0.map) (by rw [f1]; exact hs0.shard) ) ?_
       ((conv=>whnf);(repeat' ((first|refine Nd ?_|refine Hv fun _h=>?_);conv=>whnf)))
       refine ⟨(1 + 1, { t' with map := (Qax t'.map ⟨k, 2, (QfX s.map k).1.version + 1, 0, (QfX s.map k).1.zone, (QfX s.map k).1.offset⟩).1 }), ⟨by show 1 + 1 ≤ 4; decide, f4 _ (by rw [f1]; exact Qpr hg0.gd.val.parts.map hg0.gd.val.parts.blocks _ (by rw [hcs]; exact hkc))⟩, by show 4 - (1 + 1) < 4 - 1; decide, ?_⟩
       refine Qvm ?_
       ·exact fun _ _ _ _ => WC.imm rfl
      ·refine Br.no (Qq hok2) ?_
       ((conv=>whnf);(repeat' ((first|refine Nd ?_|refine Hv fun _h=>?_);conv=>whnf)))
       refine ⟨(1 + 1, t'), ⟨by show 1 + 1 ≤ 4; decide, by
        have := f4 t'.map (by rw [f1]; exact ⟨hg0.gd.val.parts.map, rfl, hg0.gd.val.parts.blocks⟩)
        exact this⟩, by show 4 - (1 + 1) < 4 - 1; decide, ?_⟩
       refine Qvm ?_
       ·exact fun _ _ _ _ => WC.imm rfl
     ·refine Br.no (by rw [show (((i : Nat) : Int) == 1) = false from by simp; omega]; rfl) ?_
      ((conv=>whnf);(repeat' ((first|refine Nd ?_|refine Hv fun _h=>?_);conv=>whnf)))
      refine ⟨(i + 1, t'), ⟨by show i + 1 ≤ 4; omega, e4 h1⟩, by show 4 - (i + 1) < 4 - i; omega, ?_⟩
      refine Qvm ?_
      ·exact fun _ _ _ _ => WC.imm rfl
    ·have hf := hst.last hc
     refine Br.no (by
      cases hh : (bif bif decide (((i : Nat) : Int) < 4) then decide ((t.works.length : Int) > 0) else false then (t.works.getD (Int.toNat 0) default).state != 0 else false) with
      | false => rfl
      | true =>
       exfalso
       simp at hh
       exact hc ⟨om, om, by simpa using hh.2⟩) ?_
     ((conv=>whnf);(repeat' ((first|refine Nd ?_|refine Hv fun _h=>?_);conv=>whnf)))
     refine CallG.auto QdX (fun _ => Qfa) ?_
     ((conv=>whnf);(repeat' ((first|refine Nd ?_|refine Hv fun _h=>?_);conv=>whnf)))
     refine Qv8 ?_
     dsimp only
     rw [hf.evs, show Int.toNat 0 = 0 from rfl, hf.pin, Qxz (show (t.pins.length : Int) > 0 by have := hf.pl; omega)]
     simp [QiD]
  ·refine Br.no (by cases (QfX s.map k).2 with
    | false => rfl
    | true => exact QxE hkd) ?_
   ((conv=>whnf);(repeat' ((first|refine Nd ?_|refine Hv fun _h=>?_);conv=>whnf)))
   rw [show QQ (Int.toNat 16) (Qbx (QN { td := TD.int IntKind.u8, size := 1, bytes := 1, zero := [Z.i IntKind.u8] })) = Qc1 s k from (Qxu hkd).symm]
   refine QuY hΓ (ι := Nat × St) [6, 7, 8, 9, 10] (fun x => [(11, .c (.int .i64 x.1))]) (fun x => [.vr d0.cells, .dead, .vr x.2.cells, .arr 5 1 16 (fun _ _ => .int .u8 0), .vr (QfX s.map k).1.cells]) (fun x => x.1 ≤ 4 ∧ Stg s k x.1 x.2) (fun x => 4 - x.1) (0, rdB s k) ⟨Qxx _, Stg.pin v5 rfl v6 v7 v8⟩ ?_ ?_
   ·refine Qvm ?_
    ·exact fun i _ j hj => match j, hj with
      | 0, _ => WC.eq rfl rfl
   ·rintro ⟨i, t⟩ ⟨hi, hst⟩
    have hi : i ≤ 4 := hi
    have hst : Stg s k i t := hst
    have hwl := hst.wl
    ((conv=>whnf);(repeat' ((first|refine Nd ?_|refine Hv fun _h=>?_);conv=>whnf)))
    by_cases hc : i < 4 ∧ 0 < t.works.length ∧ (t.works.getD 0 default).state ≠ 0
    ·refine Br.yes (by rw [Qxz (show ((i : Nat) : Int) < 4 by omega), Qxz (show (t.works.length : Int) > 0 by omega)]; exact Qy2.2 hc.2.2) ?_
     ((conv=>whnf);(repeat' ((first|refine Nd ?_|refine Hv fun _h=>?_);conv=>whnf)))
     obtain ⟨t', e1, e2, e3, e4, e5⟩ := hst.step hg0 hrr hc.1 hc.2.2
     have hr := Qbp t e2 (allM t.map) e3.all 0
     rw [e1] at hr
     have w0 := Qa ((i : Int) + 1) om om
     refine QuU Qa5 hr ?_
     ((conv=>whnf);(repeat' ((first|refine Nd ?_|refine Hv fun _h=>?_);conv=>whnf)))
     refine Br.no rfl ?_
     ((conv=>whnf);(repeat' ((first|refine Nd ?_|refine Hv fun _h=>?_);conv=>whnf)))
     by_cases h1 : i = 1
     ·obtain ⟨f1, f2, f3, f4⟩ := e5 h1
      subst h1
      by_cases hok2 : (QfX s.map k).2 = true
      ·refine Br.yes hok2 ?_
       ((conv=>whnf);(repeat' ((first|refine Nd ?_|refine Hv fun _h=>?_);conv=>whnf)))
       have hen := (QeP hg0.gd.val.parts.map hok2).1
       unfold QaQ at hen
       rw [Qxw] at hen
       rw [show IntKind.i64.wrap ((QfX s.map k).1.version + 1) = (QfX s.map k).1.version + 1 from Qa _ om om]
       refine QuU QqJ (Qqa t'.map ⟨k, 2, (QfX s.map k).1.version + 1, 0, (QfX s.map k).1.zone, (QfX s.map k).1.offset⟩ (by rw [f1]; exact hs0.map) (by rw [f1]; exact hs0.shard) ) ?_
       ((conv=>whnf);(repeat' ((first|refine Nd ?_|refine Hv fun _h=>?_);conv=>whnf)))
       refine ⟨(1 + 1, { t' with map := (Qax t'.map ⟨k, 2, (QfX s.map k).1.version + 1, 0, (QfX s.map k).1.zone, (QfX s.map k).1.offset⟩).1 }), ⟨by show 1 + 1 ≤ 4; decide, f4 _ (by rw [f1]; exact Qpr hg0.gd.val.parts.map hg0.gd.val.parts.blocks _ (by rw [hcs]; exact hkc))⟩, by show 4 - (1 + 1) < 4 - 1; decide, ?_⟩
       refine Qvm ?_
       ·exact fun _ _ _ _ => WC.imm rfl
      ·refine Br.no (Qq hok2) ?_
       ((conv=>whnf);(repeat' ((first|refine Nd ?_|refine Hv fun _h=>?_);conv=>whnf)))
       refine ⟨(1 + 1, t'), ⟨by show 1 + 1 ≤ 4; decide, by
        have := f4 t'.map (by rw [f1]; exact ⟨hg0.gd.val.parts.map, rfl, hg0.gd.val.parts.blocks⟩)
        exact this⟩, by show 4 - (1 + 1) < 4 - 1; decide, ?_⟩
       refine Qvm ?_
       ·exact fun _ _ _ _ => WC.imm rfl
     ·refine Br.no (by rw [show (((i : Nat) : Int) == 1) = false from by simp; omega]; rfl) ?_
      ((conv=>whnf);(repeat' ((first|refine Nd ?_|refine Hv fun _h=>?_);conv=>whnf)))
      refine ⟨(i + 1, t'), ⟨by show i + 1 ≤ 4; omega, e4 h1⟩, by show 4 - (i + 1) < 4 - i; omega, ?_⟩
      refine Qvm ?_
      ·exact fun _ _ _ _ => WC.imm rfl
    ·have hf := hst.last hc
     refine Br.no (by
      cases hh : (bif bif decide (((i : Nat) : Int) < 4) then decide ((t.works.length : Int) > 0) else false then (t.works.getD (Int.toNat 0) default).state != 0 else false) with
      | false => rfl
      | true =>
       exfalso
       simp at hh
       exact hc ⟨om, om, by simpa using hh.2⟩) ?_
     ((conv=>whnf);(repeat' ((first|refine Nd ?_|refine Hv fun _h=>?_);conv=>whnf)))
     refine CallG.auto QdX (fun _ => Qfa) ?_
     ((conv=>whnf);(repeat' ((first|refine Nd ?_|refine Hv fun _h=>?_);conv=>whnf)))
     refine Qv8 ?_
     dsimp only
     rw [hf.evs, show Int.toNat 0 = 0 from rfl, hf.pin, Qxz (show (t.pins.length : Int) > 0 by have := hf.pl; omega)]
     simp [QiD]
 ·refine Br.yes (by rw [QxE hl]; rfl) ?_
  ((conv=>whnf);(repeat' ((first|refine Nd ?_|refine Hv fun _h=>?_);conv=>whnf)))
  refine QuU QdX Qfa ?_
  ((conv=>whnf);(repeat' ((first|refine Nd ?_|refine Hv fun _h=>?_);conv=>whnf)))
  exact QuV
end Go.Proofs
end
