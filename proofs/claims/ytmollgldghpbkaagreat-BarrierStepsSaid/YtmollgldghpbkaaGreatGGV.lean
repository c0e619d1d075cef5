/- Contracts, lemmas; no condition. -/
import Derived.Test.YtmollgldghpbkaaGreatGFV
import Derived.Test.YtmollgldghpbkaaGreatStBV
import Derived.Test.YtmollgldghpbkaaGreatKsV
import Derived.Test.YtmollgldghpbkaaGreatAmFV
import Derived.Test.YtmollgldghpbkaaGreatNAV
set_option linter.all false
section
open Go Go.Am
namespace Go.Proofs
set_option maxRecDepth 20000
theorem Qve (x : Int) : (x != 0) = decide (x ≠ 0) := by
 by_cases h : x = 0 <;> simp [h]
set_option maxHeartbeats 4000000 in
theorem QcI (s : St) (h1 : s.map.length ≤ 1000000) (h2 : ∀ i, (s.map.getD i default).length ≤ 1000000) (h3 : s.live.length ≤ 1000000) (h4 : s.pend.length ≤ 1000000) (e : Ent) : CS 169 [.a (s.cellsK 0), .a e.cells] [s.wobj] fun r H => r = .a ((s.install e).cellsK 0) ∧ H = [(s.install e).wobj] := by
 refine CSpec.rm ?_
 refine ov0 hΓ Tryz.func169 32 1 [.cell 4 58] Tryz.ntmps169 Tryz.results169 ?_
 refine CallN.pureA Qrf (Qp5 s.map e h1 h2 ) (Go0 ?_)
 by_cases c : (QaY s.map e).2.2 = true
 ·refine Br.yes c (Go0 ?_)
  refine CallN.pureA Qda (Qdd s.live s.pend (QaY s.map e).2.1 e ((QaY s.map e).2.1.kind != 0) true h3 h4 ) (Go0 ?_)
  rw [show s.install e = { s with live := (Qat s.live s.pend (QaY s.map e).2.1.zone e.zone ((QaY s.map e).2.1.kind != 0) true).1, map := (QaY s.map e).1 } by rw [Qve]; exact if_pos c]
  refine ⟨_, _, ?_, rfl, rfl⟩
  exact RM.w0
 ·refine Br.no (Qg c) (Go0 ?_)
  rw [show s.install e = s from if_neg c]
  refine ⟨_, _, ?_, rfl, rfl⟩
  exact RM.w0
theorem QcG : HB 169 := hB Tryz.func169
set_option maxHeartbeats 4000000 in
theorem Qjk (s : St) (hs : s.small) (zone : Int) (r : Rec) : CS 159 [.a (s.cellsK 0), .c (.int .i64 zone), .a r.cells] [s.wobj] fun x H => x = .a ((s.add zone r).cellsK 0) ∧ H = [(s.add zone r).wobj] := by
 refine CSpec.rm ?_
 refine ov0 hΓ Tryz.func159 39 1 [.cell 6 58] Tryz.ntmps159 Tryz.results159 ?_
 refine Dr.mkE hΓ hMix [] [(8, 11), (9, 11)] (by kernel_rfl) (Go0 ?_)
 refine CallP.auto QbV (QbU r ) (Go0 ?_)
 refine CallP.auto QaR (QaQ s.dev hs.dev zone (encR r) ) (Go0 ?_)
 by_cases c : Q9 s.dev zone (encR r) = 0
 ·refine Br.no (by rw [c]; rfl) (Go0 ?_)
  refine CallN.autoI [0] QcG (QcI (s.put zone r) hs.map hs.shard hs.live hs.pend (recE r zone (Qe s.dev zone (encR r)))) plh (Go0 ?_)
  rw [show s.add zone r = (s.put zone r).install (recE r zone (Qe s.dev zone (encR r))) from if_pos c]
  refine ⟨_, _, ?_, rfl, rfl⟩
  exact RM.w0
 ·refine Br.yes (by simpa using c) (Go0 ?_)
  rw [show s.add zone r = s from if_neg c]
  refine ⟨_, _, ?_, rfl, rfl⟩
  exact RM.w0
theorem Qi6 : HB 159 := hB Tryz.func159
theorem QpB {d : DiceM} (h : d.ok) : (recD d).ok := h.step.step.step
theorem QiI {z : Int} {p : DS} (h : p.1.ok) : ∀ k, (addTo z p k).1.ok
 | 0 => h
 | k + 1 => QpB (QiI h k)
set_option maxHeartbeats 1000000 in
theorem Qjm (d : DiceM) (hd : d.ok) (s : St) (hn : 0 ≤ s.next ∧ s.next ≤ 1000000000) : CS 158 [.c (.ptr 0 0), .a (s.cellsK 1)] [.vr d.cells, s.wobj] fun x H => x = .t [.inr (recR d s.cfg.blocks s.next).cells, .inr (s.bump.cellsK 1)] ∧ H = [.vr (recD d).cells, s.bump.wobj] := by
 have w0 := Qa (s.next + 1) om om
 refine CSpec.rm ?_
 refine ov0 hΓ Tryz.func158 20 2 [.cell 4 178, .cell 5 58] Tryz.ntmps158 Tryz.results158 ?_
 refine CallN.autoQ [0] Qoi (QoD d hd s.cfg.blocks s.next) (Go0 ?_)
 rw [w0]
 refine Dr.mkE hΓ hMix [] [(1, 2)] (by kernel_rfl) (Go0 ?_)
 refine ⟨_, _, ?_, rfl, rfl⟩
 exact RM.w0
theorem QjW : HB 158 := hB Tryz.func158
theorem QcB (l : List Int) (n : Int) (hl : l.length ≤ 1000000) : PS 45 [.c (Qi l), .c (.int .i64 n)] (.c (Qi (QaF l n))) := by
 refine PSpec.rm ?_
 refine ov0 hΓ Tryz.func45 27 0 [.tmp 4] Tryz.ntmps45 Tryz.results45 ?_
 refine Lp.reserve 3 1 (Qam .i64 []) 5 rfl ?_
 refine Lp.mkK hΓ (ι := Nat) [0, 1, 4] (fun k => [(6, .c (.int .i64 k)), (5, .c (.sl 0 1 (QaF (l.take k) n).length (QaF (l.take k) n).length false))]) (fun k => [.arr 3 1 (QaF (l.take k) n).length (Qam .i64 (QaF (l.take k) n))]) (fun k => k ≤ l.length) (fun k => l.length - k) 0 (Nat.zero_le _) ?_ ?_
 ·exact Mv.k0
 ·intro k hk
  have hlq : (QaF (l.take k) n).length ≤ l.length := Nat.le_trans (List.length_filter_le _ _) (by rw [List.length_take]; omega)
  refine Go1 fun _h=>?_
  refine Br.of (fun h1=>Go0 ?_) (fun h1=>Go0 ?_)
  ·have w0 := Qa (↑k + 1) om om
   have ht : QaF (l.take (k + 1)) n = if l.getD k default ≠ n then QaF (l.take k) n ++ [l.getD k default] else QaF (l.take k) n := by
    unfold QaF
    rw [QaJ l om, List.filter_append, List.filter_cons, List.filter_nil]
    split <;> simp_all
   by_cases c : l.getD k default ≠ n
   ·rw [if_pos c] at ht
    refine Br.yes (bne_iff_ne.2 c) (Go0 ?_)
    refine ⟨k + 1, om, om, ?_⟩
    rw [ht]
    refine Mv.k1 ?_
    exact fun i hi j hj => WC.eq (Qdg rfl om hj) rfl
   ·rw [if_neg c] at ht
    refine Br.no (Bool.eq_false_iff.2 fun z => c (bne_iff_ne.1 z)) (Go0 ?_)
    refine ⟨k + 1, om, om, ?_⟩
    rw [ht]
    exact Mv.k0
  ·have : k = l.length := by omega
   subst this
   rw [List.take_length]
   exact RM.allC (Fw.ints rfl rfl rfl (fun _ _ _ _ => rfl))
theorem QcH : HB 45 := hB Tryz.func45
set_option maxHeartbeats 4000000 in
theorem QrZ (c : Conf) (n : Int) (r e : Nat) (d : DiceM) (hd : d.ok) (s : St) (h : Gd c n r e s) (hn : n + c.size ≤ 1000000) (hr : r ≤ 1000) (he : e ≤ 1000) (zone : Int) (hz : 0 ≤ zone ∧ zone < c.zones) : CS 91 [.c (.ptr 0 0), .a (s.cellsK 1), .c (.int .i64 zone)] [.vr d.cells, s.wobj] fun x H => x = .a ((fullF zone (d, s)).2.cellsK 1) ∧ H = [.vr (fullF zone (d, s)).1.cells, (fullF zone (d, s)).2.wobj] := by
 have hcf := confR_iff.1 (Qv h.conf).1
 have w1 := Qa (c.size - 1) om om
 refine CSpec.rm ?_
 refine ov0 hΓ Tryz.func91 53 2 [.cell 6 58] Tryz.ntmps91 Tryz.results91 ?_
 refine Lp.mkK hΓ (ι := Nat) [0, 2, 4, 6] (fun k => [(7, .c (.int .i64 k))]) (fun k => [.vr (addTo zone (d, s) k).1.cells, (addTo zone (d, s) k).2.wobj, .vr ((addTo zone (d, s) k).2.cellsK 1), .vr (default : St).cells]) (fun k => k ≤ (c.size - 1).toNat) (fun k => (c.size - 1).toNat - k) 0 (Nat.zero_le _) ?_ ?_
 ·exact Mv.k0
 ·intro k hk
  have hg := h.addTo (p := (d, s)) zone k om
  have hok := QiI (z := zone) (p := (d, s)) hd k
  have e1 : addTo zone (d, s) (k + 1) = addF zone (addTo zone (d, s) k) := rfl
  have e2 : k = (c.size - 1).toNat → fullF zone (d, s) = ((addTo zone (d, s) k).1, (addTo zone (d, s) k).2.seal zone) := fun q => by
   subst q
   unfold fullF
   rw [show ((d, s) : DS).2.cfg.size = c.size by rw [h.cfg]]
  generalize addTo zone (d, s) k = p at *
  have hsm := hg.small om om
  have hpn := hg.val.parts.next
  have hpn2 := hg.next
  have hcz : p.2.cfg.size = c.size := by rw [hg.cfg]
  have hzl := hg.val.parts.zones
  rw [hg.cfg] at hzl
  refine Go0 ?_
  rw [hcz, w1]
  refine Br.of (fun h1=>Go0 ?_) (fun h1=>Go0 ?_)
  ·have w0 := Qa (↑k + 1) om om
   refine CallN.autoI [0, 1] QjW (Qjm p.1 hok p.2 ⟨om, om⟩) plh (Go0 ?_)
   refine CallN.autoI [1] Qi6 (Qjk p.2.bump ((hg.bump om).small om om) zone (recR p.1 p.2.cfg.blocks p.2.next)) plh (Go0 ?_)
   refine ⟨k + 1, om, om, ?_⟩
   rw [e1]
   exact Mv.k0
  ·have : k = (c.size - 1).toNat := by omega
   rw [e2 this]
   refine CallN.pureA QqS (QpS (Qia p.2 zone) ) (Go0 ?_)
   refine Dr.mkE hΓ hMix [] [(8, 11), (9, 11)] (by kernel_rfl) (Go0 ?_)
   refine CallP.auto QbV (QbU (Qgt (Qia p.2 zone)) ) (Go0 ?_)
   refine CallP.auto QaR (QaQ p.2.dev hsm.dev zone (encR (Qgt (Qia p.2 zone))) ) (Go0 ?_)
   refine ⟨_, _, ?_, rfl, rfl⟩
   exact RM.w0
theorem Qtb : HB 91 := hB Tryz.func91
set_option maxHeartbeats 4000000 in
theorem Qfz (s : St) (hs : s.small) (e : Ent) (zone : Int) : CS 163 [.a (s.cellsK 0), .a e.cells, .c (.int .i64 zone)] [s.wobj] fun x H => x = .a ((s.copied e zone).cellsK 0) ∧ H = [s.wobj] := by
 refine CSpec.rm ?_
 refine ov0 hΓ Tryz.func163 99 1 [.cell 6 58] Tryz.ntmps163 Tryz.results163 ?_
 refine CallN.pureA Qde (Qdc s.dev e.zone e.offset ) (Go0 ?_)
 refine CallN.pureA Qd1 (QdY (Qa4 s.dev e.zone e.offset) ) (Go0 ?_)
 refine CallN.pureA Qji (QjJ (Qbi (Qa4 s.dev e.zone e.offset)).1 ) (Go0 ?_)
 by_cases c : Qeo s.dev e.zone e.offset = 0 ∧ (Qbi (Qa4 s.dev e.zone e.offset)).2 = true ∧ (QM (Qbi (Qa4 s.dev e.zone e.offset)).1).2 = true
 ·refine Br.no (Bool.eq_false_iff.2 fun ebye => by simp [-List.getD_eq_getElem?_getD, -Int.default_eq_zero, c.1, c.2.1, c.2.2] at ebye <;> grind) ?_; conv=>whnf
  refine Go0 ?_
  refine Dr.mkE hΓ hMix [] [(8, 11), (9, 11)] (by kernel_rfl) (Go0 ?_)
  refine CallP.auto QbV (QbU (QM (Qbi (Qa4 s.dev e.zone e.offset)).1).1 ) (Go0 ?_)
  refine CallP.auto QaR (QaQ s.dev hs.dev zone (encR (QM (Qbi (Qa4 s.dev e.zone e.offset)).1).1) ) (Go0 ?_)
  generalize hr : (QM (Qbi (Qa4 s.dev e.zone e.offset)).1).1 = r
  have hw := QcK s e zone
  by_cases a : Q9 s.dev zone (encR r) = 0
  ·refine Br.no (by rw [a]; rfl) (Go0 ?_)
   refine Dr.mkE hΓ hMix [] [(3, 6), (4, 6)] (by kernel_rfl) (Go0 ?_)
   refine CallN.pureA QfM (Qfy s.map e.block e.version e.zone e.offset zone (Qe s.dev zone (encR r)) r.move hs.map hs.shard ) (Go0 ?_)
   refine CallN.pureA Qda (Qdd s.live s.pend e { e with zone := zone, offset := Qe s.dev zone (encR r), move := r.move } true true hs.live hs.pend ) (Go0 ?_)
   have q : s.copied e zone = { s with dev := Qaa s.dev zone (encR r), map := (relM s.map e.block e.version e.zone e.offset zone (Qe s.dev zone (encR r)) r.move).1, live := (Qat s.live s.pend e.zone zone true true).1 } := by
    unfold St.copied
    rw [hr, if_pos ⟨c.1, c.2.1, c.2.2, a⟩]
   rw [q]
   refine ⟨_, _, ?_, rfl, rfl⟩
   exact RM.w0
  ·refine Br.yes (by simpa using a) (Go0 ?_)
   rw [show s.copied e zone = s by unfold St.copied; rw [hr, if_neg fun z => a z.2.2.2]]
   refine ⟨_, _, ?_, rfl, rfl⟩
   exact RM.w0
 ·refine Br.yes (Decidable.byContradiction fun ebye => c (by simp [-List.getD_eq_getElem?_getD, -Int.default_eq_zero] at ebye <;> grind)) ?_; conv=>whnf
  refine Go0 ?_
  rw [show s.copied e zone = s by unfold St.copied; rw [if_neg fun z => c ⟨z.1, z.2.1, z.2.2.1⟩]]
  refine ⟨_, _, ?_, rfl, rfl⟩
  exact RM.w0
theorem QfN : HB 163 := hB Tryz.func163
theorem Qhp {c : Conf} {n : Int} {r : Nat} {s : St} (h : Gq c n r s) : (allS s.map).length ≤ 100000 := Qld h.gd.val
set_option maxHeartbeats 8000000 in
theorem Qp7 (c : Conf) (n : Int) (r : Nat) (d : DiceM) (hd : d.ok) (s : St) (h : Gq c n r s) (hn : n + c.size ≤ 100000) (hr : r ≤ 1000) : CS 92 [.c (.ptr 0 0), .a (s.cellsK 1)] [.vr d.cells, s.wobj] fun x H => ∃ i : DS, (i.1.ok ∧ Gq c (n + c.size) r i.2) ∧ x = .a (i.2.cellsK 1) ∧ H = [.vr i.1.cells, i.2.wobj] := by
 have hcf := confR_iff.1 (Qv h.gd.conf).1
 have hsm := h.small om
 refine CSpec.rm ?_
 refine ov hΓ Tryz.func92 107 2 [.cell 4 58] Tryz.ntmps92 Tryz.results92 ?_
 refine Go1 fun _h=>?_
 refine CallG.autoQ [0] Ql (Qm d hd 4) (fun hg => ?_) (fun hg => ?_) <;> (conv=>whnf)
 ·refine Go0 ?_
  have hf : 0 < s.free.length := by simpa using hg
  rw [decide_eq_true (p := ((s.free.length : Int) > 0)) om]
  by_cases c1 : d.next 4 > 0
  ·refine Br.yes (decide_eq_true c1) (Go0 ?_)
   refine CallN.pureA QcH (QcB s.free (s.free.getD 0 default) hsm.free ) (Go0 ?_)
   refine CallN.autoQ [0] Ql (Qm d.step hd.step s.cfg.size) (Go0 ?_)
   have hx := d.step.next_range (n := s.cfg.size) (by rw [h.gd.cfg]; omega) (by rw [h.gd.cfg]; omega)
   have hcs : s.cfg.size = c.size := by rw [h.gd.cfg]
   refine Lp.mkK hΓ (ι := DS × Nat) [0, 3, 4, 5] (fun i => [(6, .c (.int .i64 (d.step.next s.cfg.size - i.2)))]) (fun i => [.vr i.1.1.cells, i.1.2.wobj, .vr (i.1.2.cellsK 1), .vr (default : St).cells]) (fun i => i.2 ≤ (d.step.next s.cfg.size).toNat ∧ i.1.1.ok ∧ Gq c (n + i.2) r i.1.2) (fun i => (d.step.next s.cfg.size).toNat - i.2) ((d.step.step, { (s.unfree (s.free.getD 0 default)) with host := s.free.getD 0 default }), 0) ⟨Nat.zero_le _, hd.step.step, (h.setHost hf).weak (by simp) (Nat.le_refl _)⟩ ?_ ?_
   ·exact Mv.k0
   ·rintro ⟨⟨d1, s1⟩, k⟩ ⟨hk, hd1, h1⟩
    have h1 : Gq c (n + k) r s1 := h1
    have hk : k ≤ (d.step.next s.cfg.size).toNat := hk
    have hd1 : d1.ok := hd1
    have hsm1 := h1.small om
    have hp1 := h1.gd.val.parts.next
    have hp2 := h1.gd.next
    refine Go0 ?_
    refine Br.of (fun h3=>Go0 ?_) (fun h3=>Go1 fun _h=>?_)
    ·have w0 := Qa (d.step.next s.cfg.size - k - 1) om om
     have hb := QeJ h1.gd.conf
     refine CallN.autoI [0, 1] QjW (Qjm d1 hd1 s1 ⟨om, om⟩) plh (Go0 ?_)
     refine CallN.autoI [1] Qi6 (Qjk s1.bump ((h1.bump om).small om) (s.free.getD 0 default) (recR d1 s1.cfg.blocks s1.next)) plh (Go0 ?_)
     refine ⟨((recD d1, s1.bump.add (s.free.getD 0 default) (recR d1 s1.cfg.blocks s1.next)), k + 1), ⟨by show k + 1 ≤ (d.step.next s.cfg.size).toNat; omega, QpB hd1, ?_⟩, by show (d.step.next s.cfg.size).toNat - (k + 1) < (d.step.next s.cfg.size).toNat - k; omega, ?_⟩
     ·exact ((h1.bump om).add _ (by rw [h1.gd.cfg]; exact (QgM _ hb.1 hb.2).2)).weak (by show n + k + 1 ≤ n + ((k + 1 : Nat) : Int); omega) (Nat.le_refl _)
     ·exact Mv.k0
    ·have : k = (d.step.next s.cfg.size).toNat := by omega
     have h1 : Gq c (n + c.size) r s1 := h1.weak om (Nat.le_refl _)
     have hsb := Gq.small h1 om
     refine CallG.autoQ [0] Ql (Qm d1 hd1 3) (fun hg => ?_) (fun hg => ?_) <;> (conv=>whnf)
     ·refine Go0 ?_
      have hf : 0 < (s1).free.length := by simpa using hg
      rw [decide_eq_true (p := (((s1).free.length : Int) > 0)) om]
      by_cases c2 : (d1).next 3 > 0
      ·refine Br.yes (decide_eq_true c2) (Go0 ?_)
       refine CallN.pureA QcH (QcB (s1).free ((s1).free.getD 0 default) hsb.free ) (Go0 ?_)
       refine CallN.pureA Qeg (Qd7 (s1).map hsb.shard hsb.map ) (Go0 ?_)
       refine Lp.mkK hΓ (ι := DS × Nat) [0, 3, 4, 9, 10] (fun i => [(11, .c (.int .i64 i.2))]) (fun i => [.vr i.1.1.cells, i.1.2.wobj, .vr (i.1.2.cellsK 1), .vr (default : St).cells]) (fun i => i.2 ≤ (allS (s1).map).length ∧ i.1.1.ok ∧ Gq c (n + c.size) r i.1.2) (fun i => (allS (s1).map).length - i.2) (((d1).step, { ((s1).unfree ((s1).free.getD 0 default)) with lane := (s1).free.getD 0 default }), 0) ⟨Nat.zero_le _, DiceM.ok.step hd1, Gq.setLane h1 hf⟩ ?_ ?_
       ·exact Mv.k0
       ·rintro ⟨⟨d2, s2⟩, k⟩ ⟨hk, hd2, h2⟩
        have h2 : Gq c (n + c.size) r s2 := h2
        have hk : k ≤ (allS (s1).map).length := hk
        have hd2 : d2.ok := hd2
        have hl := Qhp h1
        refine Go1 fun _h=>?_
        refine CallG.autoQ [0] Ql (Qm d2 hd2 s2.cfg.size) (fun hg => ?_) (fun hg => ?_) <;> (conv=>whnf)
        ·refine Go0 ?_
         have hk2 : k < (allS (s1).map).length := by simpa using hg
         rw [decide_eq_true (p := ((k : Int) < ((allS (s1).map).length : Int))) om]
         by_cases c3 : (k : Int) < d2.next s2.cfg.size
         ·refine Br.yes (decide_eq_true c3) (Go0 ?_)
          have w0 := Qa (↑k + 1) om om
          refine Dr.mkE hΓ hMix [163, 8589934755] [] (by kernel_rfl) (Go0 ?_)
          refine CallF.autoI [1] QfN (Qfz s2 (h2.small om) ((allS (s1).map).getD k default) ((s1).free.getD 0 default)) plh (Go0 ?_)
          refine ⟨((d2.step, s2.copied ((allS (s1).map).getD k default) ((s1).free.getD 0 default)), k + 1), ⟨hk2, hd2.step, h2.copied _ _⟩, by show (allS (s1).map).length - (k + 1) < (allS (s1).map).length - k; omega, ?_⟩
          have hw : (s2.copied ((allS (s1).map).getD k default) ((s1).free.getD 0 default)).works = s2.works := QcK _ _ _
          refine Mv.mkW ?_ ?_ leN <;> (first|exact wb0|refine wb1 ?_|refine wb2 ?_ ?_|refine wb3 ?_ ?_ ?_|refine wb4 ?_ ?_ ?_ ?_)
          ·refine WO.arr (congrArg List.length hw).symm fun i _ j _ => ?_
           show WC _ _ (wrkG s2.works i j) (wrkG (s2.copied ((allS (s1).map).getD k default) ((s1).free.getD 0 default)).works i j)
           rw [hw]
           exact WC.imm (Qj _ _)
          all_goals exact WC.slA (hl := congrArg List.length hw.symm) (ht := congrArg List.length hw.symm)
         ·refine Br.no (decide_eq_false c3) (Go0 ?_)
          refine ⟨_, _, ?_, ⟨(d2.step, s2), ⟨hd2.step, h2.weak om (Nat.le_refl _)⟩, rfl, rfl⟩⟩
          exact RM.w0
        ·refine Go0 ?_
         rw [hg]
         refine Br.no rfl (Go0 ?_)
         refine ⟨_, _, ?_, ⟨(d2, s2), ⟨hd2, h2.weak om (Nat.le_refl _)⟩, rfl, rfl⟩⟩
         exact RM.w0
      ·refine Br.no (decide_eq_false c2) (Go0 ?_)
       refine ⟨_, _, ?_, ⟨((d1).step, s1), ⟨DiceM.ok.step hd1, Gq.weak h1 om (Nat.le_refl _)⟩, rfl, rfl⟩⟩
       exact RM.w0
     ·refine Go0 ?_
      rw [hg]
      refine Br.no rfl (Go0 ?_)
      refine ⟨_, _, ?_, ⟨(d1, s1), ⟨hd1, Gq.weak h1 om (Nat.le_refl _)⟩, rfl, rfl⟩⟩
      exact RM.w0
  ·refine Br.no (decide_eq_false c1) (Go1 fun _h=>?_)
   have hsb := Gq.small h om
   refine CallG.autoQ [0] Ql (Qm d.step hd.step 3) (fun hg => ?_) (fun hg => ?_) <;> (conv=>whnf)
   ·refine Go0 ?_
    have hf : 0 < (s).free.length := by simpa using hg
    rw [decide_eq_true (p := (((s).free.length : Int) > 0)) om]
    by_cases c2 : (d.step).next 3 > 0
    ·refine Br.yes (decide_eq_true c2) (Go0 ?_)
     refine CallN.pureA QcH (QcB (s).free ((s).free.getD 0 default) hsb.free ) (Go0 ?_)
     refine CallN.pureA Qeg (Qd7 (s).map hsb.shard hsb.map ) (Go0 ?_)
     refine Lp.mkK hΓ (ι := DS × Nat) [0, 3, 4, 9, 10] (fun i => [(11, .c (.int .i64 i.2))]) (fun i => [.vr i.1.1.cells, i.1.2.wobj, .vr (i.1.2.cellsK 1), .vr (default : St).cells]) (fun i => i.2 ≤ (allS (s).map).length ∧ i.1.1.ok ∧ Gq c n r i.1.2) (fun i => (allS (s).map).length - i.2) (((d.step).step, { ((s).unfree ((s).free.getD 0 default)) with lane := (s).free.getD 0 default }), 0) ⟨Nat.zero_le _, DiceM.ok.step hd.step, Gq.setLane h hf⟩ ?_ ?_
     ·exact Mv.k0
     ·rintro ⟨⟨d2, s2⟩, k⟩ ⟨hk, hd2, h2⟩
      have h2 : Gq c n r s2 := h2
      have hk : k ≤ (allS (s).map).length := hk
      have hd2 : d2.ok := hd2
      have hl := Qhp h
      refine Go1 fun _h=>?_
      refine CallG.autoQ [0] Ql (Qm d2 hd2 s2.cfg.size) (fun hg => ?_) (fun hg => ?_) <;> (conv=>whnf)
      ·refine Go0 ?_
       have hk2 : k < (allS (s).map).length := by simpa using hg
       rw [decide_eq_true (p := ((k : Int) < ((allS (s).map).length : Int))) om]
       by_cases c3 : (k : Int) < d2.next s2.cfg.size
       ·refine Br.yes (decide_eq_true c3) (Go0 ?_)
        have w0 := Qa (↑k + 1) om om
        refine Dr.mkE hΓ hMix [163, 8589934755] [] (by kernel_rfl) (Go0 ?_)
        refine CallF.autoI [1] QfN (Qfz s2 (h2.small om) ((allS (s).map).getD k default) ((s).free.getD 0 default)) plh (Go0 ?_)
        refine ⟨((d2.step, s2.copied ((allS (s).map).getD k default) ((s).free.getD 0 default)), k + 1), ⟨hk2, hd2.step, h2.copied _ _⟩, by show (allS (s).map).length - (k + 1) < (allS (s).map).length - k; omega, ?_⟩
        have hw : (s2.copied ((allS (s).map).getD k default) ((s).free.getD 0 default)).works = s2.works := QcK _ _ _
        refine Mv.mkW ?_ ?_ leN <;> (first|exact wb0|refine wb1 ?_|refine wb2 ?_ ?_|refine wb3 ?_ ?_ ?_|refine wb4 ?_ ?_ ?_ ?_)
        ·refine WO.arr (congrArg List.length hw).symm fun i _ j _ => ?_
         show WC _ _ (wrkG s2.works i j) (wrkG (s2.copied ((allS (s).map).getD k default) ((s).free.getD 0 default)).works i j)
         rw [hw]
         exact WC.imm (Qj _ _)
        all_goals exact WC.slA (hl := congrArg List.length hw.symm) (ht := congrArg List.length hw.symm)
       ·refine Br.no (decide_eq_false c3) (Go0 ?_)
        refine ⟨_, _, ?_, ⟨(d2.step, s2), ⟨hd2.step, h2.weak om (Nat.le_refl _)⟩, rfl, rfl⟩⟩
        exact RM.w0
      ·refine Go0 ?_
       rw [hg]
       refine Br.no rfl (Go0 ?_)
       refine ⟨_, _, ?_, ⟨(d2, s2), ⟨hd2, h2.weak om (Nat.le_refl _)⟩, rfl, rfl⟩⟩
       exact RM.w0
    ·refine Br.no (decide_eq_false c2) (Go0 ?_)
     refine ⟨_, _, ?_, ⟨((d.step).step, s), ⟨DiceM.ok.step hd.step, Gq.weak h om (Nat.le_refl _)⟩, rfl, rfl⟩⟩
     exact RM.w0
   ·refine Go0 ?_
    rw [hg]
    refine Br.no rfl (Go0 ?_)
    refine ⟨_, _, ?_, ⟨(d.step, s), ⟨hd.step, Gq.weak h om (Nat.le_refl _)⟩, rfl, rfl⟩⟩
    exact RM.w0
 ·refine Go0 ?_
  rw [hg]
  refine Br.no rfl (Go1 fun _h=>?_)
  have hsb := Gq.small h om
  refine CallG.autoQ [0] Ql (Qm d hd 3) (fun hg => ?_) (fun hg => ?_) <;> (conv=>whnf)
  ·refine Go0 ?_
   have hf : 0 < (s).free.length := by simpa using hg
   rw [decide_eq_true (p := (((s).free.length : Int) > 0)) om]
   by_cases c2 : (d).next 3 > 0
   ·refine Br.yes (decide_eq_true c2) (Go0 ?_)
    refine CallN.pureA QcH (QcB (s).free ((s).free.getD 0 default) hsb.free ) (Go0 ?_)
    refine CallN.pureA Qeg (Qd7 (s).map hsb.shard hsb.map ) (Go0 ?_)
    refine Lp.mkK hΓ (ι := DS × Nat) [0, 3, 4, 9, 10] (fun i => [(11, .c (.int .i64 i.2))]) (fun i => [.vr i.1.1.cells, i.1.2.wobj, .vr (i.1.2.cellsK 1), .vr (default : St).cells]) (fun i => i.2 ≤ (allS (s).map).length ∧ i.1.1.ok ∧ Gq c n r i.1.2) (fun i => (allS (s).map).length - i.2) (((d).step, { ((s).unfree ((s).free.getD 0 default)) with lane := (s).free.getD 0 default }), 0) ⟨Nat.zero_le _, DiceM.ok.step hd, Gq.setLane h hf⟩ ?_ ?_
    ·exact Mv.k0
    ·rintro ⟨⟨d2, s2⟩, k⟩ ⟨hk, hd2, h2⟩
     have h2 : Gq c n r s2 := h2
     have hk : k ≤ (allS (s).map).length := hk
     have hd2 : d2.ok := hd2
     have hl := Qhp h
     refine Go1 fun _h=>?_
     refine CallG.autoQ [0] Ql (Qm d2 hd2 s2.cfg.size) (fun hg => ?_) (fun hg => ?_) <;> (conv=>whnf)
     ·refine Go0 ?_
      have hk2 : k < (allS (s).map).length := by simpa using hg
      rw [decide_eq_true (p := ((k : Int) < ((allS (s).map).length : Int))) om]
      by_cases c3 : (k : Int) < d2.next s2.cfg.size
      ·refine Br.yes (decide_eq_true c3) (Go0 ?_)
       have w0 := Qa (↑k + 1) om om
       refine Dr.mkE hΓ hMix [163, 8589934755] [] (by kernel_rfl) (Go0 ?_)
       refine CallF.autoI [1] QfN (Qfz s2 (h2.small om) ((allS (s).map).getD k default) ((s).free.getD 0 default)) plh (Go0 ?_)
       refine ⟨((d2.step, s2.copied ((allS (s).map).getD k default) ((s).free.getD 0 default)), k + 1), ⟨hk2, hd2.step, h2.copied _ _⟩, by show (allS (s).map).length - (k + 1) < (allS (s).map).length - k; omega, ?_⟩
       have hw : (s2.copied ((allS (s).map).getD k default) ((s).free.getD 0 default)).works = s2.works := QcK _ _ _
       refine Mv.mkW ?_ ?_ leN <;> (first|exact wb0|refine wb1 ?_|refine wb2 ?_ ?_|refine wb3 ?_ ?_ ?_|refine wb4 ?_ ?_ ?_ ?_)
       ·refine WO.arr (congrArg List.length hw).symm fun i _ j _ => ?_
        show WC _ _ (wrkG s2.works i j) (wrkG (s2.copied ((allS (s).map).getD k default) ((s).free.getD 0 default)).works i j)
        rw [hw]
        exact WC.imm (Qj _ _)
       all_goals exact WC.slA (hl := congrArg List.length hw.symm) (ht := congrArg List.length hw.symm)
      ·refine Br.no (decide_eq_false c3) (Go0 ?_)
       refine ⟨_, _, ?_, ⟨(d2.step, s2), ⟨hd2.step, h2.weak om (Nat.le_refl _)⟩, rfl, rfl⟩⟩
       exact RM.w0
     ·refine Go0 ?_
      rw [hg]
      refine Br.no rfl (Go0 ?_)
      refine ⟨_, _, ?_, ⟨(d2, s2), ⟨hd2, h2.weak om (Nat.le_refl _)⟩, rfl, rfl⟩⟩
      exact RM.w0
   ·refine Br.no (decide_eq_false c2) (Go0 ?_)
    refine ⟨_, _, ?_, ⟨((d).step, s), ⟨DiceM.ok.step hd, Gq.weak h om (Nat.le_refl _)⟩, rfl, rfl⟩⟩
    exact RM.w0
  ·refine Go0 ?_
   rw [hg]
   refine Br.no rfl (Go0 ?_)
   refine ⟨_, _, ?_, ⟨(d, s), ⟨hd, Gq.weak h om (Nat.le_refl _)⟩, rfl, rfl⟩⟩
   exact RM.w0
theorem QpZ : HB 92 := hB Tryz.func92
end Go.Proofs
end
