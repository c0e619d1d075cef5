/- Contracts, lemmas; no condition. -/
import Derived.Test.YtmollgldghpbkaaGreatGF
import Derived.Test.YtmollgldghpbkaaGreatStB
import Derived.Test.YtmollgldghpbkaaGreatKs
import Derived.Test.YtmollgldghpbkaaGreatAmF
import Derived.Test.YtmollgldghpbkaaGreatG8
set_option linter.all false
section
open Go Go.Am
namespace Go.Proofs
set_option maxRecDepth 20000
theorem Qve (x : Int) : (x != 0) = decide (x ≠ 0) := by
 by_cases h : x = 0 <;> simp [h]
set_option maxHeartbeats 4000000 in
theorem QcI (s : St) (h1 : s.map.length ≤ 1000000) (h2 : ∀ i, (s.map.getD i default).length ≤ 1000000) (h3 : s.live.length ≤ 1000000) (h4 : s.pend.length ≤ 1000000) (e : Ent) : CS 169 [.a (s.cellsK 0), .a e.cells] [s.wobj] fun r H => r = .a ((s.install e).cellsK 0) ∧ H = [(s.install e).wobj] := by
 refine CSpec.rm ?_
 refine ov0 hΓ Tryz.func169 32 1 [.cell 4 58] Tryz.ntmps169 Tryz.results169 ?_
 refine CallN.pureA Qrf (Qp5 s.map e h1 h2 ) (Go0 ?_)
 by_cases c : (QaY s.map e).2.2 = true
 ·refine Br.yes c (Go0 ?_)
  refine CallN.pureA Qda (Qdd s.live s.pend (QaY s.map e).2.1 e ((QaY s.map e).2.1.kind != 0) true h3 h4 ) (Go0 ?_)
  rw [show s.install e = { s with live := (Qat s.live s.pend (QaY s.map e).2.1.zone e.zone ((QaY s.map e).2.1.kind != 0) true).1, map := (QaY s.map e).1 } by rw [Qve]; exact if_pos c]
  refine ⟨_, _, ?_, rfl, rfl⟩
  exact RM.w0
 ·refine Br.no (Qg c) (Go0 ?_)
  rw [show s.install e = s from if_neg c]
  refine ⟨_, _, ?_, rfl, rfl⟩
  exact RM.w0
theorem QcG : HB 169 := hB Tryz.func169
set_option maxHeartbeats 4000000 in
theorem Qjk (s : St) (hs : s.small) (zone : Int) (r : Rec) : CS 159 [.a (s.cellsK 0), .c (.int .i64 zone), .a r.cells] [s.wobj] fun x H => x = .a ((s.add zone r).cellsK 0) ∧ H = [(s.add zone r).wobj] := by
 refine CSpec.rm ?_
 refine ov0 hΓ Tryz.func159 39 1 [.cell 6 58] Tryz.ntmps159 Tryz.results159 ?_
 refine Dr.mkE hΓ hMix [] [(8, 11), (9, 11)] (by kernel_rfl) (Go0 ?_)
 refine CallP.auto QbV (QbU r ) (Go0 ?_)
 refine CallP.auto QaR (QaQ s.dev hs.dev zone (encR r) ) (Go0 ?_)
 by_cases c : Q9 s.dev zone (encR r) = 0
 ·refine Br.no (by rw [c]; rfl) (Go0 ?_)
  refine CallN.autoI [0] QcG (QcI (s.put zone r) hs.map hs.shard hs.live hs.pend (recE r zone (Qe s.dev zone (encR r)))) plh (Go0 ?_)
  rw [show s.add zone r = (s.put zone r).install (recE r zone (Qe s.dev zone (encR r))) from if_pos c]
  refine ⟨_, _, ?_, rfl, rfl⟩
  exact RM.w0
 ·refine Br.yes (by simpa using c) (Go0 ?_)
  rw [show s.add zone r = s from if_neg c]
  refine ⟨_, _, ?_, rfl, rfl⟩
  exact RM.w0
theorem Qi6 : HB 159 := hB Tryz.func159
theorem QpB {d : DiceM} (h : d.ok) : (recD d).ok := h.step.step.step
theorem QiI {z : Int} {p : DS} (h : p.1.ok) : ∀ k, (addTo z p k).1.ok
 | 0 => h
 | k + 1 => QpB (QiI h k)
set_option maxHeartbeats 1000000 in
theorem Qjm (d : DiceM) (hd : d.ok) (s : St) (hn : 0 ≤ s.next ∧ s.next ≤ 1000000000) : CS 158 [.c (.ptr 0 0), .a (s.cellsK 1)] [.vr d.cells, s.wobj] fun x H => x = .t [.inr (recR d s.cfg.blocks s.next).cells, .inr (s.bump.cellsK 1)] ∧ H = [.vr (recD d).cells, s.bump.wobj] := by
 have w0 := Qa (s.next + 1) om om
 refine CSpec.rm ?_
 refine ov0 hΓ Tryz.func158 20 2 [.cell 4 178, .cell 5 58] Tryz.ntmps158 Tryz.results158 ?_
 refine CallN.autoQ [0] Qoi (QoD d hd s.cfg.blocks s.next) (Go0 ?_)
 rw [w0]
 refine Dr.mkE hΓ hMix [] [(1, 2)] (by kernel_rfl) (Go0 ?_)
 refine ⟨_, _, ?_, rfl, rfl⟩
 exact RM.w0
theorem QjW : HB 158 := hB Tryz.func158
theorem QcB (l : List Int) (n : Int) (hl : l.length ≤ 1000000) : PS 45 [.c (Qi l), .c (.int .i64 n)] (.c (Qi (QaF l n))) := by
 refine PSpec.rm ?_
 refine ov0 hΓ Tryz.func45 27 0 [.tmp 4] Tryz.ntmps45 Tryz.results45 ?_
 refine Lp.reserve 3 1 (Qam .i64 []) 5 rfl ?_
 refine Lp.mkK hΓ (ι := Nat) [0, 1, 4] (fun k => [(6, .c (.int .i64 k)), (5, .c (.sl 0 1 (QaF (l.take k) n).length (QaF (l.take k) n).length false))]) (fun k => [.arr 3 1 (QaF (l.take k) n).length (Qam .i64 (QaF (l.take k) n))]) (fun k => k ≤ l.length) (fun k => l.length - k) 0 (Nat.zero_le _) ?_ ?_
 ·exact Mv.k0
 ·intro k hk
  have hlq : (QaF (l.take k) n).length ≤ l.length := Nat.le_trans (List.length_filter_le _ _) (by rw [List.length_take]; omega)
  refine Go1 fun _h=>?_
  refine Br.of (fun h1=>Go0 ?_) (fun h1=>Go0 ?_)
  ·have w0 := Qa (↑k + 1) om om
   have ht : QaF (l.take (k + 1)) n = if l.getD k default ≠ n then QaF (l.take k) n ++ [l.getD k default] else QaF (l.take k) n := by
    unfold QaF
    rw [QaJ l om, List.filter_append, List.filter_cons, List.filter_nil]
    split <;> simp_all
   by_cases c : l.getD k default ≠ n
   ·rw [if_pos c] at ht
    refine Br.yes (bne_iff_ne.2 c) (Go0 ?_)
    refine ⟨k + 1, om, om, ?_⟩
    rw [ht]
    refine Mv.k1 ?_
    exact fun i hi j hj => WC.eq (Qdg rfl om hj) rfl
   ·rw [if_neg c] at ht
    refine Br.no (Bool.eq_false_iff.2 fun z => c (bne_iff_ne.1 z)) (Go0 ?_)
    refine ⟨k + 1, om, om, ?_⟩
    rw [ht]
    exact Mv.k0
  ·have : k = l.length := by omega
   subst this
   rw [List.take_length]
   exact RM.allC (Fw.ints rfl rfl rfl (fun _ _ _ _ => rfl))
theorem QcH : HB 45 := hB Tryz.func45
set_option maxHeartbeats 4000000 in
theorem QrZ (c : Conf) (n : Int) (r e : Nat) (d : DiceM) (hd : d.ok) (s : St) (h : Gd c n r e s) (hn : n + c.size ≤ 1000000) (hr : r ≤ 1000) (he : e ≤ 1000) (zone : Int) (hz : 0 ≤ zone ∧ zone < c.zones) : CS 91 [.c (.ptr 0 0), .a (s.cellsK 1), .c (.int .i64 zone)] [.vr d.cells, s.wobj] fun x H => x = .a ((fullF zone (d, s)).2.cellsK 1) ∧ H = [.vr (fullF zone (d, s)).1.cells, (fullF zone (d, s)).2.wobj] := by
 have hcf := confR_iff.1 (Qv h.conf).1
 have w1 := Qa (c.size - 1) om om
 refine CSpec.rm ?_
 refine ov0 hΓ Tryz.func91 53 2 [.cell 6 58] Tryz.ntmps91 Tryz.results91 ?_
 refine Lp.mkK hΓ (ι := Nat) [0, 2, 4, 6] (fun k => [(7, .c (.int .i64 k))]) (fun k => [.vr (addTo zone (d, s) k).1.cells, (addTo zone (d, s) k).2.wobj, .vr ((addTo zone (d, s) k).2.cellsK 1), .vr (default : St).cells]) (fun k => k ≤ (c.size - 1).toNat) (fun k => (c.size - 1).toNat - k) 0 (Nat.zero_le _) ?_ ?_
 ·exact Mv.k0
 ·intro k hk
  have hg := h.addTo (p := (d, s)) zone k om
  have hok := QiI (z := zone) (p := (d, s)) hd k
  have e1 : addTo zone (d, s) (k + 1) = addF zone (addTo zone (d, s) k) := rfl
  have e2 : k = (c.size - 1).toNat → fullF zone (d, s) = ((addTo zone (d, s) k).1, (addTo zone (d, s) k).2.seal zone) := fun q => by
   subst q
   unfold fullF
   rw [show ((d, s) : DS).2.cfg.size = c.size by rw [h.cfg]]
  generalize addTo zone (d, s) k = p at *
  have hsm := hg.small om om
  have hpn := hg.val.parts.next
  have hpn2 := hg.next
  have hcz : p.2.cfg.size = c.size := by rw [hg.cfg]
  have hzl := hg.val.parts.zones
  rw [hg.cfg] at hzl
  refine Go0 ?_
  rw [hcz, w1]
  refine Br.of (fun h1=>Go0 ?_) (fun h1=>Go0 ?_)
  ·have w0 := Qa (↑k + 1) om om
   refine CallN.autoI [0, 1] QjW (Qjm p.1 hok p.2 ⟨om, om⟩) plh (Go0 ?_)
   refine CallN.autoI [1] Qi6 (Qjk p.2.bump ((hg.bump om).small om om) zone (recR p.1 p.2.cfg.blocks p.2.next)) plh (Go0 ?_)
   refine ⟨k + 1, om, om, ?_⟩
   rw [e1]
   exact Mv.k0
  ·have : k = (c.size - 1).toNat := by omega
   rw [e2 this]
   refine CallN.pureA QqS (QpS (Qia p.2 zone) ) (Go0 ?_)
   refine Dr.mkE hΓ hMix [] [(8, 11), (9, 11)] (by kernel_rfl) (Go0 ?_)
   refine CallP.auto QbV (QbU (Qgt (Qia p.2 zone)) ) (Go0 ?_)
   refine CallP.auto QaR (QaQ p.2.dev hsm.dev zone (encR (Qgt (Qia p.2 zone))) ) (Go0 ?_)
   refine ⟨_, _, ?_, rfl, rfl⟩
   exact RM.w0
theorem Qtb : HB 91 := hB Tryz.func91
set_option maxHeartbeats 4000000 in
theorem Qfz (s : St) (hs : s.small) (e : Ent) (zone : Int) : CS 163 [.a (s.cellsK 0), .a e.cells, .c (.int .i64 zone)] [s.wobj] fun x H => x = .a ((s.copied e zone).cellsK 0) ∧ H = [s.wobj] := by
 refine CSpec.rm ?_
 refine ov0 hΓ Tryz.func163 99 1 [.cell 6 58] Tryz.ntmps163 Tryz.results163 ?_
 refine CallN.pureA Qde (Qdc s.dev e.zone e.offset ) (Go0 ?_)
 refine CallN.pureA Qd1 (QdY (Qa4 s.dev e.zone e.offset) ) (Go0 ?_)
 refine CallN.pureA Qji (QjJ (Qbi (Qa4 s.dev e.zone e.offset)).1 ) (Go0 ?_)
 by_cases c : Qeo s.dev e.zone e.offset = 0 ∧ (Qbi (Qa4 s.dev e.zone e.offset)).2 = true ∧ (QM (Qbi (Qa4 s.dev e.zone e.offset)).1).2 = true
 ·refine Br.no (Bool.eq_false_iff.2 fun ebye => by simp [-List.getD_eq_getElem?_getD, -Int.default_eq_zero, c.1, c.2.1, c.2.2] at ebye <;> grind) ?_; conv=>whnf
  refine Go0 ?_
  refine Dr.mkE hΓ hMix [] [(8, 11), (9, 11)] (by kernel_rfl) (Go0 ?_)
  refine CallP.auto QbV (QbU (QM (Qbi (Qa4 s.dev e.zone e.offset)).1).1 ) (Go0 ?_)
  refine CallP.auto QaR (QaQ s.dev hs.dev zone (encR (QM (Qbi (Qa4 s.dev e.zone e.offset)).1).1) ) (Go0 ?_)
  generalize hr : (QM (Qbi (Qa4 s.dev e.zone e.offset)).1).1 = r
  have hw := QcK s e zone
  by_cases a : Q9 s.dev zone (encR r) = 0
  ·refine Br.no (by rw [a]; rfl) (Go0 ?_)
   refine Dr.mkE hΓ hMix [] [(3, 6), (4, 6)] (by kernel_rfl) (Go0 ?_)
   refine CallN.pureA QfM (Qfy s.map e.block e.version e.zone e.offset zone (Qe s.dev zone (encR r)) r.move hs.map hs.shard ) (Go0 ?_)
   refine CallN.pureA Qda (Qdd s.live s.pend e { e with zone := zone, offset := Qe s.dev zone (encR r), move := r.move } true true hs.live hs.pend ) (Go0 ?_)
   have q : s.copied e zone = { s with dev := Qaa s.dev zone (encR r), map := (relM s.map e.block e.version e.zone e.offset zone (Qe s.dev zone (encR r)) r.move).1, live := (Qat s.live s.pend e.zone zone true true).1 } := by
    unfold St.copied
    rw [hr, if_pos ⟨c.1, c.2.1, c.2.2, a⟩]
   rw [q]
   refine ⟨_, _, ?_, rfl, rfl⟩
   exact RM.w0
  ·refine Br.yes (by simpa using a) (Go0 ?_)
   rw [show s.copied e zone = s by unfold St.copied; rw [hr, if_neg fun z => a z.2.2.2]]
   refine ⟨_, _, ?_, rfl, rfl⟩
   exact RM.w0
 ·refine Br.yes (Decidable.byContradiction fun ebye => c (by simp [-List.getD_eq_getElem?_getD, -Int.default_eq_zero] at ebye <;> grind)) ?_; conv=>whnf
  refine Go0 ?_
  rw [show s.copied e zone = s by unfold St.copied; rw [if_neg fun z => c ⟨z.1, z.2.1, z.2.2.1⟩]]
  refine ⟨_, _, ?_, rfl, rfl⟩
  exact RM.w0
theorem QfN : HB 163 := hB Tryz.func163
set_option maxHeartbeats 8000000 in
theorem Qme (s : St) (hs : s.small) (q : Int) : CS 36 [.a (s.cellsK 0), .c (.int .i64 q)] [s.wobj] (fun r H => if begA s q = true then r = .t [.inr ((Qn false s q).1.cellsK 1), .inl (.bool true)] ∧ H = [s.wobj, (Qn false s q).1.wobj] else r = .t [.inr ((Qn false s q).1.cellsK 0), .inl (.bool (Qn false s q).2)] ∧ H = [s.wobj]) := by
 refine CSpec.rm ?_
 have hrl := hs.rings
 have hwl := hs.works
 refine ov0 hΓ Tryz.func36 90 1 [.cell 4 58, .tmp 5] Tryz.ntmps36 Tryz.results36 ?_
 refine CallN.reads QdG (Qds s hs) (BwA.cons (BwS.a (BwL.wk (a := 0) rfl rfl (fun _ _ _ _ => rfl))) BwA.nil) rfl (Go0 ?_)
 by_cases hv : Qz s = true
 ·have hp := (validS_V.1 hv).parts
  have hlen : s.rings.length = s.works.length := by have := hp.rings; have := hp.works; omega
  by_cases hq : 0 ≤ q ∧ q < s.works.length
  ·have hq0 := hq.1
   have hq1 := hq.2
   have hq2 : q < s.rings.length := by omega
   have hq1' : q.toNat < s.works.length := by omega
   have hq2' : q.toNat < s.rings.length := by omega
   refine Go0 ?_
   refine Frc.mk (.c (.int .i64 (s.works.getD q.toNat default).state)) rfl (Go0 ?_)
   by_cases hst : (s.works.getD q.toNat default).state = 0
   ·have hc : Qz s = true ∧ 0 ≤ q ∧ q < s.works.length ∧ (s.works.getD q.toNat default).state = 0 := ⟨hv, hq0, hq1, hst⟩
    refine Br.no (Bool.eq_false_iff.2 fun ebye => by simp [-List.getD_eq_getElem?_getD, -Int.default_eq_zero, hv,hq0,hq2,hst] at ebye <;> grind) ?_; conv=>whnf
    refine Go0 ?_
    refine CallN.pureA Qoo (Qo2 (s.rings.getD q.toNat default) (hs.items _) ) (Go0 ?_)
    generalize ht : Qah (s.rings.getD q.toNat default) = t
    obtain ⟨r, x, ok⟩ := t
    cases ok with
    | false =>
     have hA : begA s q = false := Qg fun z => by have := (begA_iff.1 z).2.1; rw [ht] at this; cases this
     refine Br.yes rfl (Go0 ?_)
     rw [show Qn false s q = (s, false) by unfold Qn; rw [if_pos hc, ht]; rfl]
     refine ⟨_, _, ?_, (if_neg (show ¬ begA s q = true by rw [hA]; decide)).mpr ⟨rfl, rfl⟩⟩
     exact RM.w0
    | true =>
     obtain ⟨ser, kind, block, data⟩ := x
     refine Br.no rfl (Go0 ?_)
     have hln : 0 + s.rings.length = (s.setRing q.toNat r).rings.length := by simp [St.setRing]
     have hfz : ∀ (ρ : Nat → Nat) (m : Nat) (g : Nat → Nat → C) (x : Bool), (∀ i j, j < 2 → g i j = rngG (s.setRing q.toNat r).rings i j) → WC ρ m (fzC 5 (0 + s.rings.length) g (.sl 5 2 (0 + s.rings.length) (0 + s.rings.length) x)) (rngC (s.setRing q.toNat r).rings) := fun ρ m g x hg => WC.fz rfl hln (fun i _ j hj => leF.of_eq (hg i j hj)) (fun e => by cases e)
     by_cases k1 : kind = 1
     ·refine Br.yes (by simpa using k1) (Go0 ?_)
      refine Go0 ?_
      refine CallN.pureA Qep (Qew s.cfg ⟨ser, kind, block, data⟩ ) (Go0 ?_)
      by_cases he : cmdE s.cfg ⟨ser, kind, block, data⟩ = 0
      ·have hb : Qn false s q = ((s.setRing q.toNat r).setWork q.toNat ⟨1, ⟨ser, kind, block, data⟩, default, ByteArray.empty⟩, true) := by
        unfold Qn; rw [if_pos hc, ht]; dsimp only; rw [if_pos rfl, if_pos he, show QaZ kind = 1 by unfold QaZ; simp [k1]]
       refine Br.no (by rw [he]; rfl) (Go0 ?_)
       refine CallN.fzK 5 [1, 2, 4, 7, 9, 10] [] [s.wobj, .vr (s.setRing q.toNat r).cellsK0, .vr (default : St).cells, .vr r.cells, .vr (Req.cells ⟨ser, kind, block, data⟩), .dead, .vr (Wrk.cells ⟨1, ⟨ser, kind, block, data⟩, default, ByteArray.empty⟩)] [.a (s.setRing q.toNat r).cellsK0, .c (.int .i64 q), .a (Wrk.cells ⟨1, ⟨ser, kind, block, data⟩, default, ByteArray.empty⟩)] rfl leN (fun i _ j hj => (congrArg C.imm (QZ hq2' rfl i j hj)).trans (QB _ _)) (by (first|refine wb1 ?_|refine wb2 ?_ ?_|refine wb3 ?_ ?_ ?_|refine wb4 ?_ ?_ ?_ ?_) <;> first | exact hfz _ _ _ _ fun i j hj => QZ hq2' rfl i j hj | exact fun i _ j _ => WC.fzI (Qj _ _)) wb0 (by (first|refine wb1 ?_|refine wb2 ?_ ?_|refine wb3 ?_ ?_ ?_|refine wb4 ?_ ?_ ?_ ?_) <;> first | exact hfz _ _ _ _ fun i j hj => QZ hq2' rfl i j hj | exact fun i _ j _ => WC.fzI (Qj _ _)) leN ?_
       refine CallN.autoI [0] Qaz (Qay (s.setRing q.toNat r) q ⟨1, ⟨ser, kind, block, data⟩, default, ByteArray.empty⟩ hs.works hc.2.1 hc.2.2.1) plh (Go0 ?_)
       have hA : begA s q = true := begA_iff.2 ⟨hc, by rw [ht], by rw [ht]; exact he⟩
       rw [hb]
       refine ⟨_, _, ?_, (if_pos hA).mpr ⟨rfl, rfl⟩⟩
       exact RM.renN [0, 7] (by decide) (show ∀ i, i < 1 → rho [0, 7] i = i by decide) leN wb0 wb0
      ·have hb : Qn false s q = ((s.setRing q.toNat r).addEv (QN true q ⟨ser, kind, block, data⟩ (cmdE s.cfg ⟨ser, kind, block, data⟩) ByteArray.empty), true) := by
        unfold Qn; rw [if_pos hc, ht]; simp only [if_true, if_neg he]; rfl
       have hA : begA s q = false := Qg fun z => by have := (begA_iff.1 z).2.2; rw [ht] at this; exact he this
       refine Br.yes (by simpa using he) (Go0 ?_)
       refine CallN.fzK 5 [1, 2, 4, 7, 9, 10] [] [s.wobj, .vr (s.setRing q.toNat r).cellsK0, .vr (default : St).cells, .vr r.cells, .vr (Req.cells ⟨ser, kind, block, data⟩), .dead, .vr (Wrk.cells ⟨1, ⟨ser, kind, block, data⟩, default, ByteArray.empty⟩)] [.a (s.setRing q.toNat r).cellsK0, .a (QN true q ⟨ser, kind, block, data⟩ (cmdE s.cfg ⟨ser, kind, block, data⟩) ByteArray.empty).cells] rfl leN (fun i _ j hj => (congrArg C.imm (QZ hq2' rfl i j hj)).trans (QB _ _)) (by (first|refine wb1 ?_|refine wb2 ?_ ?_|refine wb3 ?_ ?_ ?_|refine wb4 ?_ ?_ ?_ ?_) <;> first | exact hfz _ _ _ _ fun i j hj => QZ hq2' rfl i j hj | exact fun i _ j _ => WC.fzI (Qj _ _)) wb0 (by (first|refine wb1 ?_|refine wb2 ?_ ?_|refine wb3 ?_ ?_ ?_|refine wb4 ?_ ?_ ?_ ?_) <;> first | exact hfz _ _ _ _ fun i j hj => QZ hq2' rfl i j hj | exact fun i _ j _ => WC.fzI (Qj _ _)) leN ?_
       refine CallN.autoI [0] QbC (QbD (s.setRing q.toNat r) (QN true q ⟨ser, kind, block, data⟩ (cmdE s.cfg ⟨ser, kind, block, data⟩) ByteArray.empty) hs.evs) plh (Go0 ?_)
       rw [hb]
       refine ⟨_, _, ?_, (if_neg (show ¬ begA s q = true by rw [hA]; decide)).mpr ⟨rfl, rfl⟩⟩
       exact RM.w0
     ·by_cases k4 : kind = 4
      ·refine Br.no (by simpa using k1) (Go0 ?_)
       refine Br.yes (by simpa using k4) (Go0 ?_)
       have k41 : ¬ (4 : Int) = 1 := by decide
       refine Go0 ?_
       refine CallN.pureA Qep (Qew s.cfg ⟨ser, kind, block, data⟩ ) (Go0 ?_)
       by_cases he : cmdE s.cfg ⟨ser, kind, block, data⟩ = 0
       ·have hb : Qn false s q = ((s.setRing q.toNat r).setWork q.toNat ⟨10, ⟨ser, kind, block, data⟩, default, ByteArray.empty⟩, true) := by
         unfold Qn; rw [if_pos hc, ht]; dsimp only; rw [if_pos rfl, if_pos he, show QaZ kind = 10 by unfold QaZ; simp [k4, k41]]
        refine Br.no (by rw [he]; rfl) (Go0 ?_)
        refine CallN.fzK 5 [1, 2, 4, 7, 9, 10] [] [s.wobj, .vr (s.setRing q.toNat r).cellsK0, .vr (default : St).cells, .vr r.cells, .vr (Req.cells ⟨ser, kind, block, data⟩), .dead, .vr (Wrk.cells ⟨10, ⟨ser, kind, block, data⟩, default, ByteArray.empty⟩)] [.a (s.setRing q.toNat r).cellsK0, .c (.int .i64 q), .a (Wrk.cells ⟨10, ⟨ser, kind, block, data⟩, default, ByteArray.empty⟩)] rfl leN (fun i _ j hj => (congrArg C.imm (QZ hq2' rfl i j hj)).trans (QB _ _)) (by (first|refine wb1 ?_|refine wb2 ?_ ?_|refine wb3 ?_ ?_ ?_|refine wb4 ?_ ?_ ?_ ?_) <;> first | exact hfz _ _ _ _ fun i j hj => QZ hq2' rfl i j hj | exact fun i _ j _ => WC.fzI (Qj _ _)) wb0 (by (first|refine wb1 ?_|refine wb2 ?_ ?_|refine wb3 ?_ ?_ ?_|refine wb4 ?_ ?_ ?_ ?_) <;> first | exact hfz _ _ _ _ fun i j hj => QZ hq2' rfl i j hj | exact fun i _ j _ => WC.fzI (Qj _ _)) leN ?_
        refine CallN.autoI [0] Qaz (Qay (s.setRing q.toNat r) q ⟨10, ⟨ser, kind, block, data⟩, default, ByteArray.empty⟩ hs.works hc.2.1 hc.2.2.1) plh (Go0 ?_)
        have hA : begA s q = true := begA_iff.2 ⟨hc, by rw [ht], by rw [ht]; exact he⟩
        rw [hb]
        refine ⟨_, _, ?_, (if_pos hA).mpr ⟨rfl, rfl⟩⟩
        exact RM.renN [0, 7] (by decide) (show ∀ i, i < 1 → rho [0, 7] i = i by decide) leN wb0 wb0
       ·have hb : Qn false s q = ((s.setRing q.toNat r).addEv (QN true q ⟨ser, kind, block, data⟩ (cmdE s.cfg ⟨ser, kind, block, data⟩) ByteArray.empty), true) := by
         unfold Qn; rw [if_pos hc, ht]; simp only [if_true, if_neg he]; rfl
        have hA : begA s q = false := Qg fun z => by have := (begA_iff.1 z).2.2; rw [ht] at this; exact he this
        refine Br.yes (by simpa using he) (Go0 ?_)
        refine CallN.fzK 5 [1, 2, 4, 7, 9, 10] [] [s.wobj, .vr (s.setRing q.toNat r).cellsK0, .vr (default : St).cells, .vr r.cells, .vr (Req.cells ⟨ser, kind, block, data⟩), .dead, .vr (Wrk.cells ⟨10, ⟨ser, kind, block, data⟩, default, ByteArray.empty⟩)] [.a (s.setRing q.toNat r).cellsK0, .a (QN true q ⟨ser, kind, block, data⟩ (cmdE s.cfg ⟨ser, kind, block, data⟩) ByteArray.empty).cells] rfl leN (fun i _ j hj => (congrArg C.imm (QZ hq2' rfl i j hj)).trans (QB _ _)) (by (first|refine wb1 ?_|refine wb2 ?_ ?_|refine wb3 ?_ ?_ ?_|refine wb4 ?_ ?_ ?_ ?_) <;> first | exact hfz _ _ _ _ fun i j hj => QZ hq2' rfl i j hj | exact fun i _ j _ => WC.fzI (Qj _ _)) wb0 (by (first|refine wb1 ?_|refine wb2 ?_ ?_|refine wb3 ?_ ?_ ?_|refine wb4 ?_ ?_ ?_ ?_) <;> first | exact hfz _ _ _ _ fun i j hj => QZ hq2' rfl i j hj | exact fun i _ j _ => WC.fzI (Qj _ _)) leN ?_
        refine CallN.autoI [0] QbC (QbD (s.setRing q.toNat r) (QN true q ⟨ser, kind, block, data⟩ (cmdE s.cfg ⟨ser, kind, block, data⟩) ByteArray.empty) hs.evs) plh (Go0 ?_)
        rw [hb]
        refine ⟨_, _, ?_, (if_neg (show ¬ begA s q = true by rw [hA]; decide)).mpr ⟨rfl, rfl⟩⟩
        exact RM.w0
      ·refine Br.no (by simpa using k1) (Go0 ?_)
       refine Br.no (by simpa using k4) (Go0 ?_)
       refine Go0 ?_
       refine CallN.pureA Qep (Qew s.cfg ⟨ser, kind, block, data⟩ ) (Go0 ?_)
       by_cases he : cmdE s.cfg ⟨ser, kind, block, data⟩ = 0
       ·have hb : Qn false s q = ((s.setRing q.toNat r).setWork q.toNat ⟨5, ⟨ser, kind, block, data⟩, default, ByteArray.empty⟩, true) := by
         unfold Qn; rw [if_pos hc, ht]; dsimp only; rw [if_pos rfl, if_pos he, show QaZ kind = 5 by unfold QaZ; simp [k1, k4]]
        refine Br.no (by rw [he]; rfl) (Go0 ?_)
        refine CallN.fzK 5 [1, 2, 4, 7, 9, 10] [] [s.wobj, .vr (s.setRing q.toNat r).cellsK0, .vr (default : St).cells, .vr r.cells, .vr (Req.cells ⟨ser, kind, block, data⟩), .dead, .vr (Wrk.cells ⟨5, ⟨ser, kind, block, data⟩, default, ByteArray.empty⟩)] [.a (s.setRing q.toNat r).cellsK0, .c (.int .i64 q), .a (Wrk.cells ⟨5, ⟨ser, kind, block, data⟩, default, ByteArray.empty⟩)] rfl leN (fun i _ j hj => (congrArg C.imm (QZ hq2' rfl i j hj)).trans (QB _ _)) (by (first|refine wb1 ?_|refine wb2 ?_ ?_|refine wb3 ?_ ?_ ?_|refine wb4 ?_ ?_ ?_ ?_) <;> first | exact hfz _ _ _ _ fun i j hj => QZ hq2' rfl i j hj | exact fun i _ j _ => WC.fzI (Qj _ _)) wb0 (by (first|refine wb1 ?_|refine wb2 ?_ ?_|refine wb3 ?_ ?_ ?_|refine wb4 ?_ ?_ ?_ ?_) <;> first | exact hfz _ _ _ _ fun i j hj => QZ hq2' rfl i j hj | exact fun i _ j _ => WC.fzI (Qj _ _)) leN ?_
        refine CallN.autoI [0] Qaz (Qay (s.setRing q.toNat r) q ⟨5, ⟨ser, kind, block, data⟩, default, ByteArray.empty⟩ hs.works hc.2.1 hc.2.2.1) plh (Go0 ?_)
        have hA : begA s q = true := begA_iff.2 ⟨hc, by rw [ht], by rw [ht]; exact he⟩
        rw [hb]
        refine ⟨_, _, ?_, (if_pos hA).mpr ⟨rfl, rfl⟩⟩
        exact RM.renN [0, 7] (by decide) (show ∀ i, i < 1 → rho [0, 7] i = i by decide) leN wb0 wb0
       ·have hb : Qn false s q = ((s.setRing q.toNat r).addEv (QN true q ⟨ser, kind, block, data⟩ (cmdE s.cfg ⟨ser, kind, block, data⟩) ByteArray.empty), true) := by
         unfold Qn; rw [if_pos hc, ht]; simp only [if_true, if_neg he]; rfl
        have hA : begA s q = false := Qg fun z => by have := (begA_iff.1 z).2.2; rw [ht] at this; exact he this
        refine Br.yes (by simpa using he) (Go0 ?_)
        refine CallN.fzK 5 [1, 2, 4, 7, 9, 10] [] [s.wobj, .vr (s.setRing q.toNat r).cellsK0, .vr (default : St).cells, .vr r.cells, .vr (Req.cells ⟨ser, kind, block, data⟩), .dead, .vr (Wrk.cells ⟨5, ⟨ser, kind, block, data⟩, default, ByteArray.empty⟩)] [.a (s.setRing q.toNat r).cellsK0, .a (QN true q ⟨ser, kind, block, data⟩ (cmdE s.cfg ⟨ser, kind, block, data⟩) ByteArray.empty).cells] rfl leN (fun i _ j hj => (congrArg C.imm (QZ hq2' rfl i j hj)).trans (QB _ _)) (by (first|refine wb1 ?_|refine wb2 ?_ ?_|refine wb3 ?_ ?_ ?_|refine wb4 ?_ ?_ ?_ ?_) <;> first | exact hfz _ _ _ _ fun i j hj => QZ hq2' rfl i j hj | exact fun i _ j _ => WC.fzI (Qj _ _)) wb0 (by (first|refine wb1 ?_|refine wb2 ?_ ?_|refine wb3 ?_ ?_ ?_|refine wb4 ?_ ?_ ?_ ?_) <;> first | exact hfz _ _ _ _ fun i j hj => QZ hq2' rfl i j hj | exact fun i _ j _ => WC.fzI (Qj _ _)) leN ?_
        refine CallN.autoI [0] QbC (QbD (s.setRing q.toNat r) (QN true q ⟨ser, kind, block, data⟩ (cmdE s.cfg ⟨ser, kind, block, data⟩) ByteArray.empty) hs.evs) plh (Go0 ?_)
        rw [hb]
        refine ⟨_, _, ?_, (if_neg (show ¬ begA s q = true by rw [hA]; decide)).mpr ⟨rfl, rfl⟩⟩
        exact RM.w0
   ·have hA : begA s q = false := Qg fun z => hst (begA_iff.1 z).1.2.2.2
    refine Br.yes (Decidable.byContradiction fun ebye => hst (by simp [-List.getD_eq_getElem?_getD, -Int.default_eq_zero] at ebye <;> grind)) ?_; conv=>whnf
    refine Go0 ?_
    rw [show Qn false s q = (s, false) from if_neg fun z => hst z.2.2.2]
    refine ⟨_, _, ?_, (if_neg (show ¬ begA s q = true by rw [hA]; decide)).mpr ⟨rfl, rfl⟩⟩
    exact RM.w0
  ·have hA : begA s q = false := Qg fun z => hq ⟨(begA_iff.1 z).1.2.1, (begA_iff.1 z).1.2.2.1⟩
   have hq' : ¬ (0 ≤ q ∧ q < s.rings.length) := by omega
   refine Go0 ?_
   refine Frc.mk (.c (.int .i64 (s.works.getD q.toNat default).state)) rfl (Go0 ?_)
   refine Br.yes (Decidable.byContradiction fun ebye => hq' (by simp [-List.getD_eq_getElem?_getD, -Int.default_eq_zero] at ebye <;> grind)) ?_; conv=>whnf
   refine Go0 ?_
   rw [show Qn false s q = (s, false) from if_neg fun z => hq ⟨z.2.1, z.2.2.1⟩]
   refine ⟨_, _, ?_, (if_neg (show ¬ begA s q = true by rw [hA]; decide)).mpr ⟨rfl, rfl⟩⟩
   exact RM.w0
 ·have hA : begA s q = false := Qg fun z => hv (begA_iff.1 z).1.1
  refine Go0 ?_
  refine Frc.mk (.c (.int .i64 (s.works.getD q.toNat default).state)) rfl (Go0 ?_)
  refine Br.yes (Decidable.byContradiction fun ebye => hv (by simp [-List.getD_eq_getElem?_getD, -Int.default_eq_zero] at ebye <;> grind)) ?_; conv=>whnf
  refine Go0 ?_
  rw [show Qn false s q = (s, false) from if_neg fun z => hv z.1]
  refine ⟨_, _, ?_, (if_neg (show ¬ begA s q = true by rw [hA]; decide)).mpr ⟨rfl, rfl⟩⟩
  exact RM.w0
theorem Qg3 : HB 36 := hB Tryz.func36
end Go.Proofs
end
