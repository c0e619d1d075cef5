/- Contracts, lemmas; no condition. -/
import Derived.Test.YtmollgldghpbkaaGreatGF
import Derived.Test.YtmollgldghpbkaaGreatStB
import Derived.Test.YtmollgldghpbkaaGreatKs
import Derived.Test.YtmollgldghpbkaaGreatAmF
set_option linter.all false
section
open Go Go.Am
namespace Go.Proofs
set_option maxRecDepth 20000
theorem Qve (x : Int) : (x != 0) = decide (x ≠ 0) := by
 by_cases h : x = 0 <;> simp [h]
set_option maxHeartbeats 4000000 in
theorem QcI (s : St) (h1 : s.map.length ≤ 1000000) (h2 : ∀ i, (s.map.getD i default).length ≤ 1000000) (h3 : s.live.length ≤ 1000000) (h4 : s.pend.length ≤ 1000000) (e : Ent) : CSpec Tryz.prog 169 [.a (s.cellsK 0), .a e.cells] [s.wobj] fun r H => r = .a ((s.install e).cellsK 0) ∧ H = [(s.install e).wobj] := by
 refine CSpec.rm ?_
 refine ov hΓ Tryz.func169 32 1 [.cell 4 58] Tryz.ntmps169 Tryz.results169 ?_
 refine Go0 ?_
 refine CallN.pureA Qrf (Qp5 s.map e h1 h2 ) ?_
 refine Go0 ?_
 by_cases c : (QaY s.map e).2.2 = true
 ·refine Br.yes c ?_
  refine Go0 ?_
  refine CallN.pureA Qda (Qdd s.live s.pend (QaY s.map e).2.1 e ((QaY s.map e).2.1.kind != 0) true h3 h4 ) ?_
  refine Go0 ?_
  rw [show s.install e = { s with live := (Qat s.live s.pend (QaY s.map e).2.1.zone e.zone ((QaY s.map e).2.1.kind != 0) true).1, map := (QaY s.map e).1 } by rw [Qve]; exact if_pos c]
  refine ⟨_, _, ?_, rfl, rfl⟩
  exact RM.w0
 ·refine Br.no (Qg c) ?_
  refine Go0 ?_
  rw [show s.install e = s from if_neg c]
  refine ⟨_, _, ?_, rfl, rfl⟩
  exact RM.w0
theorem QcG : HasBody Tryz.prog 169 := hB Tryz.func169
set_option maxHeartbeats 4000000 in
theorem Qjk (s : St) (hs : s.small) (zone : Int) (r : Rec) : CSpec Tryz.prog 159 [.a (s.cellsK 0), .c (.int .i64 zone), .a r.cells] [s.wobj] fun x H => x = .a ((s.add zone r).cellsK 0) ∧ H = [(s.add zone r).wobj] := by
 refine CSpec.rm ?_
 refine ov hΓ Tryz.func159 39 1 [.cell 6 58] Tryz.ntmps159 Tryz.results159 ?_
 refine Go0 ?_
 refine Dr.mkE hΓ hMix [] [(8, 11), (9, 11)] (by kernel_rfl) ?_; conv=>whnf
 refine Go0 ?_
 refine CallP.auto QbV (QbU r ) ?_
 refine Go0 ?_
 refine CallP.auto QaR (QaQ s.dev hs.dev zone (encR r) ) ?_
 refine Go0 ?_
 by_cases c : Q9 s.dev zone (encR r) = 0
 ·refine Br.no (by rw [c]; rfl) ?_
  refine Go0 ?_
  refine CallN.autoI [0] QcG (QcI (s.put zone r) hs.map hs.shard hs.live hs.pend (recE r zone (Qe s.dev zone (encR r)))) (by repeat' (first | exact PlainH.nil | refine PlainH.vr ?_ | refine PlainH.mp ?_ | refine PlainH.arr (fun i j => ?_) ?_ | exact Qb _ _ _)) ?_; conv=>whnf
  refine Go0 ?_
  rw [show s.add zone r = (s.put zone r).install (recE r zone (Qe s.dev zone (encR r))) from if_pos c]
  refine ⟨_, _, ?_, rfl, rfl⟩
  exact RM.w0
 ·refine Br.yes (by simpa using c) ?_
  refine Go0 ?_
  rw [show s.add zone r = s from if_neg c]
  refine ⟨_, _, ?_, rfl, rfl⟩
  exact RM.w0
theorem Qi6 : HasBody Tryz.prog 159 := hB Tryz.func159
end Go.Proofs
end

section
open Go Go.Am
namespace Go.Proofs
set_option maxRecDepth 20000
theorem QpB {d : DiceM} (h : d.ok) : (recD d).ok := h.step.step.step
theorem QiI {z : Int} {p : DS} (h : p.1.ok) : ∀ k, (addTo z p k).1.ok
 | 0 => h
 | k + 1 => QpB (QiI h k)
set_option maxHeartbeats 1000000 in
theorem Qjm (d : DiceM) (hd : d.ok) (s : St) (hn : 0 ≤ s.next ∧ s.next ≤ 1000000000) : CSpec Tryz.prog 158 [.c (.ptr 0 0), .a (s.cellsK 1)] [.vr d.cells, s.wobj] fun x H => x = .t [.inr (recR d s.cfg.blocks s.next).cells, .inr (s.bump.cellsK 1)] ∧ H = [.vr (recD d).cells, s.bump.wobj] := by
 have w0 := Qa (s.next + 1) (by omega) (by omega)
 refine CSpec.rm ?_
 refine ov hΓ Tryz.func158 20 2 [.cell 4 178, .cell 5 58] Tryz.ntmps158 Tryz.results158 ?_
 refine Go0 ?_
 refine CallN.autoQ [0] Qoi (QoD d hd s.cfg.blocks s.next) ?_; conv=>whnf
 refine Go0 ?_
 rw [w0]
 refine Dr.mkE hΓ hMix [] [(1, 2)] (by kernel_rfl) ?_; conv=>whnf
 refine Go0 ?_
 refine ⟨_, _, ?_, rfl, rfl⟩
 exact RM.w0
theorem QjW : HasBody Tryz.prog 158 := hB Tryz.func158
theorem QcB (l : List Int) (n : Int) (hl : l.length ≤ 1000000) : PSpec Tryz.prog 45 [.c (Qi l), .c (.int .i64 n)] (.c (Qi (QaF l n))) := by
 refine PSpec.rm ?_
 refine ov hΓ Tryz.func45 27 0 [.tmp 4] Tryz.ntmps45 Tryz.results45 ?_
 refine Go0 ?_
 refine Lp.reserve 3 1 (Qam .i64 []) 5 rfl ?_
 refine Lp.mkK hΓ (ι := Nat) [0, 1, 4] (fun k => [(6, .c (.int .i64 k)), (5, .c (.sl 0 1 (QaF (l.take k) n).length (QaF (l.take k) n).length false))]) (fun k => [.arr 3 1 (QaF (l.take k) n).length (Qam .i64 (QaF (l.take k) n))]) (fun k => k ≤ l.length) (fun k => l.length - k) 0 (Nat.zero_le _) ?_ ?_
 ·exact Mv.k0
 ·intro k hk
  have hlq : (QaF (l.take k) n).length ≤ l.length := Nat.le_trans (List.length_filter_le _ _) (by rw [List.length_take]; omega)
  refine Go1 fun _h=>?_
  refine Br.of (fun h1=>?_) (fun h1=>?_)<;>(try simp only [Int.toNat_natCast] at h1)<;>(conv=>whnf)
  ·refine Go0 ?_
   have w0 := Qa (↑k + 1) (by omega) (by omega)
   have ht : QaF (l.take (k + 1)) n = if l.getD k default ≠ n then QaF (l.take k) n ++ [l.getD k default] else QaF (l.take k) n := by
    unfold QaF
    rw [QaJ l (by omega), List.filter_append, List.filter_cons, List.filter_nil]
    split <;> simp_all
   by_cases c : l.getD k default ≠ n
   ·rw [if_pos c] at ht
    refine Br.yes (bne_iff_ne.2 c) ?_
    refine Go0 ?_
    refine ⟨k + 1, by omega, by omega, ?_⟩
    rw [ht]
    refine Mv.k1 ?_
    exact fun i hi j hj => WC.eq (Qdg rfl (by omega) hj) rfl
   ·rw [if_neg c] at ht
    refine Br.no (Bool.eq_false_iff.2 fun z => c (bne_iff_ne.1 z)) ?_
    refine Go0 ?_
    refine ⟨k + 1, by omega, by omega, ?_⟩
    rw [ht]
    exact Mv.k0
  ·refine Go0 ?_
   have : k = l.length := by omega
   subst this
   rw [List.take_length]
   exact RM.allC (Fw.ints rfl rfl rfl (fun _ _ _ _ => rfl))
theorem QcH : HasBody Tryz.prog 45 := hB Tryz.func45
set_option maxHeartbeats 4000000 in
theorem QrZ (c : Conf) (n : Int) (r e : Nat) (d : DiceM) (hd : d.ok) (s : St) (h : Gd c n r e s) (hn : n + c.size ≤ 1000000) (hr : r ≤ 1000) (he : e ≤ 1000) (zone : Int) (hz : 0 ≤ zone ∧ zone < c.zones) : CSpec Tryz.prog 91 [.c (.ptr 0 0), .a (s.cellsK 1), .c (.int .i64 zone)] [.vr d.cells, s.wobj] fun x H => x = .a ((fullF zone (d, s)).2.cellsK 1) ∧ H = [.vr (fullF zone (d, s)).1.cells, (fullF zone (d, s)).2.wobj] := by
 have hcf := confR_iff.1 (Qv h.conf).1
 have w1 := Qa (c.size - 1) (by omega) (by omega)
 refine CSpec.rm ?_
 refine ov hΓ Tryz.func91 53 2 [.cell 6 58] Tryz.ntmps91 Tryz.results91 ?_
 refine Go0 ?_
 refine Lp.mkK hΓ (ι := Nat) [0, 2, 4, 6] (fun k => [(7, .c (.int .i64 k))]) (fun k => [.vr (addTo zone (d, s) k).1.cells, (addTo zone (d, s) k).2.wobj, .vr ((addTo zone (d, s) k).2.cellsK 1), .vr (default : St).cells]) (fun k => k ≤ (c.size - 1).toNat) (fun k => (c.size - 1).toNat - k) 0 (Nat.zero_le _) ?_ ?_
 ·exact Mv.k0
 ·intro k hk
  have hg := h.addTo (p := (d, s)) zone k (by omega)
  have hok := QiI (z := zone) (p := (d, s)) hd k
  have e1 : addTo zone (d, s) (k + 1) = addF zone (addTo zone (d, s) k) := rfl
  have e2 : k = (c.size - 1).toNat → fullF zone (d, s) = ((addTo zone (d, s) k).1, (addTo zone (d, s) k).2.seal zone) := fun q => by
   subst q
   unfold fullF
   rw [show ((d, s) : DS).2.cfg.size = c.size by rw [h.cfg]]
  generalize addTo zone (d, s) k = p at *
  have hsm := hg.small (by omega) (by omega)
  have hpn := hg.val.parts.next
  have hpn2 := hg.next
  have hcz : p.2.cfg.size = c.size := by rw [hg.cfg]
  have hzl := hg.val.parts.zones
  rw [hg.cfg] at hzl
  refine Go0 ?_
  rw [hcz, w1]
  refine Br.of (fun h1=>?_) (fun h1=>?_)<;>(try simp only [Int.toNat_natCast] at h1)<;>(conv=>whnf)
  ·refine Go0 ?_
   have w0 := Qa (↑k + 1) (by omega) (by omega)
   refine CallN.autoI [0, 1] QjW (Qjm p.1 hok p.2 ⟨by omega, by omega⟩) (by repeat' (first | exact PlainH.nil | refine PlainH.vr ?_ | refine PlainH.mp ?_ | refine PlainH.arr (fun i j => ?_) ?_ | exact Qb _ _ _)) ?_; conv=>whnf
   refine Go0 ?_
   refine CallN.autoI [1] Qi6 (Qjk p.2.bump ((hg.bump (by omega)).small (by omega) (by omega)) zone (recR p.1 p.2.cfg.blocks p.2.next)) (by repeat' (first | exact PlainH.nil | refine PlainH.vr ?_ | refine PlainH.mp ?_ | refine PlainH.arr (fun i j => ?_) ?_ | exact Qb _ _ _)) ?_; conv=>whnf
   refine Go0 ?_
   refine ⟨k + 1, by omega, by omega, ?_⟩
   rw [e1]
   exact Mv.k0
  ·refine Go0 ?_
   have : k = (c.size - 1).toNat := by omega
   rw [e2 this]
   refine CallN.pureA QqS (QpS (Qia p.2 zone) ) ?_
   refine Go0 ?_
   refine Dr.mkE hΓ hMix [] [(8, 11), (9, 11)] (by kernel_rfl) ?_; conv=>whnf
   refine Go0 ?_
   refine CallP.auto QbV (QbU (Qgt (Qia p.2 zone)) ) ?_
   refine Go0 ?_
   refine CallP.auto QaR (QaQ p.2.dev hsm.dev zone (encR (Qgt (Qia p.2 zone))) ) ?_
   refine Go0 ?_
   refine ⟨_, _, ?_, rfl, rfl⟩
   exact RM.w0
theorem Qtb : HasBody Tryz.prog 91 := hB Tryz.func91
end Go.Proofs
end

section
open Go Go.Am
namespace Go.Proofs
set_option maxRecDepth 20000
set_option maxHeartbeats 4000000 in
theorem Qfz (s : St) (hs : s.small) (e : Ent) (zone : Int) : CSpec Tryz.prog 163 [.a (s.cellsK 0), .a e.cells, .c (.int .i64 zone)] [s.wobj] fun x H => x = .a ((s.copied e zone).cellsK 0) ∧ H = [s.wobj] := by
 refine CSpec.rm ?_
 refine ov hΓ Tryz.func163 99 1 [.cell 6 58] Tryz.ntmps163 Tryz.results163 ?_
 refine Go0 ?_
 refine CallN.pureA Qde (Qdc s.dev e.zone e.offset ) ?_
 refine Go0 ?_
 refine CallN.pureA Qd1 (QdY (Qa4 s.dev e.zone e.offset) ) ?_
 refine Go0 ?_
 refine CallN.pureA Qji (QjJ (Qbi (Qa4 s.dev e.zone e.offset)).1 ) ?_
 refine Go0 ?_
 by_cases c : Qeo s.dev e.zone e.offset = 0 ∧ (Qbi (Qa4 s.dev e.zone e.offset)).2 = true ∧ (QM (Qbi (Qa4 s.dev e.zone e.offset)).1).2 = true
 ·refine Br.no (Bool.eq_false_iff.2 fun ebye => by simp [-List.getD_eq_getElem?_getD, -Int.default_eq_zero, c.1, c.2.1, c.2.2] at ebye <;> grind) ?_; conv=>whnf
  refine Go0 ?_
  refine Dr.mkE hΓ hMix [] [(8, 11), (9, 11)] (by kernel_rfl) ?_; conv=>whnf
  refine Go0 ?_
  refine CallP.auto QbV (QbU (QM (Qbi (Qa4 s.dev e.zone e.offset)).1).1 ) ?_
  refine Go0 ?_
  refine CallP.auto QaR (QaQ s.dev hs.dev zone (encR (QM (Qbi (Qa4 s.dev e.zone e.offset)).1).1) ) ?_
  refine Go0 ?_
  generalize hr : (QM (Qbi (Qa4 s.dev e.zone e.offset)).1).1 = r
  have hw := QcK s e zone
  by_cases a : Q9 s.dev zone (encR r) = 0
  ·refine Br.no (by rw [a]; rfl) ?_
   refine Go0 ?_
   refine Dr.mkE hΓ hMix [] [(3, 6), (4, 6)] (by kernel_rfl) ?_; conv=>whnf
   refine Go0 ?_
   refine CallN.pureA QfM (Qfy s.map e.block e.version e.zone e.offset zone (Qe s.dev zone (encR r)) r.move hs.map hs.shard ) ?_
   refine Go0 ?_
   refine CallN.pureA Qda (Qdd s.live s.pend e { e with zone := zone, offset := Qe s.dev zone (encR r), move := r.move } true true hs.live hs.pend ) ?_
   refine Go0 ?_
   have q : s.copied e zone = { s with dev := Qaa s.dev zone (encR r), map := (relM s.map e.block e.version e.zone e.offset zone (Qe s.dev zone (encR r)) r.move).1, live := (Qat s.live s.pend e.zone zone true true).1 } := by
    unfold St.copied
    rw [hr, if_pos ⟨c.1, c.2.1, c.2.2, a⟩]
   rw [q]
   refine ⟨_, _, ?_, rfl, rfl⟩
   exact RM.w0
  ·refine Br.yes (by simpa using a) ?_
   refine Go0 ?_
   rw [show s.copied e zone = s by unfold St.copied; rw [hr, if_neg fun z => a z.2.2.2]]
   refine ⟨_, _, ?_, rfl, rfl⟩
   exact RM.w0
 ·refine Br.yes (Decidable.byContradiction fun ebye => c (by simp [-List.getD_eq_getElem?_getD, -Int.default_eq_zero] at ebye <;> grind)) ?_; conv=>whnf
  refine Go0 ?_
  rw [show s.copied e zone = s by unfold St.copied; rw [if_neg fun z => c ⟨z.1, z.2.1, z.2.2.1⟩]]
  refine ⟨_, _, ?_, rfl, rfl⟩
  exact RM.w0
theorem QfN : HasBody Tryz.prog 163 := hB Tryz.func163
end Go.Proofs
end
