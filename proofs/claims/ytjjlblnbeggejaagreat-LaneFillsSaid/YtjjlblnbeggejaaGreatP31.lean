/- Contracts, lemmas; no condition. -/
import Derived.Test.YtjjlblnbeggejaaGreatP30
import Derived.Test.YtjjlblnbeggejaaGreatP25
import Derived.Test.YtjjlblnbeggejaaGreatP24
import Derived.Test.YtjjlblnbeggejaaGreatP12
import Derived.Test.YtjjlblnbeggejaaGreatP10
import Derived.Test.YtjjlblnbeggejaaGreatP18
import Derived.Test.YtjjlblnbeggejaaGreatA26
import Derived.Test.YtjjlblnbeggejaaGreatP26
import Derived.Test.YtjjlblnbeggejaaGreatP29
import Derived.Test.YtjjlblnbeggejaaGreatP28
import Derived.Test.YtjjlblnbeggejaaGreatP27
import Derived.Test.YtjjlblnbeggejaaGreatP23
import Derived.Test.YtjjlblnbeggejaaGreatP14
set_option linter.all false
section
open Go Go.Am
namespace Go.Proofs
set_option maxRecDepth 20000
theorem QtX (x : Int) : (x != 0) = decide (x ≠ 0) := by
 by_cases h : x = 0 <;> simp [h]
set_option maxHeartbeats 4000000 in
theorem QlZ (s : St) (h1 : s.map.length ≤ 1000000) (h2 : ∀ i, (s.map.getD i default).length ≤ 1000000) (h3 : s.live.length ≤ 1000000) (h4 : s.pend.length ≤ 1000000) (e : Ent) : CS 199 [.a (s.cellsK 0), .a e.cells] [s.wobj] fun r H => r = .a ((s.install e).cellsK 0) ∧ H = [(s.install e).wobj] := by
 refine CSpec.rm ?_
 refine ov hΓ Tryz.func199 32 1 [.cell 4 58] Tryz.ntmps199 Tryz.results199 ?_
 ((conv=>whnf);(repeat' ((first|refine Nd ?_|refine Hv fun _h=>?_);conv=>whnf)))
 refine CallN.pureA QqJ (Qqa s.map e h1 h2 ) ?_
 ((conv=>whnf);(repeat' ((first|refine Nd ?_|refine Hv fun _h=>?_);conv=>whnf)))
 by_cases c : (Qax s.map e).2.2 = true
 ·refine Br.yes c ?_
  ((conv=>whnf);(repeat' ((first|refine Nd ?_|refine Hv fun _h=>?_);conv=>whnf)))
  refine CallN.pureA Qgd (Qge s.live s.pend (Qax s.map e).2.1 e ((Qax s.map e).2.1.kind != 0) true h3 h4 ) ?_
  ((conv=>whnf);(repeat' ((first|refine Nd ?_|refine Hv fun _h=>?_);conv=>whnf)))
  rw [show s.install e = { s with live := (Qar s.live s.pend (Qax s.map e).2.1.zone e.zone ((Qax s.map e).2.1.kind != 0) true).1, map := (Qax s.map e).1 } by rw [QtX]; exact if_pos c]
  refine ⟨_, _, ?_, rfl, rfl⟩
  exact RM.w0
 ·refine Br.no (Qq c) ?_
  ((conv=>whnf);(repeat' ((first|refine Nd ?_|refine Hv fun _h=>?_);conv=>whnf)))
  rw [show s.install e = s from if_neg c]
  refine ⟨_, _, ?_, rfl, rfl⟩
  exact RM.w0
theorem QmD : HB 199 := hB Tryz.func199
set_option maxHeartbeats 4000000 in
theorem Qjd (s : St) (hs : s.small) (zone : Int) (r : Rec) : CS 142 [.a (s.cellsK 0), .c (.int .i64 zone), .a r.cells] [s.wobj] fun x H => x = .a ((s.add zone r).cellsK 0) ∧ H = [(s.add zone r).wobj] := by
 refine CSpec.rm ?_
 refine ov hΓ Tryz.func142 39 1 [.cell 6 58] Tryz.ntmps142 Tryz.results142 ?_
 ((conv=>whnf);(repeat' ((first|refine Nd ?_|refine Hv fun _h=>?_);conv=>whnf)))
 refine Dr.mkE hΓ hMix [] [(8, 11), (9, 11)] (by kernel_rfl) ?_; conv=>whnf
 ((conv=>whnf);(repeat' ((first|refine Nd ?_|refine Hv fun _h=>?_);conv=>whnf)))
 refine CallP.auto Qdr (QdK r ) ?_
 ((conv=>whnf);(repeat' ((first|refine Nd ?_|refine Hv fun _h=>?_);conv=>whnf)))
 refine CallP.auto QcT (Qc7 s.dev hs.dev zone (encR r) ) ?_
 ((conv=>whnf);(repeat' ((first|refine Nd ?_|refine Hv fun _h=>?_);conv=>whnf)))
 by_cases c : Qj s.dev zone (encR r) = 0
 ·refine Br.no (by rw [c]; rfl) ?_
  ((conv=>whnf);(repeat' ((first|refine Nd ?_|refine Hv fun _h=>?_);conv=>whnf)))
  refine CallN.autoI [0] QmD (QlZ (s.put zone r) hs.map hs.shard hs.live hs.pend (recE r zone (QA s.dev zone (encR r)))) plh ?_; conv=>whnf
  ((conv=>whnf);(repeat' ((first|refine Nd ?_|refine Hv fun _h=>?_);conv=>whnf)))
  rw [show s.add zone r = (s.put zone r).install (recE r zone (QA s.dev zone (encR r))) from if_pos c]
  refine ⟨_, _, ?_, rfl, rfl⟩
  exact RM.w0
 ·refine Br.yes (by simpa using c) ?_
  ((conv=>whnf);(repeat' ((first|refine Nd ?_|refine Hv fun _h=>?_);conv=>whnf)))
  rw [show s.add zone r = s from if_neg c]
  refine ⟨_, _, ?_, rfl, rfl⟩
  exact RM.w0
theorem QjH : HB 142 := hB Tryz.func142
theorem Qhj {d : DiceM} (h : d.ok) : (recD d).ok := h.step.step.step
theorem Qh6 {z : Int} {p : DS} (h : p.1.ok) : ∀ k, (addTo z p k).1.ok
 | 0 => h
 | k + 1 => Qhj (Qh6 h k)
set_option maxHeartbeats 1000000 in
theorem Qjp (d : DiceM) (hd : d.ok) (s : St) (hn : 0 ≤ s.next ∧ s.next ≤ 1000000000) : CS 141 [.c (.ptr 0 0), .a (s.cellsK 1)] [.vr d.cells, s.wobj] fun x H => x = .t [.inr (recR d s.cfg.blocks s.next).cells, .inr (s.bump.cellsK 1)] ∧ H = [.vr (recD d).cells, s.bump.wobj] := by
 have w0 := Qa (s.next + 1) (by omega) (by omega)
 refine CSpec.rm ?_
 refine ov hΓ Tryz.func141 20 2 [.cell 4 109, .cell 5 58] Tryz.ntmps141 Tryz.results141 ?_
 ((conv=>whnf);(repeat' ((first|refine Nd ?_|refine Hv fun _h=>?_);conv=>whnf)))
 refine CallN.autoQ [0] Qfk (Qfb d hd s.cfg.blocks s.next) ?_; conv=>whnf
 ((conv=>whnf);(repeat' ((first|refine Nd ?_|refine Hv fun _h=>?_);conv=>whnf)))
 rw [w0]
 refine Dr.mkE hΓ hMix [] [(1, 2)] (by kernel_rfl) ?_; conv=>whnf
 ((conv=>whnf);(repeat' ((first|refine Nd ?_|refine Hv fun _h=>?_);conv=>whnf)))
 refine ⟨_, _, ?_, rfl, rfl⟩
 exact RM.w0
theorem Qje : HB 141 := hB Tryz.func141
theorem Qcc (l : List Int) (n : Int) (hl : l.length ≤ 1000000) : PS 46 [.c (Qh l), .c (.int .i64 n)] (.c (Qh (Qah l n))) := by
 refine PSpec.rm ?_
 refine ov hΓ Tryz.func46 27 0 [.tmp 4] Tryz.ntmps46 Tryz.results46 ?_
 ((conv=>whnf);(repeat' ((first|refine Nd ?_|refine Hv fun _h=>?_);conv=>whnf)))
 refine Lp.reserve 3 1 (QaK .i64 []) 5 rfl ?_
 refine Lp.mkK hΓ (ι := Nat) [0, 1, 4] (fun k => [(6, .c (.int .i64 k)), (5, .c (.sl 0 1 (Qah (l.take k) n).length (Qah (l.take k) n).length false))]) (fun k => [.arr 3 1 (Qah (l.take k) n).length (QaK .i64 (Qah (l.take k) n))]) (fun k => k ≤ l.length) (fun k => l.length - k) 0 (Nat.zero_le _) ?_ ?_
 ·exact Mv.k0
 ·intro k hk
  have hlq : (Qah (l.take k) n).length ≤ l.length := Nat.le_trans (List.length_filter_le _ _) (by rw [List.length_take]; omega)
  ((conv=>whnf);(repeat' ((first|refine Nd ?_|refine Hv fun _h=>?_);conv=>whnf)))
  refine Br.of (fun h1=>?_) (fun h1=>?_)<;>(try simp only [Int.toNat_natCast] at h1)<;>(conv=>whnf)
  ·((conv=>whnf);(repeat' ((first|refine Nd ?_|refine Hv fun _h=>?_);conv=>whnf)))
   have w0 := Qa (↑k + 1) (by omega) (by omega)
   have ht : Qah (l.take (k + 1)) n = if l.getD k default ≠ n then Qah (l.take k) n ++ [l.getD k default] else Qah (l.take k) n := by
    unfold Qah
    rw [Qb9 l (by omega), List.filter_append, List.filter_cons, List.filter_nil]
    split <;> simp_all
   by_cases c : l.getD k default ≠ n
   ·rw [if_pos c] at ht
    refine Br.yes (bne_iff_ne.2 c) ?_
    ((conv=>whnf);(repeat' ((first|refine Nd ?_|refine Hv fun _h=>?_);conv=>whnf)))
    refine ⟨k + 1, by omega, by omega, ?_⟩
    rw [ht]
    refine Mv.k1 ?_
    exact fun i hi j hj => WC.eq (Qh3 rfl (by omega) hj) rfl
   ·rw [if_neg c] at ht
    refine Br.no (Bool.eq_false_iff.2 fun z => c (bne_iff_ne.1 z)) ?_
    ((conv=>whnf);(repeat' ((first|refine Nd ?_|refine Hv fun _h=>?_);conv=>whnf)))
    refine ⟨k + 1, by omega, by omega, ?_⟩
    rw [ht]
    exact Mv.k0
  ·((conv=>whnf);(repeat' ((first|refine Nd ?_|refine Hv fun _h=>?_);conv=>whnf)))
   have : k = l.length := by omega
   subst this
   rw [List.take_length]
   exact RM.allC (Fw.ints rfl rfl rfl (fun _ _ _ _ => rfl))
theorem Qck : HB 46 := hB Tryz.func46
set_option maxHeartbeats 4000000 in
theorem QrI (c : Conf) (n : Int) (r e : Nat) (d : DiceM) (hd : d.ok) (s : St) (h : Gd c n r e s) (hn : n + c.size ≤ 1000000) (hr : r ≤ 1000) (he : e ≤ 1000) (zone : Int) (hz : 0 ≤ zone ∧ zone < c.zones) : CS 57 [.c (.ptr 0 0), .a (s.cellsK 1), .c (.int .i64 zone)] [.vr d.cells, s.wobj] fun x H => x = .a ((fullF zone (d, s)).2.cellsK 1) ∧ H = [.vr (fullF zone (d, s)).1.cells, (fullF zone (d, s)).2.wobj] := by
 have hcf := confR_iff.1 (QR h.conf).1
 have w1 := Qa (c.size - 1) (by omega) (by omega)
 refine CSpec.rm ?_
 refine ov hΓ Tryz.func57 53 2 [.cell 6 58] Tryz.ntmps57 Tryz.results57 ?_
 ((conv=>whnf);(repeat' ((first|refine Nd ?_|refine Hv fun _h=>?_);conv=>whnf)))
 refine Lp.mkK hΓ (ι := Nat) [0, 2, 4, 6] (fun k => [(7, .c (.int .i64 k))]) (fun k => [.vr (addTo zone (d, s) k).1.cells, (addTo zone (d, s) k).2.wobj, .vr ((addTo zone (d, s) k).2.cellsK 1), .vr (default : St).cells]) (fun k => k ≤ (c.size - 1).toNat) (fun k => (c.size - 1).toNat - k) 0 (Nat.zero_le _) ?_ ?_
 ·exact Mv.k0
 ·intro k hk
  have hg := h.addTo (p := (d, s)) zone k (by omega)
  have hok := Qh6 (z := zone) (p := (d, s)) hd k
  have e1 : addTo zone (d, s) (k + 1) = addF zone (addTo zone (d, s) k) := rfl
  have e2 : k = (c.size - 1).toNat → fullF zone (d, s) = ((addTo zone (d, s) k).1, (addTo zone (d, s) k).2.seal zone) := fun q => by
   subst q
   unfold fullF
   rw [show ((d, s) : DS).2.cfg.size = c.size by rw [h.cfg]]
  generalize addTo zone (d, s) k = p at *
  have hsm := hg.small (by omega) (by omega)
  have hpn := hg.val.parts.next
  have hpn2 := hg.next
  have hcz : p.2.cfg.size = c.size := by rw [hg.cfg]
  have hzl := hg.val.parts.zones
  rw [hg.cfg] at hzl
  ((conv=>whnf);(repeat' ((first|refine Nd ?_|refine Hv fun _h=>?_);conv=>whnf)))
  rw [hcz, w1]
  refine Br.of (fun h1=>?_) (fun h1=>?_)<;>(try simp only [Int.toNat_natCast] at h1)<;>(conv=>whnf)
  ·((conv=>whnf);(repeat' ((first|refine Nd ?_|refine Hv fun _h=>?_);conv=>whnf)))
   have w0 := Qa (↑k + 1) (by omega) (by omega)
   refine CallN.autoI [0, 1] Qje (Qjp p.1 hok p.2 ⟨by omega, by omega⟩) plh ?_; conv=>whnf
   ((conv=>whnf);(repeat' ((first|refine Nd ?_|refine Hv fun _h=>?_);conv=>whnf)))
   refine CallN.autoI [1] QjH (Qjd p.2.bump ((hg.bump (by omega)).small (by omega) (by omega)) zone (recR p.1 p.2.cfg.blocks p.2.next)) plh ?_; conv=>whnf
   ((conv=>whnf);(repeat' ((first|refine Nd ?_|refine Hv fun _h=>?_);conv=>whnf)))
   refine ⟨k + 1, by omega, by omega, ?_⟩
   rw [e1]
   exact Mv.k0
  ·((conv=>whnf);(repeat' ((first|refine Nd ?_|refine Hv fun _h=>?_);conv=>whnf)))
   have : k = (c.size - 1).toNat := by omega
   rw [e2 this]
   refine CallN.pureA QiF (QiH (QlU p.2 zone) ) ?_
   ((conv=>whnf);(repeat' ((first|refine Nd ?_|refine Hv fun _h=>?_);conv=>whnf)))
   refine Dr.mkE hΓ hMix [] [(8, 11), (9, 11)] (by kernel_rfl) ?_; conv=>whnf
   ((conv=>whnf);(repeat' ((first|refine Nd ?_|refine Hv fun _h=>?_);conv=>whnf)))
   refine CallP.auto Qdr (QdK (QU (QlU p.2 zone)) ) ?_
   ((conv=>whnf);(repeat' ((first|refine Nd ?_|refine Hv fun _h=>?_);conv=>whnf)))
   refine CallP.auto QcT (Qc7 p.2.dev hsm.dev zone (encR (QU (QlU p.2 zone))) ) ?_
   ((conv=>whnf);(repeat' ((first|refine Nd ?_|refine Hv fun _h=>?_);conv=>whnf)))
   refine ⟨_, _, ?_, rfl, rfl⟩
   exact RM.w0
theorem Qra : HB 57 := hB Tryz.func57
set_option maxHeartbeats 4000000 in
theorem Qe2 (s : St) (hs : s.small) (e : Ent) (zone : Int) : CS 144 [.a (s.cellsK 0), .a e.cells, .c (.int .i64 zone)] [s.wobj] fun x H => x = .a ((s.copied e zone).cellsK 0) ∧ H = [s.wobj] := by
 refine CSpec.rm ?_
 refine ov hΓ Tryz.func144 99 1 [.cell 6 58] Tryz.ntmps144 Tryz.results144 ?_
 ((conv=>whnf);(repeat' ((first|refine Nd ?_|refine Hv fun _h=>?_);conv=>whnf)))
 refine CallN.pureA Qlt (Qlh s.dev e.zone e.offset ) ?_
 ((conv=>whnf);(repeat' ((first|refine Nd ?_|refine Hv fun _h=>?_);conv=>whnf)))
 refine CallN.pureA Qnu (Qod (Q5 s.dev e.zone e.offset) ) ?_
 ((conv=>whnf);(repeat' ((first|refine Nd ?_|refine Hv fun _h=>?_);conv=>whnf)))
 refine CallN.pureA QpP (QpE (QaA (Q5 s.dev e.zone e.offset)).1 ) ?_
 ((conv=>whnf);(repeat' ((first|refine Nd ?_|refine Hv fun _h=>?_);conv=>whnf)))
 by_cases c : QdD s.dev e.zone e.offset = 0 ∧ (QaA (Q5 s.dev e.zone e.offset)).2 = true ∧ (QbV (QaA (Q5 s.dev e.zone e.offset)).1).2 = true
 ·refine Br.no (Bool.eq_false_iff.2 fun ebye => by simp [-List.getD_eq_getElem?_getD, -Int.default_eq_zero, c.1, c.2.1, c.2.2] at ebye <;> grind) ?_; conv=>whnf
  ((conv=>whnf);(repeat' ((first|refine Nd ?_|refine Hv fun _h=>?_);conv=>whnf)))
  refine Dr.mkE hΓ hMix [] [(8, 11), (9, 11)] (by kernel_rfl) ?_; conv=>whnf
  ((conv=>whnf);(repeat' ((first|refine Nd ?_|refine Hv fun _h=>?_);conv=>whnf)))
  refine CallP.auto Qdr (QdK (QbV (QaA (Q5 s.dev e.zone e.offset)).1).1 ) ?_
  ((conv=>whnf);(repeat' ((first|refine Nd ?_|refine Hv fun _h=>?_);conv=>whnf)))
  refine CallP.auto QcT (Qc7 s.dev hs.dev zone (encR (QbV (QaA (Q5 s.dev e.zone e.offset)).1).1) ) ?_
  ((conv=>whnf);(repeat' ((first|refine Nd ?_|refine Hv fun _h=>?_);conv=>whnf)))
  generalize hr : (QbV (QaA (Q5 s.dev e.zone e.offset)).1).1 = r
  have hw := Qda s e zone
  by_cases a : Qj s.dev zone (encR r) = 0
  ·refine Br.no (by rw [a]; rfl) ?_
   ((conv=>whnf);(repeat' ((first|refine Nd ?_|refine Hv fun _h=>?_);conv=>whnf)))
   refine Dr.mkE hΓ hMix [] [(3, 6), (4, 6)] (by kernel_rfl) ?_; conv=>whnf
   ((conv=>whnf);(repeat' ((first|refine Nd ?_|refine Hv fun _h=>?_);conv=>whnf)))
   refine CallN.pureA Qnt (QnL s.map e.block e.version e.zone e.offset zone (QA s.dev zone (encR r)) r.move hs.map hs.shard ) ?_
   ((conv=>whnf);(repeat' ((first|refine Nd ?_|refine Hv fun _h=>?_);conv=>whnf)))
   refine CallN.pureA Qgd (Qge s.live s.pend e { e with zone := zone, offset := QA s.dev zone (encR r), move := r.move } true true hs.live hs.pend ) ?_
   ((conv=>whnf);(repeat' ((first|refine Nd ?_|refine Hv fun _h=>?_);conv=>whnf)))
   have q : s.copied e zone = { s with dev := Qf s.dev zone (encR r), map := (relM s.map e.block e.version e.zone e.offset zone (QA s.dev zone (encR r)) r.move).1, live := (Qar s.live s.pend e.zone zone true true).1 } := by
    unfold St.copied
    rw [hr, if_pos ⟨c.1, c.2.1, c.2.2, a⟩]
   rw [q]
   refine ⟨_, _, ?_, rfl, rfl⟩
   exact RM.w0
  ·refine Br.yes (by simpa using a) ?_
   ((conv=>whnf);(repeat' ((first|refine Nd ?_|refine Hv fun _h=>?_);conv=>whnf)))
   rw [show s.copied e zone = s by unfold St.copied; rw [hr, if_neg fun z => a z.2.2.2]]
   refine ⟨_, _, ?_, rfl, rfl⟩
   exact RM.w0
 ·refine Br.yes (Decidable.byContradiction fun ebye => c (by simp [-List.getD_eq_getElem?_getD, -Int.default_eq_zero] at ebye <;> grind)) ?_; conv=>whnf
  ((conv=>whnf);(repeat' ((first|refine Nd ?_|refine Hv fun _h=>?_);conv=>whnf)))
  rw [show s.copied e zone = s by unfold St.copied; rw [if_neg fun z => c ⟨z.1, z.2.1, z.2.2.1⟩]]
  refine ⟨_, _, ?_, rfl, rfl⟩
  exact RM.w0
theorem Qfh : HB 144 := hB Tryz.func144
theorem QlD (d : Dev) (hd : d.small) : PS 60 [d.s] (Dev.out (Qbo d) (check d)) := by
 refine PSpec.rm ?_
 refine ov hΓ Tryz.func60 37 0 [.cell 2 29, .tmp 3] Tryz.ntmps60 Tryz.results60 ?_
 conv=>whnf
 refine CallN.pure Qcq (Qcr d ) (leA.refl rfl) rfl (Go0 ?_)
 refine Br.of (fun h1=>?_) (fun h1=>?_)<;>(try simp only [Int.toNat_natCast] at h1)<;>(conv=>whnf)
 ·refine Go0 ?_
  rw [show Qbo d = dev0 from if_neg h1]
  exact RM.i0
 ·have hz := hd.z
  refine Go0 ?_
  refine Lp.mkK hΓ (ι := Nat) [2, 1] (fun k => [(5, .c (.int .i64 k))]) (fun k => [.vr [.int .i64 d.size, .int .i64 d.maxOpen, .int .i64 d.maxActive, .sl 2 3 d.zones.length d.zones.length false], .vr dev0.cells, .arr 76 3 d.zones.length (Qaa (updL QcF d.zones k))]) (fun k => k ≤ d.zones.length) (fun k => d.zones.length - k) 0 (Nat.zero_le _) ?_ ?_
  ·refine Mv.k1 ?_
   intro i hi j hj
   exact WC.eq ((QkY (f := Zone.cell) j).trans (by first | (rw [updI_zero]; rfl) | (rw [updL_zero]; rfl))) (Qbv _ _ _)
  ·intro k hk
   refine Go0 ?_
   refine Br.of (fun h2=>Go0 ?_) (fun h2=>Go0 ?_)
   ·have hlt : k < d.zones.length := by omega
    refine Dr.mk hΓ hMix (by kernel_rfl) (Go0 ?_)
    have hg : (updL QcF d.zones k).getD k default = d.zones.getD k default := Qsk (Nat.le_refl _) hlt
    refine Frc.mk (.c (Qay (d.zones.getD k default).sectors)) (congrArg (fun z : Zone => S.c (Qay z.sectors)) hg) (Go0 ?_)
    refine ⟨k + 1, by omega, by omega, ?_⟩
    refine Mv.k1 ?_
    intro i hi j hj
    refine WC.eq ((Qqs (by simpa using hlt) _ i j hj).trans ?_) (Qbv _ _ _)
    rw [Int.toNat_natCast, hg]
    exact congrArg (fun l => Qaa l i j) (Qs9 (f := fun _ => QcF) hlt)
   ·have : k = d.zones.length := by omega
    subst this
    rw [Qtr, show Qbo d = { d with zones := d.zones.map QcF } from if_pos h1, h1]
    refine RM.fz 2 rfl (Nat.zero_le _) (fun _ _ _ _ => (by first | exact rfl | exact Qd5 _ _ | exact Qbv _ _ _ | exact QT _ _ _)) ?_; refine RM.wkW ?_ ?_ (Nat.zero_le _) <;> (first|exact wb0|refine wb1 ?_|refine wb2 ?_ ?_|refine wb3 ?_ ?_ ?_|refine wb4 ?_ ?_ ?_ ?_)
theorem QlC : HB 60 := hB Tryz.func60
def Qfm (z : Zone) : Bool := decide (QaF (z.sectors.take (z.sectors.length - 1)) = 0) && decide (encR (QU (z.sectors.take (z.sectors.length - 1))) = z.sectors.getD (z.sectors.length - 1) default)
theorem Qny (z : Zone) (h1 : 1 ≤ z.sectors.length) (h2 : z.sectors.length ≤ 1000000) : PS 32 [.a [.int .i64 z.state, .int .i64 z.durable, Qay z.sectors]] (.c (.bool (Qfm z))) := by
 refine PSpec.rm ?_
 refine ov hΓ Tryz.func32 30 0 [.tmp 2] Tryz.ntmps32 Tryz.results32 ?_
 have w0 : IntKind.i64.wrap ((z.sectors.length : Int) - 1) = (z.sectors.length : Int) - 1 := Qa _ (by omega) (by omega)
 ((conv=>whnf);(repeat' ((first|refine Nd ?_|refine Hv fun _h=>?_);conv=>whnf)))
 rw [w0]
 ((conv=>whnf);(repeat' ((first|refine Nd ?_|refine Hv fun _h=>?_);conv=>whnf)))
 have wl : WA [.c (.isl 1 ((z.sectors.length : Int) - 1).toNat (fun i _ => .str (z.sectors.getD i ByteArray.empty)) false)] [.c (Qay (z.sectors.take (z.sectors.length - 1)))] := by
  refine WA.cons rfl (WS.c (WC.isl (by rw [List.length_take]; omega) (fun i hi j hj => ?_) (fun e => by cases e))) WA.nil
  show C.str (z.sectors.getD i ByteArray.empty) = C.str ((z.sectors.take (z.sectors.length - 1)).getD i ByteArray.empty)
  have : i < z.sectors.length - 1 := by omega
  have h3 : i < z.sectors.length := by omega
  simp [List.getD, List.getElem?_take, this, h3]
 refine CallN.pureA QiF (QiH (z.sectors.take (z.sectors.length - 1))) ?_ (ha := wl)
 ((conv=>whnf);(repeat' ((first|refine Nd ?_|refine Hv fun _h=>?_);conv=>whnf)))
 refine Dr.mk hΓ hMix (by kernel_rfl) ?_; conv=>whnf
 ((conv=>whnf);(repeat' ((first|refine Nd ?_|refine Hv fun _h=>?_);conv=>whnf)))
 refine CallP.autoG Qdr (fun _ => QdK (QU (z.sectors.take (z.sectors.length - 1)))) ?_
 ((conv=>whnf);(repeat' ((first|refine Nd ?_|refine Hv fun _h=>?_);conv=>whnf)))
 refine RM.i1 ?_
 unfold Qfm
 rw [show ((z.sectors.length : Int) - 1).toNat = z.sectors.length - 1 by omega]
 by_cases h : QaF (z.sectors.take (z.sectors.length - 1)) = 0
 ·rw [beq_iff_eq.2 h, decide_eq_true h]; rfl
 ·rw [beq_eq_false_iff_ne.2 h, decide_eq_false h]; rfl
theorem Qnp : HB 32 := hB Tryz.func32
end Go.Proofs
end

section
open Go Go.Am
namespace Go.Am
theorem bwVr {H : List O} {id n : Nat} {cs : List C} (hid : getL H id = some (.vr cs)) (him : cs.all C.imm = true) (hn : cs.length = n) : Bw H (.ptr id 0) (.ip n (lget cs)) := Bw.ptr hid fun j hj => by
 have h : getL cs j = some (cs[j]'(by omega)) := by rw [Qc]; simp
 refine ⟨lget cs j, ?_, Bw.same ?_⟩
 ·rw [Nat.zero_add]; unfold lget; rw [h]
 ·unfold lget; rw [h]; exact Qde him h
theorem leF.ip {n m : Nat} {g g' : Nat → C} (hm : m ≤ n) (hg : ∀ j, j < m → g j = g' j) : leF (.ip n g) (.ip m g') := by
 rintro F v ⟨b, off, h1, h2⟩
 refine ⟨b, off, h1, fun j hj => ?_⟩
 rw [← hg j hj]
 exact h2 j (by omega)
end Go.Am
namespace Go.Proofs
set_option maxRecDepth 20000
theorem Qbc (s : St) (hs : s.small) : PS 63 [.a s.cells] (.a s.cells) :=
 PSpec.rm ((QpN s hs).mono fun x H h => by
  obtain ⟨rfl, rfl⟩ := h
  exact RM.allA (FwL.own (s := s) (a := 0) (b := 1) (c := 2) rfl rfl rfl))
theorem Qba : HB 63 := Qqu
theorem QmT (n : Nat) (hn : 3 ≤ n) (g : Nat → C) (h l : Int) (h1 : g 1 = .int .i64 h) (h2 : g 2 = .int .i64 l) (b : Bool) : PS 104 [.c (.ip n g), .c (.bool b)] (.c (.ip 1 fun _ => .int .i64 (if b then h else l))) := by
 refine PSpec.rm ?_
 refine ov0 hΓ Tryz.func104 12 0 [.tmp 4] Tryz.ntmps104 Tryz.results104 ?_
 cases b with
 | true =>
  refine Br.yes rfl (Go0 ?_)
  exact RM.allC (Fw.leF rfl (leF.ip (by show 1 ≤ n - 1; omega) fun j hj => by rw [show j = 0 by omega]; exact h1))
 | false =>
  refine Br.no rfl (Go0 ?_)
  exact RM.allC (Fw.leF rfl (leF.ip (by show 1 ≤ n - 2; omega) fun j hj => by rw [show j = 0 by omega]; exact h2))
theorem QmJ : HB 104 := QcC
def Qk (s : St) (b : Bool) : Int := if b then s.host else s.lane
def Qb5 (s : St) (b : Bool) : Bool := QaI s && QcX s (Qk s b)
theorem Qbp {s : St} (h : QaI s = true) (b : Bool) : (s.dev.zones.length ≤ 1000000 ∧ ∀ i, i < s.dev.zones.length → (s.dev.zones.getD i default).sectors.length ≤ 1000000) ∧ (0 ≤ s.dev.size ∧ s.dev.size ≤ 1000000) ∧ (-1 ≤ Qk s b ∧ Qk s b < s.dev.zones.length) := by
 have hv := validS_V.1 h
 have hd := check_ok.1 hv.parts.dev
 have hc := confOk_iff.1 hd.conf
 have hp := hv.pool
 have hz := hv.parts.zones
 refine ⟨⟨by have := hc.n.2; omega, fun i hi => by have := (hd.all.get hi).len; have := hc.size.2; omega⟩, by have := hc.size; omega, ?_⟩
 have key : ∀ z, z = -1 ∨ Qam s.cfg z = true ∧ z ∉ s.free → -1 ≤ z ∧ z < (s.dev.zones.length : Int) := fun z q => by
  have := confR_iff.1 (QR hp.cfg).1
  rcases q with q | q
  ·omega
  ·have := QaC q.1; omega
 unfold Qk
 cases b
 ·exact key _ hp.lane
 ·exact key _ hp.host
theorem Qc8 (s : St) (hs : s.small) (l : List Ent) (hall : Qx s.map = true → AllS s.map l) (b : Bool) : PS 33 [.a s.cells, .c (.bool b)] (.c (.bool (Qb5 s b))) := by
 refine PSpec.rm ?_
 refine ov0 hΓ Tryz.func33 16 0 [.tmp 4] Tryz.ntmps33 Tryz.results33 ?_
 refine Dr.thaw hΓ hMix [1] [(1, .c (.bool b)), (2, .c (.ip 48 (lget s.cells)))] (.cons (BwS.c (Bw.same rfl)) (.cons (BwS.c (bwVr rfl rfl rfl)) .nil)) (by rfl) (by kernel_rfl) (Go0 ?_)
 refine CallP.auto QjD (QiG s hs l hall ) (Go0 ?_)
 refine CallP.autoG QmJ (fun _ => QmT 31 (by decide) (fun j => lget s.cells (17 + j)) s.host s.lane rfl rfl b) ?_ (ha := WA.cons rfl (WS.c (WC.eq rfl rfl)) (WA.cons rfl (WS.c WC.boolA) WA.nil))
 refine Go0 ?_
 refine CallP.autoG Qd1 (fun hg => QdX s (Qk s b) (Qbp hg b).1.1 (Qbp hg b).1.2 (Qbp hg b).2.1.1 (Qbp hg b).2.1.2 (Qbp hg b).2.2.2) (Go0 ?_)
 refine ⟨[(4, .c (.bool (Qb5 s b)))], WT.cons (WS.c (WC.bool (by unfold Qb5; cases QaI s <;> rfl))) WT.nil, rfl, ?_⟩
 refine Go0 ?_
 exact RM.i0
theorem QcZ : HB 33 := hB Tryz.func33
end Go.Proofs
end

section
open Go Go.Am
namespace Go.Proofs
set_option maxRecDepth 20000
def appS (s : St) (b : Bool) (r : Rec) : St × Int × Int × Bool :=
 if (Qm r = 0 ∧ Qb5 s b = true) ∧ Qj s.dev (Qk s b) (encR r) = 0 ∧ (QaG s.live s.pend (Qk s b)).2 = true then
  ({ s with dev := Qf s.dev (Qk s b) (encR r), pend := (QaG s.live s.pend (Qk s b)).1 }, Qk s b, QA s.dev (Qk s b) (encR r), true)
 else (s, 0, 0, false)
set_option maxHeartbeats 8000000 in
theorem QeP (s : St) (hs : s.small) (l : List Ent) (hall : Qx s.map = true → AllS s.map l) (b : Bool) (r : Rec) : PS 34 [.a s.cells, .c (.bool b), .a r.cells] (.t [.inr (appS s b r).1.cells, .inr [.int .i64 (appS s b r).2.1, .int .i64 (appS s b r).2.2.1], .inl (.bool (appS s b r).2.2.2)]) := by
 refine PSpec.rm ?_
 refine ov0 hΓ Tryz.func34 74 0 [.cell 6 58, .cell 7 45, .tmp 8] Tryz.ntmps34 Tryz.results34 ?_
 refine CallN.pureA Qba (Qbc s hs ) (Go0 ?_)
 refine CallN.pureA Qeo (Qez r ) (Go0 ?_)
 refine CallG.auto QcZ (fun _ => Qc8 s hs l hall b ) (Go0 ?_)
 by_cases h0 : Qm r = 0 ∧ Qb5 s b = true
 ·refine Br.no (by rw [h0.1, h0.2]; rfl) (Go0 ?_)
  refine CallN.pureA Qba (Qbc s hs ) (Go0 ?_)
  cases b with
  | true =>
     refine CallN.autoQ [5] QcC (Qdz s.cells 17 true) (Go0 ?_)
     refine CallN.pureA Qfd (Qe8 s.dev hs.dev s.host (encR r) ) (Go0 ?_)
     refine CallN.pureA QhQ (QhW s.live s.pend s.host hs.live hs.pend ) (Go0 ?_)
     by_cases h1 : Qj s.dev s.host (encR r) = 0 ∧ (QaG s.live s.pend s.host).2 = true
     ·refine Br.no (by rw [h1.1, h1.2]; rfl) (Go0 ?_)
      refine Dr.mkE hΓ hMix [] [(1, 3)] (by kernel_rfl) (Go0 ?_)
      rw [show appS s true r = ({ s with dev := Qf s.dev s.host (encR r), pend := (QaG s.live s.pend s.host).1 }, s.host, QA s.dev s.host (encR r), true) from if_pos ⟨h0, h1⟩]
      exact RM.i0
     ·refine Br.yes (by
       by_cases q : Qj s.dev s.host (encR r) = 0
       ·have : (QaG s.live s.pend s.host).2 = false := by
         cases w : (QaG s.live s.pend s.host).2 with
         | false => rfl
         | true => exact absurd ⟨q, w⟩ h1
        rw [q, this]; rfl
       ·rw [bne_iff_ne.2 q]; rfl) ?_
      refine Go0 ?_
      rw [show appS s true r = (s, 0, 0, false) from if_neg fun q => h1 q.2]
      exact RM.i0
  | false =>
     refine CallN.autoQ [5] QcC (Qdz s.cells 17 false) (Go0 ?_)
     refine CallN.pureA Qfd (Qe8 s.dev hs.dev s.lane (encR r) ) (Go0 ?_)
     refine CallN.pureA QhQ (QhW s.live s.pend s.lane hs.live hs.pend ) (Go0 ?_)
     by_cases h1 : Qj s.dev s.lane (encR r) = 0 ∧ (QaG s.live s.pend s.lane).2 = true
     ·refine Br.no (by rw [h1.1, h1.2]; rfl) (Go0 ?_)
      refine Dr.mkE hΓ hMix [] [(1, 3)] (by kernel_rfl) (Go0 ?_)
      rw [show appS s false r = ({ s with dev := Qf s.dev s.lane (encR r), pend := (QaG s.live s.pend s.lane).1 }, s.lane, QA s.dev s.lane (encR r), true) from if_pos ⟨h0, h1⟩]
      exact RM.i0
     ·refine Br.yes (by
       by_cases q : Qj s.dev s.lane (encR r) = 0
       ·have : (QaG s.live s.pend s.lane).2 = false := by
         cases w : (QaG s.live s.pend s.lane).2 with
         | false => rfl
         | true => exact absurd ⟨q, w⟩ h1
        rw [q, this]; rfl
       ·rw [bne_iff_ne.2 q]; rfl) ?_
      refine Go0 ?_
      rw [show appS s false r = (s, 0, 0, false) from if_neg fun q => h1 q.2]
      exact RM.i0
 ·refine Br.yes (by
   by_cases q : Qm r = 0
   ·have : Qb5 s b = false := by
     cases w : Qb5 s b with
     | false => rfl
     | true => exact absurd ⟨q, w⟩ h0
    rw [q, this]; rfl
   ·rw [bne_iff_ne.2 q]; rfl) ?_
  refine Go0 ?_
  rw [show appS s b r = (s, 0, 0, false) from if_neg fun q => h0 q.1]
  exact RM.i0
theorem QeI : HB 34 := hB Tryz.func34
end Go.Proofs
end
