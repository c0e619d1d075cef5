/- Contracts, lemmas; no condition. -/
import Derived.Test.YtmollgldghpbkaaGreatNDV
import Derived.Test.YtmollgldghpbkaaGreatNAV
import Derived.Test.YtmollgldghpbkaaGreatN15V
set_option linter.all false
section
open Go Go.Am
namespace Go.Proofs
set_option maxRecDepth 20000
def Cln.cells (c : Cln) : List C := [.int .i64 c.state, .int .i64 c.victim, .int .i64 c.offset, .int .i64 c.ent.block, .int .i64 c.ent.kind, .int .i64 c.ent.version, .int .i64 c.ent.move, .int .i64 c.ent.zone, .int .i64 c.ent.offset, .int .i64 c.pzone, .int .i64 c.poff]
theorem QeI {n0 : Nat} {t : St} {s : S} {H : List O} {q : St → Prop} (hq : q t) (h : RM n0 s H (.a t.cells) []) : ∃ s' H', RM n0 s H s' H' ∧ ∃ i : St, q i ∧ s' = .a i.cells ∧ H' = [] := ⟨_, _, h, t, hq, rfl, rfl⟩
set_option maxHeartbeats 8000000 in
theorem Qhi (c : Conf) (n : Int) (e : Nat) (s : St) (h : Gs c n e s) (hn : n ≤ 90000) (he : e ≤ 100) (x : Cln) (k : Int) (r : Rec) : CS 102 [.a s.cells, .a x.cells, .c (.int .i64 k), .a r.cells] [] fun y H => ∃ t : St, Gs c n e t ∧ y = .a t.cells ∧ H = [] := by
 have hsm := h.small om
 refine CSpec.rm ?_
 refine ov0 hΓ Tryz.func102 126 0 [.cell 8 58] Tryz.ntmps102 Tryz.results102 ?_
 refine CallN.pureA QcM (QcE s.map x.ent.block hsm.map ) (Go0 ?_)
 refine CallN.pureA Qji (QjJ r ) (Go0 ?_)
 refine Dr.mkE hΓ hMix [] [(8, 11), (9, 11)] (by kernel_rfl) (Go0 ?_)
 refine CallP.auto QbV (QbU (QM r).1 ) (Go0 ?_)
 refine CallP.auto QaR (QaQ s.dev hsm.dev s.lane (encR (QM r).1) ) (Go0 ?_)
 refine CallG.auto QfL (fun _ => QfJ s.owner (QF s.map x.ent.block) hsm.owner ) (Go0 ?_)
 refine Br.mk (fun hb => ?_) (fun hb => ?_) <;> (conv=>whnf)
 ·refine Go0 ?_
  refine QeI (q := Gs c n e) h ?_
  exact RM.i0
 ·refine Go0 ?_
  have h1 : Gs c n e (s.put s.lane (QM r).1) := h.put s.lane (QM r).1
  by_cases c8 : k > 7
  ·refine Br.yes (decide_eq_true c8) (Go0 ?_)
   have hw := confR_iff.1 (Qv h.gd.conf).1
   refine CallN.pureA Qd0 (QdZ s.owner (QF s.map x.ent.block) s.cfg.queues hsm.owner ) (Go0 ?_)
   have h2 := h1.take (QF s.map x.ent.block) s.cfg.queues
   have hsx := Gs.small h2 om
   by_cases c9 : k = 9
   ·refine Br.yes (by rw [c9]; rfl) (Go0 ?_)
    refine Dr.mkE hΓ hMix [] [(2, 5), (3, 5)] (by kernel_rfl) (Go0 ?_)
    refine CallN.pureA QfM (Qfy ({ (s.put s.lane (QM r).1) with owner := (Qbm s.owner (QF s.map x.ent.block) s.cfg.queues).1 }).map x.ent.block x.ent.version x.ent.zone x.ent.offset s.lane (Qe s.dev s.lane (encR (QM r).1)) (QM r).1.move hsx.map hsx.shard ) (Go0 ?_)
    refine CallN.pureA Qda (Qdd ({ (s.put s.lane (QM r).1) with owner := (Qbm s.owner (QF s.map x.ent.block) s.cfg.queues).1 }).live ({ (s.put s.lane (QM r).1) with owner := (Qbm s.owner (QF s.map x.ent.block) s.cfg.queues).1 }).pend x.ent { x.ent with zone := s.lane, offset := Qe s.dev s.lane (encR (QM r).1), move := (QM r).1.move } true true hsx.live hsx.pend ) (Go0 ?_)
    have hh := (Gs.rel h2 x.ent.block x.ent.version x.ent.zone x.ent.offset s.lane (Qe s.dev s.lane (encR (QM r).1)) (QM r).1.move x.ent.zone s.lane).cln ⟨6, x.victim, x.offset, x.ent, s.lane, Qe s.dev s.lane (encR (QM r).1)⟩
    refine QeI (q := Gs c n e) hh ?_
    exact RM.i0
   ·refine Br.no (by simpa using c9) (Go0 ?_)
    refine CallN.pureA Qb3 (Qb1 ({ (s.put s.lane (QM r).1) with owner := (Qbm s.owner (QF s.map x.ent.block) s.cfg.queues).1 }).live ({ (s.put s.lane (QM r).1) with owner := (Qbm s.owner (QF s.map x.ent.block) s.cfg.queues).1 }).pend s.lane hsx.live hsx.pend ) (Go0 ?_)
    have hh := (Gs.pend h2 s.lane).cln ⟨5, x.victim, x.offset, x.ent, s.lane, Qe s.dev s.lane (encR (QM r).1)⟩
    refine QeI (q := Gs c n e) hh ?_
    exact RM.i0
  ·refine Br.no (decide_eq_false c8) (Go0 ?_)
   have hsx := Gs.small h1 om
   by_cases c9 : k = 9
   ·refine Br.yes (by rw [c9]; rfl) (Go0 ?_)
    refine Dr.mkE hΓ hMix [] [(2, 5), (3, 5)] (by kernel_rfl) (Go0 ?_)
    refine CallN.pureA QfM (Qfy ((s.put s.lane (QM r).1)).map x.ent.block x.ent.version x.ent.zone x.ent.offset s.lane (Qe s.dev s.lane (encR (QM r).1)) (QM r).1.move hsx.map hsx.shard ) (Go0 ?_)
    refine CallN.pureA Qda (Qdd ((s.put s.lane (QM r).1)).live ((s.put s.lane (QM r).1)).pend x.ent { x.ent with zone := s.lane, offset := Qe s.dev s.lane (encR (QM r).1), move := (QM r).1.move } true true hsx.live hsx.pend ) (Go0 ?_)
    have hh := (Gs.rel h1 x.ent.block x.ent.version x.ent.zone x.ent.offset s.lane (Qe s.dev s.lane (encR (QM r).1)) (QM r).1.move x.ent.zone s.lane).cln ⟨6, x.victim, x.offset, x.ent, s.lane, Qe s.dev s.lane (encR (QM r).1)⟩
    refine QeI (q := Gs c n e) hh ?_
    exact RM.i0
   ·refine Br.no (by simpa using c9) (Go0 ?_)
    refine CallN.pureA Qb3 (Qb1 ((s.put s.lane (QM r).1)).live ((s.put s.lane (QM r).1)).pend s.lane hsx.live hsx.pend ) (Go0 ?_)
    have hh := (Gs.pend h1 s.lane).cln ⟨4, x.victim, x.offset, x.ent, s.lane, Qe s.dev s.lane (encR (QM r).1)⟩
    refine QeI (q := Gs c n e) hh ?_
    exact RM.i0
theorem Qh2 : HB 102 := hB Tryz.func102
theorem Qbg {n0 : Nat} {p : DS} {s : S} {H : List O} {q : DS → Prop} (hq : q p) (h : RM n0 s H (.a p.2.cells) [.vr p.1.cells]) : ∃ s' H', RM n0 s H s' H' ∧ ∃ i : DS, q i ∧ s' = .a i.2.cells ∧ H' = [.vr i.1.cells] := ⟨_, _, h, p, hq, rfl, rfl⟩
set_option maxHeartbeats 8000000 in
theorem QqN (c : Conf) (n : Int) (e : Nat) (d : DiceM) (hd : d.ok) (s : St) (h : Gs c n e s) (hn : n ≤ 90000) (he : e ≤ 100) : CS 40 [.c (.ptr 0 0), .a s.cells] [.vr d.cells] fun y H => ∃ i : DS, (i.1.ok ∧ Gs c n e i.2) ∧ y = .a i.2.cells ∧ H = [.vr i.1.cells] := by
 have hsm := h.small om
 have hlh := h.lanes.2
 have hcf := confR_iff.1 (Qv h.gd.conf).1
 have hcs : s.cfg.size = c.size := by rw [h.gd.cfg]
 have w1 := Qa (s.cfg.size + 1) om om
 refine CSpec.rm ?_
 refine ov0 hΓ Tryz.func40 131 1 [.cell 4 58] Tryz.ntmps40 Tryz.results40 ?_
 refine CallN.pureA QlQ (QlH s hsm ) (Go0 ?_)
 refine CallN.autoQ [0] Ql (Qm d hd 10) (Go0 ?_)
 have hd1 := hd.step
 refine Br.mk (fun hb => ?_) (fun hb => ?_) <;> (conv=>whnf)
 ·refine Go0 ?_
  refine Qbg (q := fun p => p.1.ok ∧ Gs c n e p.2) (p := (d.step, _)) ⟨hd1, h⟩ ?_
  exact RM.w0
 ·refine Go0 ?_
  refine CallN.autoQ [0] Ql (Qm d.step hd1 (s.cfg.size + 1)) (Go0 ?_)
  have hd2 := hd1.step
  by_cases c1 : d.next 10 = 1
  ·refine Br.yes (by rw [c1]; rfl) (Go0 ?_)
   refine Br.no (by rw [c1]; rfl) (Go0 ?_)
   refine CallN.pureA Qde (Qdc s.dev (QQ s).1 (d.step.next (s.cfg.size + 1)) ) (Go0 ?_)
   refine CallN.pureA Qd1 (QdY (Qa4 s.dev (QQ s).1 (d.step.next (s.cfg.size + 1))) ) (Go0 ?_)
   refine CallN.pureA Qem (Qes s.map (Qci s (QQ s).1 (d.step.next (s.cfg.size + 1))).1.block hsm.map hsm.shard ) (Go0 ?_)
   refine Br.yes (by rw [c1]; rfl) (Go0 ?_)
   have hh := h.cln ⟨7, (QQ s).1, d.step.next (s.cfg.size + 1), default, 0, 0⟩
   refine Qbg (q := fun p => p.1.ok ∧ Gs c n e p.2) (p := (d.step.step, _)) ⟨hd2, hh⟩ ?_
   exact RM.w0
  ·refine Br.no (by simpa using c1) (Go0 ?_)
   by_cases c2 : d.next 10 = 2
   ·refine Br.yes (by rw [c2]; rfl) (Go0 ?_)
    refine CallN.pureA Qde (Qdc s.dev (QQ s).1 (d.step.next (s.cfg.size + 1)) ) (Go0 ?_)
    refine CallN.pureA Qd1 (QdY (Qa4 s.dev (QQ s).1 (d.step.next (s.cfg.size + 1))) ) (Go0 ?_)
    refine CallN.pureA Qem (Qes s.map (Qci s (QQ s).1 (d.step.next (s.cfg.size + 1))).1.block hsm.map hsm.shard ) (Go0 ?_)
    refine Br.yes (by rw [c2]; rfl) (Go0 ?_)
    have hh := h.cln ⟨8, (QQ s).1, d.step.next (s.cfg.size + 1), default, 0, 0⟩
    refine Qbg (q := fun p => p.1.ok ∧ Gs c n e p.2) (p := (d.step.step, _)) ⟨hd2, hh⟩ ?_
    exact RM.w0
   ·refine Br.no (by simpa using c2) (Go0 ?_)
    refine CallN.pureA Qde (Qdc s.dev (QQ s).1 (d.step.next (s.cfg.size + 1)) ) (Go0 ?_)
    refine CallN.pureA Qd1 (QdY (Qa4 s.dev (QQ s).1 (d.step.next (s.cfg.size + 1))) ) (Go0 ?_)
    refine CallN.pureA Qem (Qes s.map (Qci s (QQ s).1 (d.step.next (s.cfg.size + 1))).1.block hsm.map hsm.shard ) (Go0 ?_)
    refine Br.mk (fun hb1 => ?_) (fun hb1 => ?_) <;> (conv=>whnf)
    ·refine Go0 ?_
     have hh := h.cln ⟨1, (QQ s).1, d.step.next (s.cfg.size + 1), default, 0, 0⟩
     refine Qbg (q := fun p => p.1.ok ∧ Gs c n e p.2) (p := (d.step.step, _)) ⟨hd2, hh⟩ ?_
     exact RM.w0
    ·refine Go0 ?_
     refine Br.mk (fun hb2 => ?_) (fun hb2 => ?_) <;> (conv=>whnf)
     ·refine Go0 ?_
      refine Dr.mk hΓ hMix (by kernel_rfl) (Go0 ?_)
      refine Br.mk (fun hb3 => ?_) (fun hb3 => ?_) <;> (conv=>whnf)
      ·refine Go0 ?_
       refine CallN.exI [] Qh2 (Qhi c n e s h hn he ⟨3, (QQ s).1, d.step.next (s.cfg.size + 1), (Qdf s.map (Qci s (QQ s).1 (d.step.next (s.cfg.size + 1))).1.block).1, 0, 0⟩ (d.next 10) (Qci s (QQ s).1 (d.step.next (s.cfg.size + 1))).1) (fun _ => plh) (fun t ht => ?_); conv=>whnf
       refine Go0 ?_
       refine Qbg (q := fun p => p.1.ok ∧ Gs c n e p.2) (p := (d.step.step, _)) ⟨hd2, ht⟩ ?_
       exact RM.w0
      ·refine Go0 ?_
       have hh := h.cln ⟨3, (QQ s).1, d.step.next (s.cfg.size + 1), (Qdf s.map (Qci s (QQ s).1 (d.step.next (s.cfg.size + 1))).1.block).1, 0, 0⟩
       refine Qbg (q := fun p => p.1.ok ∧ Gs c n e p.2) (p := (d.step.step, _)) ⟨hd2, hh⟩ ?_
       exact RM.w0
     ·refine Go0 ?_
      refine Dr.mk hΓ hMix (by kernel_rfl) (Go0 ?_)
      refine Br.mk (fun hb3 => ?_) (fun hb3 => ?_) <;> (conv=>whnf)
      ·refine Go0 ?_
       refine CallN.exI [] Qh2 (Qhi c n e s h hn he ⟨2, (QQ s).1, d.step.next (s.cfg.size + 1), (Qdf s.map (Qci s (QQ s).1 (d.step.next (s.cfg.size + 1))).1.block).1, 0, 0⟩ (d.next 10) (Qci s (QQ s).1 (d.step.next (s.cfg.size + 1))).1) (fun _ => plh) (fun t ht => ?_); conv=>whnf
       refine Go0 ?_
       refine Qbg (q := fun p => p.1.ok ∧ Gs c n e p.2) (p := (d.step.step, _)) ⟨hd2, ht⟩ ?_
       exact RM.w0
      ·refine Go0 ?_
       have hh := h.cln ⟨2, (QQ s).1, d.step.next (s.cfg.size + 1), (Qdf s.map (Qci s (QQ s).1 (d.step.next (s.cfg.size + 1))).1.block).1, 0, 0⟩
       refine Qbg (q := fun p => p.1.ok ∧ Gs c n e p.2) (p := (d.step.step, _)) ⟨hd2, hh⟩ ?_
       exact RM.w0
theorem QpX : HB 40 := hB Tryz.func40
theorem QqM (s : St) (hs : s.small) : PS 104 [.a s.cells] (.c (.int .i64 (cutS s))) := by
 have hwl := hs.works
 refine PSpec.rm ?_
 refine ov0 hΓ Tryz.func104 48 0 [.tmp 2] Tryz.ntmps104 Tryz.results104 ?_
 refine CallN.pureA QdG (Qds s hs ) (Go0 ?_)
 by_cases hv : Qz s = true
 ·refine Br.no (by rw [hv]; rfl) (Go0 ?_)
  rw [show cutS s = QbJ s.next s.works s.works.length from if_pos hv]
  refine Lp.mkK hΓ (ι := Nat) [1, 2] (fun k => [(5, .c (.int .i64 k)), (3, .c (.int .i64 (QbJ s.next s.works k))), (4, .c (.bool ((s.works.take k).any Qk)))]) (fun k => [.vr s.cells]) (fun k => k ≤ s.works.length) (fun i => s.works.length - i) 0 (Nat.zero_le _) ?_ ?_
  ·exact Mv.k0
  ·intro k hk
   refine Go1 fun _h=>?_
   refine Br.of (fun h1=>Go0 ?_) (fun h1=>Go0 ?_)
   ·have w0 := Qa (↑k + 1) om om
    by_cases c : Qk (s.works.getD k default) = true
    ·have c' : (s.works.getD k default).state = 7 ∨ (s.works.getD k default).state = 8 := of_decide_eq_true c
     refine Br.yes (by simp [-List.getD_eq_getElem?_getD]; exact c') ?_
     refine Go0 ?_
     by_cases c2 : (s.works.take k).any Qk = false ∨ (s.works.getD k default).ent.version < QbJ s.next s.works k
     ·refine Br.yes (by simp [-List.getD_eq_getElem?_getD, -List.any_eq_false, -List.any_eq_true]; exact c2) ?_
      refine Go0 ?_
      refine ⟨k + 1, om, om, ?_⟩
      rw [QcT, if_pos ⟨c, c2⟩, QaW om, c, Bool.or_true]
      exact Mv.k0
     ·refine Br.no (Bool.eq_false_iff.2 fun z => c2 (by simpa [-List.getD_eq_getElem?_getD, -List.any_eq_false, -List.any_eq_true] using z)) ?_
      refine Go0 ?_
      refine ⟨k + 1, om, om, ?_⟩
      have c3 : (s.works.take k).any Qk = true := by
       cases q : (s.works.take k).any Qk with
       | true => rfl
       | false => exact absurd (Or.inl q) c2
      rw [QcT, if_neg fun z => c2 z.2, QaW om, c, Bool.or_true, c3]
      exact Mv.k0
    ·have c' : ¬ ((s.works.getD k default).state = 7 ∨ (s.works.getD k default).state = 8) := fun z => c (decide_eq_true z)
     refine Br.no (Bool.eq_false_iff.2 fun z => c' (by simpa [-List.getD_eq_getElem?_getD] using z)) ?_
     refine Go0 ?_
     refine ⟨k + 1, om, om, ?_⟩
     rw [QcT, if_neg fun z => c z.1, QaW om, Qg c, Bool.or_false]
     exact Mv.k0
   ·have : k = s.works.length := by omega
    subst this
    exact RM.i0
 ·refine Br.yes (by rw [Qg hv]; rfl) (Go0 ?_)
  rw [show cutS s = 0 from if_neg hv]
  exact RM.i0
theorem Qq2 : HB 104 := hB Tryz.func104
theorem QsA {c : Conf} {slot : Int} (hc : Qw c = 0) (h0 : 0 ≤ slot) (h1 : slot ≤ 1) : (Qdy c slot).length = (Qo c).toNat := by
 unfold Qdy
 rw [if_pos ⟨hc, h0, h1⟩]
 exact tabL_len _
set_option maxHeartbeats 4000000 in
theorem Qg7 (c : Conf) (n : Int) (e : Nat) (s : St) (h : Gs c n e s) (hn : n ≤ 90000) (he : e ≤ 100) (v : Sav) (h0 : 0 ≤ v.slot) (h1 : v.slot ≤ 1) (h2 : v.done ≤ v.recs.length) (h3 : (v.recs.length : Int) ≤ Qo c * c.size) (hl : v.recs.length ≤ 100000) : CS 108 [.a s.cells, .a v.cells] [] fun y H => ∃ t : St, Gs c n e t ∧ y = .a t.cells ∧ H = [] := by
 have hsm := h.small om
 have hc : Qw s.cfg = 0 := by rw [h.gd.cfg]; exact h.gd.conf
 have hcf := confR_iff.1 (Qv hc).1
 have hs1 := Qae (Qv hc).1
 have hsl := QsA (slot := v.slot) hc h0 h1
 rw [show c = s.cfg from h.gd.cfg.symm] at h3
 refine CSpec.rm ?_
 refine ov0 hΓ Tryz.func108 47 0 [.cell 4 58] Tryz.ntmps108 Tryz.results108 ?_
 refine CallN.pureA QiB (Qiy s.cfg v.slot ) (Go0 ?_)
 refine Lp.mkK hΓ (ι := Nat × St) [2, 3, 4, 5] (fun i => [(6, .c (.int .i64 i.1))]) (fun i => [.vr i.2.cells, .vr v.cells, .vr (default : St).cells]) (fun i => i.1 ≤ v.done.toNat ∧ Gs c n e i.2) (fun i => v.done.toNat - i.1) (0, s) ⟨Nat.zero_le _, h⟩ ?_ ?_
 ·exact Mv.k0
 ·rintro ⟨k, t⟩ ⟨hk, ht⟩
  have hk : k ≤ v.done.toNat := hk
  have ht : Gs c n e t := ht
  have hts := ht.small om
  have htc : t.cfg = s.cfg := by rw [ht.gd.cfg, h.gd.cfg]
  have htz : t.cfg.size = s.cfg.size := by rw [htc]
  refine Go0 ?_
  refine Br.of (fun h4=>Go0 ?_) (fun h4=>Go0 ?_)
  ·have w0 := Qa (↑k + 1) om om
   have hd0 : (0 : Int) ≤ (k : Int).tdiv t.cfg.size := Int.tdiv_nonneg om om
   have hd1 : (k : Int).tdiv t.cfg.size < Qo s.cfg := by
    rw [htz, Int.tdiv_eq_ediv_of_nonneg om]
    exact Int.ediv_lt_of_lt_mul om om
   have wq := Qa ((k : Int).tdiv t.cfg.size) om om
   refine Dr.mkE hΓ hMix [] [(19, 22), (20, 22)] (by kernel_rfl) (Go0 ?_)
   refine CallP.auto QbV (QbU (v.recs.getD k default) ) (Go0 ?_)
   refine CallP.auto QaR (QaQ t.dev hts.dev ((Qdy s.cfg v.slot).getD (IntKind.i64.wrap ((k : Int).tdiv t.cfg.size)).toNat default) (encR (v.recs.getD k default)) ) (Go0 ?_)
   refine Br.mk (fun hb => ?_) (fun hb => ?_) <;> (conv=>whnf)
   ·refine Go0 ?_
    refine ⟨(k + 1, t.put ((Qdy s.cfg v.slot).getD (IntKind.i64.wrap ((k : Int).tdiv t.cfg.size)).toNat default) (v.recs.getD k default)), ⟨by show k + 1 ≤ v.done.toNat; omega, ht.put _ _⟩, by show v.done.toNat - (k + 1) < v.done.toNat - k; omega, ?_⟩
    exact Mv.k0
   ·refine Go0 ?_
    refine ⟨(k + 1, t), ⟨by show k + 1 ≤ v.done.toNat; omega, ht⟩, by show v.done.toNat - (k + 1) < v.done.toNat - k; omega, ?_⟩
    exact Mv.k0
  ·refine QeI (q := Gs c n e) ht ?_
   exact RM.i0
theorem QhQ : HB 108 := hB Tryz.func108
end Go.Proofs
end
