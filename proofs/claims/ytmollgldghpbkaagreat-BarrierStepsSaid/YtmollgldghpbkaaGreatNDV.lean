/- Contracts, lemmas; no condition. -/
import Derived.Test.YtmollgldghpbkaaGreatGGV
import Derived.Test.YtmollgldghpbkaaGreatStBV
import Derived.Test.YtmollgldghpbkaaGreatGBV
import Derived.Test.YtmollgldghpbkaaGreatKsV
set_option linter.all false
section
open Go Go.Am
namespace Go.Proofs
set_option maxRecDepth 20000
theorem Qi4 {c : Conf} {f : List Int} {z : Int} (hc : Qw c = 0) (h : z = -1 ∨ QO c z = true ∧ z ∉ f) : -1 ≤ z ∧ z < c.zones := by
 have h1 := confR_iff.1 (Qv hc).1
 rcases h with h | h
 ·omega
 ·have := h.1
  unfold QO at this
  rw [decide_eq_true_eq] at this
  have := Qae (Qv hc).1
  omega
theorem Gs.lanes {c : Conf} {n : Int} {e : Nat} {s : St} (h : Gs c n e s) : (-1 ≤ s.host ∧ s.host < s.dev.zones.length) ∧ -1 ≤ s.lane ∧ s.lane < s.dev.zones.length := by
 have hp := h.gd.poolOk
 have hz := h.gd.val.parts.zones
 rw [h.gd.cfg] at hz
 have h1 := Qi4 hp.cfg hp.host
 have h2 := Qi4 hp.cfg hp.lane
 omega
theorem Gs.fin {c : Conf} {n : Int} {e : Nat} {s : St} (h : Gs c n e s) {q : Nat} (hq : q < s.works.length) {w : Wrk} (h5 : (s.works.getD q default).state = 5) (hr : w.req = (s.works.getD q default).req) (hw : 5 ≤ w.state ∧ w.state ≤ 9) (hu : w.ent.version ≤ s.next) : Gs c n e (s.setWork q w) := by
 have hl := h.len
 exact h.setWork hq hr (by rw [h5]; decide) (QiS (h.gd.val.queues q om).work hr (Or.inr (Or.inr ⟨h5, hw⟩))) (fun _ => hu)
abbrev St.apT (s : St) (w : Wrk) : Rec := ⟨2, w.req.block, s.next, 0, ByteArray.empty⟩
abbrev St.apD (s : St) (w : Wrk) : Rec := ⟨1, w.req.block, s.next, 0, w.req.data⟩
abbrev St.apB (s : St) (r : Rec) : St := (s.put s.host r).bump
abbrev St.apL (s : St) (r : Rec) (w : Wrk) (q : Nat) : St := { (s.put s.host r).bump with owner := (Qbm s.owner (QF s.map w.req.block) q).1 }
theorem Qb4 {n0 : Nat} {d : List C} {t o : St} {s : S} {H : List O} {q : St → Prop} (hq : q t) (h : RM n0 s H (.a (t.cellsK 2)) [.vr d, o.wobj, t.wobj]) : ∃ s' H', RM n0 s H s' H' ∧ ∃ i : Bool × St × St, q i.2.1 ∧ s' = .a (i.2.1.cellsK (cond i.1 2 1)) ∧ H' = cond i.1 [.vr d, i.2.2.wobj, i.2.1.wobj] [.vr d, i.2.1.wobj] := ⟨_, _, h, (true, t, o), hq, rfl, rfl⟩
set_option maxHeartbeats 8000000 in
theorem QlJ (c : Conf) (n : Int) (e : Nat) (d : DiceM) (s : St) (h : Gs c n e s) (hn : n ≤ 90000) (he : e ≤ 100) (q : Nat) (hq : q < s.works.length) (w : Wrk) (h5 : (s.works.getD q default).state = 5) (hr : w.req = (s.works.getD q default).req) (hw : 7 ≤ w.state ∧ w.state ≤ 9) : CS 98 [.c (.ptr 0 0), .a (s.cellsK 1), .c (.int .i64 q), .a w.cells] [.vr d.cells, s.wobj] fun x H => ∃ i : Bool × St × St, Gs c (n + 1) e i.2.1 ∧ x = .a (i.2.1.cellsK (cond i.1 2 1)) ∧ H = cond i.1 [.vr d.cells, i.2.2.wobj, i.2.1.wobj] [.vr d.cells, i.2.1.wobj] := by
 have hcf := confR_iff.1 (Qv h.gd.conf).1
 have hsm := h.small om
 have hlh := h.lanes.1
 refine CSpec.rm ?_
 refine ov0 hΓ Tryz.func98 134 2 [.cell 8 58] Tryz.ntmps98 Tryz.results98 ?_
 refine CallN.pureA QcM (QcE s.map w.req.block hsm.map ) (Go0 ?_)
 refine Dr.mk hΓ hMix (by kernel_rfl) (Go0 ?_)
 refine CallP.autoG QfL (fun _ => QfJ s.owner (QF s.map w.req.block) hsm.owner ) (Go0 ?_)
 refine Need.mk (fun h1 h2 => by
  have h2 : decide (w.state > 7) = true := h2
  rw [h1, h2]; rfl) ?_
 refine Go0 ?_
 refine Br.mk (fun hb => ?_) (fun hb => ?_) <;> (conv=>whnf)
 ·refine Go0 ?_
  refine ⟨_, _, ?_, ⟨(false, s, s), h.weak om (Nat.le_refl _), rfl, rfl⟩⟩
  exact RM.w0
 ·refine Go0 ?_
  have w0 := Qa (s.next + 1) (by have := h.gd.val.parts.next; have := h.gd.next; omega) (by have := h.gd.val.parts.next; have := h.gd.next; omega)
  have hblk : w.req.block < c.blocks := by rw [hr]; exact h.block hq h5
  by_cases c3 : w.req.kind = 3
  ·refine Br.yes (by rw [c3]; rfl) (Go0 ?_)
   refine Dr.mkE hΓ hMix [] [(8, 11), (9, 11)] (by kernel_rfl) (Go0 ?_)
   refine CallP.auto QbV (QbU ((w|>s.apT)) ) (Go0 ?_)
   refine CallP.auto QaR (QaQ s.dev hsm.dev s.host (encR ((w|>s.apT))) ) (Go0 ?_)
   refine Br.mk (fun he => ?_) (fun he => ?_) <;> (conv=>whnf)
   ·refine Go0 ?_
    refine ⟨_, _, ?_, ⟨(false, s, s), h.weak om (Nat.le_refl _), rfl, rfl⟩⟩
    exact RM.w0
   ·refine Go0 ?_
    rw [w0]
    have h1 : Gs c (n + 1) e (s.put s.host ((w|>s.apT))).bump := (h.put s.host ((w|>s.apT))).bump om
    by_cases c8 : w.state > 7
    ·refine Br.yes (decide_eq_true c8) (Go0 ?_)
     refine CallN.pureA Qd0 (QdZ s.owner (QF s.map w.req.block) q hsm.owner ) (Go0 ?_)
     have h2 : Gs c (n + 1) e (q|>(w|>((w|>s.apT)|>s.apL))) := h1.take (QF s.map w.req.block) q
     have hs2 := h2.small om
     by_cases c9 : w.state = 9
     ·refine Br.yes (by rw [c9]; rfl) (Go0 ?_)
      refine CallN.autoI [1] QcG (QcI ((q|>(w|>((w|>s.apT)|>s.apL)))) (hs2).map (hs2).shard (hs2).live (hs2).pend (recE ((w|>s.apT)) s.host (Qe s.dev s.host (encR ((w|>s.apT)))))) plh (Go0 ?_)
      have hwk := Qdb ((q|>(w|>((w|>s.apT)|>s.apL)))) (recE ((w|>s.apT)) s.host (Qe s.dev s.host (encR ((w|>s.apT)))))
      have hh : Gs c (n + 1) e (St.install ((q|>(w|>((w|>s.apT)|>s.apL)))) (recE ((w|>s.apT)) s.host (Qe s.dev s.host (encR ((w|>s.apT)))))) := Gs.install h2 (x := recE ((w|>s.apT)) s.host (Qe s.dev s.host (encR ((w|>s.apT))))) hblk
      have hnx : s.next ≤ (St.install ((q|>(w|>((w|>s.apT)|>s.apL)))) (recE ((w|>s.apT)) s.host (Qe s.dev s.host (encR ((w|>s.apT)))))).next := by
       obtain ⟨l, m, q⟩ := Qbf ((q|>(w|>((w|>s.apT)|>s.apL)))) (recE ((w|>s.apT)) s.host (Qe s.dev s.host (encR ((w|>s.apT)))))
       rw [q]; show s.next ≤ s.next + 1; omega
      refine CallN.autoI [1] Qaz (Qay (St.install ((q|>(w|>((w|>s.apT)|>s.apL)))) (recE ((w|>s.apT)) s.host (Qe s.dev s.host (encR ((w|>s.apT)))))) q { w with ent := recE ((w|>s.apT)) s.host (Qe s.dev s.host (encR ((w|>s.apT)))) } (by rw [hwk]; exact hsm.works) om (by rw [hwk]; show (q : Int) < (s.works.length : Int); omega)) plh (Go0 ?_)
      have hg : Gs c (n + 1) e (St.setWork (St.install ((q|>(w|>((w|>s.apT)|>s.apL)))) (recE ((w|>s.apT)) s.host (Qe s.dev s.host (encR ((w|>s.apT)))))) (q : Int).toNat { w with ent := recE ((w|>s.apT)) s.host (Qe s.dev s.host (encR ((w|>s.apT)))) }) := Gs.fin hh (q := q) (by rw [hwk]; exact hq) (w := { w with ent := recE ((w|>s.apT)) s.host (Qe s.dev s.host (encR ((w|>s.apT)))) }) (by rw [hwk]; exact h5) (by rw [hwk]; exact hr) (by show 5 ≤ w.state ∧ w.state ≤ 9; omega) hnx
      refine Qb4 (o := (St.install ((q|>(w|>((w|>s.apT)|>s.apL)))) (recE ((w|>s.apT)) s.host (Qe s.dev s.host (encR ((w|>s.apT))))))) hg ?_
      exact RM.renN [0, 1, 7] (by decide) (show ∀ i, i < 2 → rho [0, 1, 7] i = i by decide) leN wb0 wb0
     ·refine Br.no (by simpa using c9) (Go0 ?_)
      refine CallN.pureA Qb3 (Qb1 ((q|>(w|>((w|>s.apT)|>s.apL)))).live ((q|>(w|>((w|>s.apT)|>s.apL)))).pend s.host (hs2).live (hs2).pend ) (Go0 ?_)
      have hh := Gs.pend h2 s.host
      refine CallN.autoI [1] Qaz (Qay { ((q|>(w|>((w|>s.apT)|>s.apL)))) with pend := (Qa1 ((q|>(w|>((w|>s.apT)|>s.apL)))).live ((q|>(w|>((w|>s.apT)|>s.apL)))).pend s.host).1 } q { w with ent := recE ((w|>s.apT)) s.host (Qe s.dev s.host (encR ((w|>s.apT)))) } hsm.works om (by show (q : Int) < (s.works.length : Int); omega)) plh (Go0 ?_)
      have hg : Gs c (n + 1) e (St.setWork { ((q|>(w|>((w|>s.apT)|>s.apL)))) with pend := (Qa1 ((q|>(w|>((w|>s.apT)|>s.apL)))).live ((q|>(w|>((w|>s.apT)|>s.apL)))).pend s.host).1 } (q : Int).toNat { w with ent := recE ((w|>s.apT)) s.host (Qe s.dev s.host (encR ((w|>s.apT)))) }) := Gs.fin hh (q := q) hq (w := { w with ent := recE ((w|>s.apT)) s.host (Qe s.dev s.host (encR ((w|>s.apT)))) }) h5 hr (by show 5 ≤ w.state ∧ w.state ≤ 9; omega) (by show s.next ≤ s.next + 1; omega)
      refine Qb4 (o := (q|>(w|>((w|>s.apT)|>s.apL)))) hg ?_
      exact RM.renN [0, 1, 7] (by decide) (show ∀ i, i < 2 → rho [0, 1, 7] i = i by decide) leN wb0 wb0
    ·refine Br.no (decide_eq_false c8) (Go0 ?_)
     have hs1 := h1.small om
     by_cases c9 : w.state = 9
     ·refine Br.yes (by rw [c9]; rfl) (Go0 ?_)
      refine CallN.autoI [1] QcG (QcI (((w|>s.apT)|>s.apB)) (hs1).map (hs1).shard (hs1).live (hs1).pend (recE ((w|>s.apT)) s.host (Qe s.dev s.host (encR ((w|>s.apT)))))) plh (Go0 ?_)
      have hwk := Qdb (((w|>s.apT)|>s.apB)) (recE ((w|>s.apT)) s.host (Qe s.dev s.host (encR ((w|>s.apT)))))
      have hh : Gs c (n + 1) e (St.install (((w|>s.apT)|>s.apB)) (recE ((w|>s.apT)) s.host (Qe s.dev s.host (encR ((w|>s.apT)))))) := Gs.install h1 (x := recE ((w|>s.apT)) s.host (Qe s.dev s.host (encR ((w|>s.apT))))) hblk
      have hnx : s.next ≤ (St.install (((w|>s.apT)|>s.apB)) (recE ((w|>s.apT)) s.host (Qe s.dev s.host (encR ((w|>s.apT)))))).next := by
       obtain ⟨l, m, q⟩ := Qbf (((w|>s.apT)|>s.apB)) (recE ((w|>s.apT)) s.host (Qe s.dev s.host (encR ((w|>s.apT)))))
       rw [q]; show s.next ≤ s.next + 1; omega
      refine CallN.autoI [1] Qaz (Qay (St.install (((w|>s.apT)|>s.apB)) (recE ((w|>s.apT)) s.host (Qe s.dev s.host (encR ((w|>s.apT)))))) q { w with ent := recE ((w|>s.apT)) s.host (Qe s.dev s.host (encR ((w|>s.apT)))) } (by rw [hwk]; exact hsm.works) om (by rw [hwk]; show (q : Int) < (s.works.length : Int); omega)) plh (Go0 ?_)
      have hg : Gs c (n + 1) e (St.setWork (St.install (((w|>s.apT)|>s.apB)) (recE ((w|>s.apT)) s.host (Qe s.dev s.host (encR ((w|>s.apT)))))) (q : Int).toNat { w with ent := recE ((w|>s.apT)) s.host (Qe s.dev s.host (encR ((w|>s.apT)))) }) := Gs.fin hh (q := q) (by rw [hwk]; exact hq) (w := { w with ent := recE ((w|>s.apT)) s.host (Qe s.dev s.host (encR ((w|>s.apT)))) }) (by rw [hwk]; exact h5) (by rw [hwk]; exact hr) (by show 5 ≤ w.state ∧ w.state ≤ 9; omega) hnx
      refine Qb4 (o := (St.install (((w|>s.apT)|>s.apB)) (recE ((w|>s.apT)) s.host (Qe s.dev s.host (encR ((w|>s.apT))))))) hg ?_
      exact RM.renN [0, 1, 7] (by decide) (show ∀ i, i < 2 → rho [0, 1, 7] i = i by decide) leN wb0 wb0
     ·refine Br.no (by simpa using c9) (Go0 ?_)
      refine CallN.pureA Qb3 (Qb1 (((w|>s.apT)|>s.apB)).live (((w|>s.apT)|>s.apB)).pend s.host (hs1).live (hs1).pend ) (Go0 ?_)
      have hh := Gs.pend h1 s.host
      refine CallN.autoI [1] Qaz (Qay { (((w|>s.apT)|>s.apB)) with pend := (Qa1 (((w|>s.apT)|>s.apB)).live (((w|>s.apT)|>s.apB)).pend s.host).1 } q { w with ent := recE ((w|>s.apT)) s.host (Qe s.dev s.host (encR ((w|>s.apT)))) } hsm.works om (by show (q : Int) < (s.works.length : Int); omega)) plh (Go0 ?_)
      have hg : Gs c (n + 1) e (St.setWork { (((w|>s.apT)|>s.apB)) with pend := (Qa1 (((w|>s.apT)|>s.apB)).live (((w|>s.apT)|>s.apB)).pend s.host).1 } (q : Int).toNat { w with ent := recE ((w|>s.apT)) s.host (Qe s.dev s.host (encR ((w|>s.apT)))) }) := Gs.fin hh (q := q) hq (w := { w with ent := recE ((w|>s.apT)) s.host (Qe s.dev s.host (encR ((w|>s.apT)))) }) h5 hr (by show 5 ≤ w.state ∧ w.state ≤ 9; omega) (by show s.next ≤ s.next + 1; omega)
      refine Qb4 (o := ((w|>s.apT)|>s.apB)) hg ?_
      exact RM.renN [0, 1, 7] (by decide) (show ∀ i, i < 2 → rho [0, 1, 7] i = i by decide) leN wb0 wb0
  ·refine Br.no (by simpa using c3) (Go0 ?_)
   refine Dr.mkE hΓ hMix [] [(8, 11), (9, 11)] (by kernel_rfl) (Go0 ?_)
   refine CallP.auto QbV (QbU ((w|>s.apD)) ) (Go0 ?_)
   refine CallP.auto QaR (QaQ s.dev hsm.dev s.host (encR ((w|>s.apD))) ) (Go0 ?_)
   refine Br.mk (fun he => ?_) (fun he => ?_) <;> (conv=>whnf)
   ·refine Go0 ?_
    refine ⟨_, _, ?_, ⟨(false, s, s), h.weak om (Nat.le_refl _), rfl, rfl⟩⟩
    exact RM.w0
   ·refine Go0 ?_
    rw [w0]
    have h1 : Gs c (n + 1) e (s.put s.host ((w|>s.apD))).bump := (h.put s.host ((w|>s.apD))).bump om
    by_cases c8 : w.state > 7
    ·refine Br.yes (decide_eq_true c8) (Go0 ?_)
     refine CallN.pureA Qd0 (QdZ s.owner (QF s.map w.req.block) q hsm.owner ) (Go0 ?_)
     have h2 : Gs c (n + 1) e (q|>(w|>((w|>s.apD)|>s.apL))) := h1.take (QF s.map w.req.block) q
     have hs2 := h2.small om
     by_cases c9 : w.state = 9
     ·refine Br.yes (by rw [c9]; rfl) (Go0 ?_)
      refine CallN.autoI [1] QcG (QcI ((q|>(w|>((w|>s.apD)|>s.apL)))) (hs2).map (hs2).shard (hs2).live (hs2).pend (recE ((w|>s.apD)) s.host (Qe s.dev s.host (encR ((w|>s.apD)))))) plh (Go0 ?_)
      have hwk := Qdb ((q|>(w|>((w|>s.apD)|>s.apL)))) (recE ((w|>s.apD)) s.host (Qe s.dev s.host (encR ((w|>s.apD)))))
      have hh : Gs c (n + 1) e (St.install ((q|>(w|>((w|>s.apD)|>s.apL)))) (recE ((w|>s.apD)) s.host (Qe s.dev s.host (encR ((w|>s.apD)))))) := Gs.install h2 (x := recE ((w|>s.apD)) s.host (Qe s.dev s.host (encR ((w|>s.apD))))) hblk
      have hnx : s.next ≤ (St.install ((q|>(w|>((w|>s.apD)|>s.apL)))) (recE ((w|>s.apD)) s.host (Qe s.dev s.host (encR ((w|>s.apD)))))).next := by
       obtain ⟨l, m, q⟩ := Qbf ((q|>(w|>((w|>s.apD)|>s.apL)))) (recE ((w|>s.apD)) s.host (Qe s.dev s.host (encR ((w|>s.apD)))))
       rw [q]; show s.next ≤ s.next + 1; omega
      refine CallN.autoI [1] Qaz (Qay (St.install ((q|>(w|>((w|>s.apD)|>s.apL)))) (recE ((w|>s.apD)) s.host (Qe s.dev s.host (encR ((w|>s.apD)))))) q { w with ent := recE ((w|>s.apD)) s.host (Qe s.dev s.host (encR ((w|>s.apD)))) } (by rw [hwk]; exact hsm.works) om (by rw [hwk]; show (q : Int) < (s.works.length : Int); omega)) plh (Go0 ?_)
      have hg : Gs c (n + 1) e (St.setWork (St.install ((q|>(w|>((w|>s.apD)|>s.apL)))) (recE ((w|>s.apD)) s.host (Qe s.dev s.host (encR ((w|>s.apD)))))) (q : Int).toNat { w with ent := recE ((w|>s.apD)) s.host (Qe s.dev s.host (encR ((w|>s.apD)))) }) := Gs.fin hh (q := q) (by rw [hwk]; exact hq) (w := { w with ent := recE ((w|>s.apD)) s.host (Qe s.dev s.host (encR ((w|>s.apD)))) }) (by rw [hwk]; exact h5) (by rw [hwk]; exact hr) (by show 5 ≤ w.state ∧ w.state ≤ 9; omega) hnx
      refine Qb4 (o := (St.install ((q|>(w|>((w|>s.apD)|>s.apL)))) (recE ((w|>s.apD)) s.host (Qe s.dev s.host (encR ((w|>s.apD))))))) hg ?_
      exact RM.renN [0, 1, 7] (by decide) (show ∀ i, i < 2 → rho [0, 1, 7] i = i by decide) leN wb0 wb0
     ·refine Br.no (by simpa using c9) (Go0 ?_)
      refine CallN.pureA Qb3 (Qb1 ((q|>(w|>((w|>s.apD)|>s.apL)))).live ((q|>(w|>((w|>s.apD)|>s.apL)))).pend s.host (hs2).live (hs2).pend ) (Go0 ?_)
      have hh := Gs.pend h2 s.host
      refine CallN.autoI [1] Qaz (Qay { ((q|>(w|>((w|>s.apD)|>s.apL)))) with pend := (Qa1 ((q|>(w|>((w|>s.apD)|>s.apL)))).live ((q|>(w|>((w|>s.apD)|>s.apL)))).pend s.host).1 } q { w with ent := recE ((w|>s.apD)) s.host (Qe s.dev s.host (encR ((w|>s.apD)))) } hsm.works om (by show (q : Int) < (s.works.length : Int); omega)) plh (Go0 ?_)
      have hg : Gs c (n + 1) e (St.setWork { ((q|>(w|>((w|>s.apD)|>s.apL)))) with pend := (Qa1 ((q|>(w|>((w|>s.apD)|>s.apL)))).live ((q|>(w|>((w|>s.apD)|>s.apL)))).pend s.host).1 } (q : Int).toNat { w with ent := recE ((w|>s.apD)) s.host (Qe s.dev s.host (encR ((w|>s.apD)))) }) := Gs.fin hh (q := q) hq (w := { w with ent := recE ((w|>s.apD)) s.host (Qe s.dev s.host (encR ((w|>s.apD)))) }) h5 hr (by show 5 ≤ w.state ∧ w.state ≤ 9; omega) (by show s.next ≤ s.next + 1; omega)
      refine Qb4 (o := (q|>(w|>((w|>s.apD)|>s.apL)))) hg ?_
      exact RM.renN [0, 1, 7] (by decide) (show ∀ i, i < 2 → rho [0, 1, 7] i = i by decide) leN wb0 wb0
    ·refine Br.no (decide_eq_false c8) (Go0 ?_)
     have hs1 := h1.small om
     by_cases c9 : w.state = 9
     ·refine Br.yes (by rw [c9]; rfl) (Go0 ?_)
      refine CallN.autoI [1] QcG (QcI (((w|>s.apD)|>s.apB)) (hs1).map (hs1).shard (hs1).live (hs1).pend (recE ((w|>s.apD)) s.host (Qe s.dev s.host (encR ((w|>s.apD)))))) plh (Go0 ?_)
      have hwk := Qdb (((w|>s.apD)|>s.apB)) (recE ((w|>s.apD)) s.host (Qe s.dev s.host (encR ((w|>s.apD)))))
      have hh : Gs c (n + 1) e (St.install (((w|>s.apD)|>s.apB)) (recE ((w|>s.apD)) s.host (Qe s.dev s.host (encR ((w|>s.apD)))))) := Gs.install h1 (x := recE ((w|>s.apD)) s.host (Qe s.dev s.host (encR ((w|>s.apD))))) hblk
      have hnx : s.next ≤ (St.install (((w|>s.apD)|>s.apB)) (recE ((w|>s.apD)) s.host (Qe s.dev s.host (encR ((w|>s.apD)))))).next := by
       obtain ⟨l, m, q⟩ := Qbf (((w|>s.apD)|>s.apB)) (recE ((w|>s.apD)) s.host (Qe s.dev s.host (encR ((w|>s.apD)))))
       rw [q]; show s.next ≤ s.next + 1; omega
      refine CallN.autoI [1] Qaz (Qay (St.install (((w|>s.apD)|>s.apB)) (recE ((w|>s.apD)) s.host (Qe s.dev s.host (encR ((w|>s.apD)))))) q { w with ent := recE ((w|>s.apD)) s.host (Qe s.dev s.host (encR ((w|>s.apD)))) } (by rw [hwk]; exact hsm.works) om (by rw [hwk]; show (q : Int) < (s.works.length : Int); omega)) plh (Go0 ?_)
      have hg : Gs c (n + 1) e (St.setWork (St.install (((w|>s.apD)|>s.apB)) (recE ((w|>s.apD)) s.host (Qe s.dev s.host (encR ((w|>s.apD)))))) (q : Int).toNat { w with ent := recE ((w|>s.apD)) s.host (Qe s.dev s.host (encR ((w|>s.apD)))) }) := Gs.fin hh (q := q) (by rw [hwk]; exact hq) (w := { w with ent := recE ((w|>s.apD)) s.host (Qe s.dev s.host (encR ((w|>s.apD)))) }) (by rw [hwk]; exact h5) (by rw [hwk]; exact hr) (by show 5 ≤ w.state ∧ w.state ≤ 9; omega) hnx
      refine Qb4 (o := (St.install (((w|>s.apD)|>s.apB)) (recE ((w|>s.apD)) s.host (Qe s.dev s.host (encR ((w|>s.apD))))))) hg ?_
      exact RM.renN [0, 1, 7] (by decide) (show ∀ i, i < 2 → rho [0, 1, 7] i = i by decide) leN wb0 wb0
     ·refine Br.no (by simpa using c9) (Go0 ?_)
      refine CallN.pureA Qb3 (Qb1 (((w|>s.apD)|>s.apB)).live (((w|>s.apD)|>s.apB)).pend s.host (hs1).live (hs1).pend ) (Go0 ?_)
      have hh := Gs.pend h1 s.host
      refine CallN.autoI [1] Qaz (Qay { (((w|>s.apD)|>s.apB)) with pend := (Qa1 (((w|>s.apD)|>s.apB)).live (((w|>s.apD)|>s.apB)).pend s.host).1 } q { w with ent := recE ((w|>s.apD)) s.host (Qe s.dev s.host (encR ((w|>s.apD)))) } hsm.works om (by show (q : Int) < (s.works.length : Int); omega)) plh (Go0 ?_)
      have hg : Gs c (n + 1) e (St.setWork { (((w|>s.apD)|>s.apB)) with pend := (Qa1 (((w|>s.apD)|>s.apB)).live (((w|>s.apD)|>s.apB)).pend s.host).1 } (q : Int).toNat { w with ent := recE ((w|>s.apD)) s.host (Qe s.dev s.host (encR ((w|>s.apD)))) }) := Gs.fin hh (q := q) hq (w := { w with ent := recE ((w|>s.apD)) s.host (Qe s.dev s.host (encR ((w|>s.apD)))) }) h5 hr (by show 5 ≤ w.state ∧ w.state ≤ 9; omega) (by show s.next ≤ s.next + 1; omega)
      refine Qb4 (o := ((w|>s.apD)|>s.apB)) hg ?_
      exact RM.renN [0, 1, 7] (by decide) (show ∀ i, i < 2 → rho [0, 1, 7] i = i by decide) leN wb0 wb0
theorem QlM : HB 98 := hB Tryz.func98
theorem Qca {n0 : Nat} {p : DS} {s : S} {H : List O} {q : DS → Prop} (hq : q p) (h : RM n0 s H (.a (p.2.cellsK 1)) [.vr p.1.cells, p.2.wobj]) : ∃ s' H', RM n0 s H s' H' ∧ ∃ i : Bool × DS × St, q i.2.1 ∧ s' = .a (i.2.1.2.cellsK (cond i.1 2 1)) ∧ H' = cond i.1 [.vr i.2.1.1.cells, i.2.2.wobj, i.2.1.2.wobj] [.vr i.2.1.1.cells, i.2.1.2.wobj] := ⟨_, _, h, (false, p, p.2), hq, rfl, rfl⟩
theorem Qr0 {n0 : Nat} {p : DS} {o : St} {s : S} {H : List O} {q : DS → Prop} (hq : q p) (h : RM n0 s H (.a (p.2.cellsK 2)) [.vr p.1.cells, o.wobj, p.2.wobj]) : ∃ s' H', RM n0 s H s' H' ∧ ∃ i : Bool × DS × St, q i.2.1 ∧ s' = .a (i.2.1.2.cellsK (cond i.1 2 1)) ∧ H' = cond i.1 [.vr i.2.1.1.cells, i.2.2.wobj, i.2.1.2.wobj] [.vr i.2.1.1.cells, i.2.1.2.wobj] := ⟨_, _, h, (true, p, o), hq, rfl, rfl⟩
theorem Gs.put1 {c : Conf} {n : Int} {e : Nat} {s : St} (h : Gs c n e s) {q : Nat} (hq : q < s.works.length) {w : Wrk} (hr : w.req = (s.works.getD q default).req) (hs : ((s.works.getD q default).state = 1 ∧ 1 ≤ w.state ∧ w.state ≤ 4) ∨ ((s.works.getD q default).state = 10 ∧ w.state = 11) ∨ ((s.works.getD q default).state = 5 ∧ 5 ≤ w.state ∧ w.state ≤ 6)) : Gs c n e (s.setWork q w) := by
 have hl := h.len
 refine h.setWork hq hr om (QiS (h.gd.val.queues q om).work hr om) (fun hu => ?_)
 unfold Qk at hu
 rw [decide_eq_true_eq] at hu
 omega
theorem Gs.same {c : Conf} {n : Int} {e : Nat} {s : St} (h : Gs c n e s) {q : Nat} (hq : q < s.works.length) {w : Wrk} (hw : w = s.works.getD q default) : Gs c n e (s.setWork q w) := by
 subst hw
 unfold St.setWork
 rw [Qnq hq]
 exact h
set_option maxHeartbeats 8000000 in
theorem QhD (c : Conf) (n : Int) (e : Nat) (d : DiceM) (hd : d.ok) (s : St) (h : Gs c n e s) (hn : n ≤ 90000) (he : e ≤ 100) (q : Nat) (hq : q < s.works.length) : CS 39 [.c (.ptr 0 0), .a (s.cellsK 1), .c (.int .i64 q)] [.vr d.cells, s.wobj] fun x H => ∃ i : Bool × DS × St, (i.2.1.1.ok ∧ Gs c (n + 1) e i.2.1.2) ∧ x = .a (i.2.1.2.cellsK (cond i.1 2 1)) ∧ H = cond i.1 [.vr i.2.1.1.cells, i.2.2.wobj, i.2.1.2.wobj] [.vr i.2.1.1.cells, i.2.1.2.wobj] := by
 have hcf := confR_iff.1 (Qv h.gd.conf).1
 have hsm := h.small om
 refine CSpec.rm ?_
 refine ov0 hΓ Tryz.func39 88 2 [.cell 6 58] Tryz.ntmps39 Tryz.results39 ?_
 refine Frc.mk (.a (s.works.getD q default).cells) rfl (Go0 ?_)
 refine CallN.autoQ [0] Ql (Qm d hd 5) (Go0 ?_)
 have hk := d.next_range (n := 5) om om
 have hd1 := hd.step
 generalize hW : s.works.getD q default = W at *
 by_cases c1 : W.state = 1 ∧ 0 < d.next 5
 ·refine Br.yes (by rw [c1.1]; exact decide_eq_true c1.2) (Go0 ?_)
  have w1 := Qa (1 + min (d.next 5) 3) om om
  refine CallN.pureA Qsb (Qse s.glob s.pins s.rets q hsm.pins hsm.rets ) (Go0 ?_)
  rw [w1]
  have h1 := h.pin q
  by_cases c2 : d.next 5 > 1
  ·refine Br.yes (decide_eq_true c2) (Go0 ?_)
   refine CallN.pureA Qem (Qes s.map W.req.block hsm.map hsm.shard ) (Go0 ?_)
   by_cases c3 : d.next 5 > 2
   ·refine Br.yes (decide_eq_true c3) (Go0 ?_)
    refine CallN.autoQ [0] Ql (Qm d.step hd1 60) (Go0 ?_)
    refine CallN.pureA Qly (Qlh (d.step.next 60) ) (Go0 ?_)
    have h2 := h1.put1 (q := q) hq (w := ⟨1 + min (d.next 5) 3, W.req, (Qdf s.map W.req.block).1, QdH (d.step.next 60)⟩) (by show W.req = (s.works.getD q default).req; rw [hW]) (by show ((s.works.getD q default).state = 1 ∧ 1 ≤ 1 + min (d.next 5) 3 ∧ 1 + min (d.next 5) 3 ≤ 4) ∨ _; rw [hW]; omega)
    have hd2 := hd1.step
    refine Qca (q := fun p => p.1.ok ∧ Gs c (n + 1) e p.2) (p := (d.step.step, _)) ⟨hd2, Gs.weak h2 om (Nat.le_refl _)⟩ ?_
    refine RM.wkW ?_ ?_ leN <;> (first|exact wb0|refine wb1 ?_|refine wb2 ?_ ?_|refine wb3 ?_ ?_ ?_|refine wb4 ?_ ?_ ?_ ?_)
    all_goals exact fun i hi j hj => WC.eq (Qb0 hq (by rfl) i j hj) (Qj _ _)
   ·refine Br.no (decide_eq_false c3) (Go0 ?_)
    have h2 := h1.put1 (q := q) hq (w := ⟨1 + min (d.next 5) 3, W.req, (Qdf s.map W.req.block).1, W.data⟩) (by show W.req = (s.works.getD q default).req; rw [hW]) (by show ((s.works.getD q default).state = 1 ∧ 1 ≤ 1 + min (d.next 5) 3 ∧ 1 + min (d.next 5) 3 ≤ 4) ∨ _; rw [hW]; omega)
    refine Qca (q := fun p => p.1.ok ∧ Gs c (n + 1) e p.2) (p := (d.step, _)) ⟨hd1, Gs.weak h2 om (Nat.le_refl _)⟩ ?_
    refine RM.wkW ?_ ?_ leN <;> (first|exact wb0|refine wb1 ?_|refine wb2 ?_ ?_|refine wb3 ?_ ?_ ?_|refine wb4 ?_ ?_ ?_ ?_)
    all_goals exact fun i hi j hj => WC.eq (Qb0 hq (by rfl) i j hj) (Qj _ _)
  ·refine Br.no (decide_eq_false c2) (Go0 ?_)
   refine Br.no (decide_eq_false om) (Go0 ?_)
   have h2 := h1.put1 (q := q) hq (w := ⟨1 + min (d.next 5) 3, W.req, W.ent, W.data⟩) (by show W.req = (s.works.getD q default).req; rw [hW]) (by show ((s.works.getD q default).state = 1 ∧ 1 ≤ 1 + min (d.next 5) 3 ∧ 1 + min (d.next 5) 3 ≤ 4) ∨ _; rw [hW]; omega)
   refine Qca (q := fun p => p.1.ok ∧ Gs c (n + 1) e p.2) (p := (d.step, _)) ⟨hd1, Gs.weak h2 om (Nat.le_refl _)⟩ ?_
   refine RM.wkW ?_ ?_ leN <;> (first|exact wb0|refine wb1 ?_|refine wb2 ?_ ?_|refine wb3 ?_ ?_ ?_|refine wb4 ?_ ?_ ?_ ?_)
   all_goals exact fun i hi j hj => WC.eq (Qb0 hq (by rfl) i j hj) (Qj _ _)
 ·refine Br.no (Bool.eq_false_iff.2 fun z => c1 (by simpa using z)) (Go0 ?_)
  by_cases c4 : W.state = 10 ∧ 2 < d.next 5
  ·refine Br.yes (by rw [c4.1]; exact decide_eq_true c4.2) (Go0 ?_)
   have h2 := h.put1 (q := q) hq (w := { W with state := 11 }) (by show W.req = (s.works.getD q default).req; rw [hW]) (by show _ ∨ ((s.works.getD q default).state = 10 ∧ (11 : Int) = 11) ∨ _; rw [hW]; omega)
   refine Qca (q := fun p => p.1.ok ∧ Gs c (n + 1) e p.2) (p := (d.step, _)) ⟨hd1, Gs.weak h2 om (Nat.le_refl _)⟩ ?_
   refine RM.wkW ?_ ?_ leN <;> (first|exact wb0|refine wb1 ?_|refine wb2 ?_ ?_|refine wb3 ?_ ?_ ?_|refine wb4 ?_ ?_ ?_ ?_)
   all_goals exact fun i hi j hj => WC.eq (Qb0 hq (by rfl) i j hj) (Qj _ _)
  ·refine Br.no (Bool.eq_false_iff.2 fun z => c4 (by simpa using z)) (Go0 ?_)
   by_cases c5 : W.state = 5 ∧ 0 < d.next 5
   ·refine Br.yes (by rw [c5.1]; exact decide_eq_true c5.2) (Go0 ?_)
    have w1 := Qa (5 + d.next 5) om om
    rw [w1]
    by_cases c2 : d.next 5 > 1
    ·refine Br.yes (decide_eq_true c2) (Go0 ?_)
     have ha := QlJ c n e d.step s h hn he q hq { W with state := 5 + d.next 5 } (by rw [hW]; exact c5.1) (by show W.req = (s.works.getD q default).req; rw [hW]) (by show 7 ≤ 5 + d.next 5 ∧ 5 + d.next 5 ≤ 9; omega)
     refine CallN.exI [0, 1] QlM ha (fun i => by obtain ⟨b, t, o⟩ := i; cases b <;> (simp only [cond]; exact plh)) (fun i hi => ?_)
     obtain ⟨b, t, o⟩ := i
     have hi : Gs c (n + 1) e t := hi
     cases b with
     | true =>
      refine Go0 ?_
      refine Qr0 (q := fun p => p.1.ok ∧ Gs c (n + 1) e p.2) (p := (d.step, t)) (o := o) ⟨hd1, hi⟩ ?_
      exact RM.renN [0, 1, 5] (by decide) (show ∀ i, i < 2 → rho [0, 1, 5] i = i by decide) leN wb0 wb0
     | false =>
      refine Go0 ?_
      refine Qca (q := fun p => p.1.ok ∧ Gs c (n + 1) e p.2) (p := (d.step, t)) ⟨hd1, hi⟩ ?_
      exact RM.w0
    ·refine Br.no (decide_eq_false c2) (Go0 ?_)
     have h2 := h.put1 (q := q) hq (w := { W with state := 5 + d.next 5 }) (by show W.req = (s.works.getD q default).req; rw [hW]) (by show _ ∨ _ ∨ ((s.works.getD q default).state = 5 ∧ 5 ≤ 5 + d.next 5 ∧ 5 + d.next 5 ≤ 6); rw [hW]; omega)
     refine Qca (q := fun p => p.1.ok ∧ Gs c (n + 1) e p.2) (p := (d.step, _)) ⟨hd1, Gs.weak h2 om (Nat.le_refl _)⟩ ?_
     refine RM.wkW ?_ ?_ leN <;> (first|exact wb0|refine wb1 ?_|refine wb2 ?_ ?_|refine wb3 ?_ ?_ ?_|refine wb4 ?_ ?_ ?_ ?_)
     all_goals exact fun i hi j hj => WC.eq (Qb0 hq (by rfl) i j hj) (Qj _ _)
   ·refine Br.no (Bool.eq_false_iff.2 fun z => c5 (by simpa using z)) (Go0 ?_)
    have h2 := h.same hq hW.symm
    refine Qca (q := fun p => p.1.ok ∧ Gs c (n + 1) e p.2) (p := (d.step, _)) ⟨hd1, Gs.weak h2 om (Nat.le_refl _)⟩ ?_
    refine RM.wkW ?_ ?_ leN <;> (first|exact wb0|refine wb1 ?_|refine wb2 ?_ ?_|refine wb3 ?_ ?_ ?_|refine wb4 ?_ ?_ ?_ ?_)
    all_goals exact fun i hi j hj => WC.eq (Qb0 hq (by rfl) i j hj) (Qj _ _)
theorem Qhn : HB 39 := hB Tryz.func39
end Go.Proofs
end
