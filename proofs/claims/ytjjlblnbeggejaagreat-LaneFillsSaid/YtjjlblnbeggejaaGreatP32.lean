/- Contracts, lemmas; no condition. -/
import Derived.Test.YtjjlblnbeggejaaGreatP31
import Derived.Test.YtjjlblnbeggejaaGreatP10
import Derived.Test.YtjjlblnbeggejaaGreatP26
import Derived.Test.YtjjlblnbeggejaaGreatP24
import Derived.Test.YtjjlblnbeggejaaGreatP22
import Derived.Test.YtjjlblnbeggejaaGreatP12
import Derived.Test.YtjjlblnbeggejaaGreatP30
import Derived.Test.YtjjlblnbeggejaaGreatP19
set_option linter.all false
section
open Go Go.Am
namespace Go.Proofs
set_option maxRecDepth 20000
def Qcu (s : St) (p : List Int × Int × Int) : St := { s with free := p.1, host := p.2.1, lane := p.2.2 }
def QfL (s : St) (b : Bool) : (List Int × Int × Int) × Bool := if b then Qcp s.cfg s.free s.host s.lane else QaU s.cfg s.free s.host s.lane
def Qi6 (s : St) (z : Int) : Bool := decide ((s.dev.zones.getD z.toNat default).state ≠ 4) && decide (((s.dev.zones.getD z.toNat default).sectors.length : Int) = s.dev.size - 1)
def Qae (s : St) (b : Bool) : St × Int :=
 if QaI s = true then
  if QcX s (Qk s b) = true then (s, 0)
  else if Qk s b < 0 then
   if (QfL s b).2 = true then (Qcu s (QfL s b).1, 0) else (s, 7)
  else if Qi6 s (Qk s b) = true then
   if (finM s.dev (Qk s b)).2 = 0 then (Qcu { s with dev := (finM s.dev (Qk s b)).1 } (Qa5 s.cfg s.free s.host s.lane b).1, 0) else (s, 6)
  else (Qcu s (Qa5 s.cfg s.free s.host s.lane b).1, 0)
 else (s, 6)
theorem Qhq (a b c : Int) : (bif a != 4 then b == c else false) = (decide (a ≠ 4) && decide (b = c)) := by
 by_cases h1 : a = 4
 ·subst h1; rfl
 ·rw [bne_iff_ne.2 h1, decide_eq_true h1]
  by_cases h2 : b = c
  ·rw [beq_iff_eq.2 h2, decide_eq_true h2]; rfl
  ·rw [beq_eq_false_iff_ne.2 h2, decide_eq_false h2]; rfl
theorem QpZ : HB 103 := hB Tryz.func103
set_option maxHeartbeats 16000000 in
theorem QiE (s : St) (hs : s.small) (l : List Ent) (hall : Qx s.map = true → AllS s.map l) (b : Bool) : PS 31 [.a s.cells, .c (.bool b)] (.t [.inr (Qae s b).1.cells, .inl (.int .i64 (Qae s b).2)]) := by
 refine PSpec.rm ?_
 refine CSpec.of_dfr2 hΓ Tryz.func31 rfl rfl 107 0 3 [.cell 4 58, .cell 5 62] (g := 103) Tryz.ntmps31 ?_ ?_
 ·exact QpZ
 refine Go0 ?_
 refine DfrN.intro ⟨_, _, rfl, Nat.le_of_ble_eq_true rfl, ?_⟩
 refine Go0 ?_
 refine CallN.pureA QjD (QiG s hs l hall ) (Go0 ?_)
 by_cases hv : QaI s = true
 ·refine Br.no (by rw [hv]; rfl) (Go0 ?_)
  refine CallN.pureA Qba (Qbc s hs ) (Go0 ?_)
  have hl := Qbp hv b
  cases b with
  | true =>
   refine CallN.autoQ [1] QcC (Qdz s.cells 17 true) (Go0 ?_)
   refine Dr.mk hΓ hMix (by kernel_rfl) (Go0 ?_)
   refine CallP.auto Qd1 (QdX s s.host hl.1.1 hl.1.2 hl.2.1.1 hl.2.1.2 hl.2.2.2 ) (Go0 ?_)
   by_cases hr : QcX s s.host = true
   ·refine Br.yes hr (Go0 ?_)
    refine DNode.intro (DSpec.of_vc hΓ Tryz.func103 7 3 [] Tryz.ntmps103 ?_)
    refine Go0 ?_
    refine Br.no rfl (Go0 ?_)
    rw [show Qae s true = (s, 0) from (if_pos hv).trans (if_pos hr)]
    exact RM.i0
   ·refine Br.no (Qq hr) (Go0 ?_)
    by_cases hz : s.host < 0
    ·refine Br.yes (by rw [decide_eq_true hz]; rfl) (Go0 ?_)
     refine CallN.pureA Qpe (Qqx s.cfg s.free s.host s.lane hs.free ) (Go0 ?_)
     by_cases ht : (Qcp s.cfg s.free s.host s.lane).2 = true
     ·refine Br.no (by rw [ht]; rfl) (Go0 ?_)
      refine DNode.intro (DSpec.of_vc hΓ Tryz.func103 7 3 [] Tryz.ntmps103 ?_)
      refine Go0 ?_
      refine Br.no rfl (Go0 ?_)
      rw [show Qae s true = (Qcu s (Qcp s.cfg s.free s.host s.lane).1, 0) from (if_pos hv).trans ((if_neg hr).trans ((if_pos hz).trans (if_pos ht)))]
      exact RM.i0
     ·refine Br.yes (by rw [Qq ht]; rfl) (Go0 ?_)
      refine DNode.intro (DSpec.of_vc hΓ Tryz.func103 7 3 [] Tryz.ntmps103 ?_)
      refine Go0 ?_
      refine Br.yes rfl (Go0 ?_)
      refine CallN.pureA Qba (Qbc s hs ) (Go0 ?_)
      rw [show Qae s true = (s, 7) from (if_pos hv).trans ((if_neg hr).trans ((if_pos hz).trans (if_neg ht)))]
      exact RM.i0
    ·refine Br.no (by rw [decide_eq_false hz]; rfl) (Go0 ?_)
     refine Br.no (decide_eq_false hz) (Go0 ?_)
     have hz0 : 0 ≤ s.host := by omega
     have hz1 : s.host < s.dev.zones.length := hl.2.2.2
     refine Dr.mk hΓ hMix (by kernel_rfl) (Go0 ?_)
     have w0 := Qa (s.dev.size - 1) (by omega) (by omega)
     rw [w0]
     by_cases hf : Qi6 s s.host = true
     ·refine Br.yes ((Qhq _ _ _).trans hf) (Go0 ?_)
      refine Dr.mkE hΓ hMix [] [(8, 10)] (by kernel_rfl) (Go0 ?_)
      refine CallP.auto Qhd (Qg2 s.dev s.host hs.dev hz0 hz1 ) (Go0 ?_)
      by_cases hq : (finM s.dev s.host).2 = 0
      ·refine Br.no (by rw [hq]; rfl) (Go0 ?_)
       refine CallN.pureA QdB (Qds s.cfg s.free s.host s.lane true hs.free ) (Go0 ?_)
       refine DNode.intro (DSpec.of_vc hΓ Tryz.func103 7 4 [] Tryz.ntmps103 ?_)
       refine Go0 ?_
       refine Br.no rfl (Go0 ?_)
       rw [show Qae s true = (Qcu { s with dev := (finM s.dev s.host).1 } (Qa5 s.cfg s.free s.host s.lane true).1, 0) from (if_pos hv).trans ((if_neg hr).trans ((if_neg hz).trans ((if_pos hf).trans (if_pos hq))))]
       exact RM.i0
      ·refine Br.yes (bne_iff_ne.2 hq) (Go0 ?_)
       refine DNode.intro (DSpec.of_vc hΓ Tryz.func103 7 4 [] Tryz.ntmps103 ?_)
       refine Go0 ?_
       refine Br.yes rfl (Go0 ?_)
       refine CallN.pureA Qba (Qbc s hs ) (Go0 ?_)
       rw [show Qae s true = (s, 6) from (if_pos hv).trans ((if_neg hr).trans ((if_neg hz).trans ((if_pos hf).trans (if_neg hq))))]
       exact RM.i0
     ·refine Br.no ((Qhq _ _ _).trans (Qq hf)) (Go0 ?_)
      refine CallN.pureA QdB (Qds s.cfg s.free s.host s.lane true hs.free ) (Go0 ?_)
      refine DNode.intro (DSpec.of_vc hΓ Tryz.func103 7 4 [] Tryz.ntmps103 ?_)
      refine Go0 ?_
      refine Br.no rfl (Go0 ?_)
      rw [show Qae s true = (Qcu s (Qa5 s.cfg s.free s.host s.lane true).1, 0) from (if_pos hv).trans ((if_neg hr).trans ((if_neg hz).trans (if_neg hf)))]
      exact RM.i0
  | false =>
   refine CallN.autoQ [1] QcC (Qdz s.cells 17 false) (Go0 ?_)
   refine Dr.mk hΓ hMix (by kernel_rfl) (Go0 ?_)
   refine CallP.auto Qd1 (QdX s s.lane hl.1.1 hl.1.2 hl.2.1.1 hl.2.1.2 hl.2.2.2 ) (Go0 ?_)
   by_cases hr : QcX s s.lane = true
   ·refine Br.yes hr (Go0 ?_)
    refine DNode.intro (DSpec.of_vc hΓ Tryz.func103 7 3 [] Tryz.ntmps103 ?_)
    refine Go0 ?_
    refine Br.no rfl (Go0 ?_)
    rw [show Qae s false = (s, 0) from (if_pos hv).trans (if_pos hr)]
    exact RM.i0
   ·refine Br.no (Qq hr) (Go0 ?_)
    refine Br.no (by cases decide (s.lane < 0) <;> rfl) ?_
    refine Go0 ?_
    by_cases hz : s.lane < 0
    ·refine Br.yes (decide_eq_true hz) (Go0 ?_)
     refine CallN.pureA Qlj (Qly s.cfg s.free s.host s.lane hs.free ) (Go0 ?_)
     by_cases ht : (QaU s.cfg s.free s.host s.lane).2 = true
     ·refine Br.no (by rw [ht]; rfl) (Go0 ?_)
      refine DNode.intro (DSpec.of_vc hΓ Tryz.func103 7 3 [] Tryz.ntmps103 ?_)
      refine Go0 ?_
      refine Br.no rfl (Go0 ?_)
      rw [show Qae s false = (Qcu s (QaU s.cfg s.free s.host s.lane).1, 0) from (if_pos hv).trans ((if_neg hr).trans ((if_pos hz).trans (if_pos ht)))]
      exact RM.i0
     ·refine Br.yes (by rw [Qq ht]; rfl) (Go0 ?_)
      refine DNode.intro (DSpec.of_vc hΓ Tryz.func103 7 3 [] Tryz.ntmps103 ?_)
      refine Go0 ?_
      refine Br.yes rfl (Go0 ?_)
      refine CallN.pureA Qba (Qbc s hs ) (Go0 ?_)
      rw [show Qae s false = (s, 7) from (if_pos hv).trans ((if_neg hr).trans ((if_pos hz).trans (if_neg ht)))]
      exact RM.i0
    ·refine Br.no (decide_eq_false hz) (Go0 ?_)
     have hz0 : 0 ≤ s.lane := by omega
     have hz1 : s.lane < s.dev.zones.length := hl.2.2.2
     refine Dr.mk hΓ hMix (by kernel_rfl) (Go0 ?_)
     have w0 := Qa (s.dev.size - 1) (by omega) (by omega)
     rw [w0]
     by_cases hf : Qi6 s s.lane = true
     ·refine Br.yes ((Qhq _ _ _).trans hf) (Go0 ?_)
      refine Dr.mkE hΓ hMix [] [(8, 10)] (by kernel_rfl) (Go0 ?_)
      refine CallP.auto Qhd (Qg2 s.dev s.lane hs.dev hz0 hz1 ) (Go0 ?_)
      by_cases hq : (finM s.dev s.lane).2 = 0
      ·refine Br.no (by rw [hq]; rfl) (Go0 ?_)
       refine CallN.pureA QdB (Qds s.cfg s.free s.host s.lane false hs.free ) (Go0 ?_)
       refine DNode.intro (DSpec.of_vc hΓ Tryz.func103 7 4 [] Tryz.ntmps103 ?_)
       refine Go0 ?_
       refine Br.no rfl (Go0 ?_)
       rw [show Qae s false = (Qcu { s with dev := (finM s.dev s.lane).1 } (Qa5 s.cfg s.free s.host s.lane false).1, 0) from (if_pos hv).trans ((if_neg hr).trans ((if_neg hz).trans ((if_pos hf).trans (if_pos hq))))]
       exact RM.i0
      ·refine Br.yes (bne_iff_ne.2 hq) (Go0 ?_)
       refine DNode.intro (DSpec.of_vc hΓ Tryz.func103 7 4 [] Tryz.ntmps103 ?_)
       refine Go0 ?_
       refine Br.yes rfl (Go0 ?_)
       refine CallN.pureA Qba (Qbc s hs ) (Go0 ?_)
       rw [show Qae s false = (s, 6) from (if_pos hv).trans ((if_neg hr).trans ((if_neg hz).trans ((if_pos hf).trans (if_neg hq))))]
       exact RM.i0
     ·refine Br.no ((Qhq _ _ _).trans (Qq hf)) (Go0 ?_)
      refine CallN.pureA QdB (Qds s.cfg s.free s.host s.lane false hs.free ) (Go0 ?_)
      refine DNode.intro (DSpec.of_vc hΓ Tryz.func103 7 4 [] Tryz.ntmps103 ?_)
      refine Go0 ?_
      refine Br.no rfl (Go0 ?_)
      rw [show Qae s false = (Qcu s (Qa5 s.cfg s.free s.host s.lane false).1, 0) from (if_pos hv).trans ((if_neg hr).trans ((if_neg hz).trans (if_neg hf)))]
      exact RM.i0
 ·refine Br.yes (by rw [Qq hv]; rfl) (Go0 ?_)
  refine DNode.intro (DSpec.of_vc hΓ Tryz.func103 7 3 [] Tryz.ntmps103 ?_)
  refine Go0 ?_
  refine Br.yes rfl (Go0 ?_)
  refine CallN.pureA Qba (Qbc s hs ) (Go0 ?_)
  rw [show Qae s b = (s, 6) from if_neg hv]
  exact RM.i0
theorem QiL : HB 31 := hB Tryz.func31
end Go.Proofs
end

section
open Go Go.Am
namespace Go.Proofs
set_option maxRecDepth 20000
structure Fl (i : Nat) (s : St) : Prop where
 val : Val s
 dev : DevQ s.dev [s.host, s.lane]
 free : ∀ z ∈ s.free, (zAt s.dev z).state = 0
 nf : ∀ z, z = s.host ∨ z = s.lane → 0 ≤ z → (zAt s.dev z).state ≠ 4
 pend : ∀ j, s.pend.getD j default ≤ i
 rets : s.rets.length ≤ 1000000
 evs : s.evs.length ≤ 1000000
 ents : s.sav.ents.length ≤ 1000000
 recs : s.sav.recs.length ≤ 1000000
variable {i : Nat} {s : St} {b : Bool}
theorem Fl.small (h : Fl i s) : s.small := h.val.small h.rets h.evs h.ents h.recs
theorem Fl.up (h : Fl i s) : Fl (i + 1) s := ⟨h.val, h.dev, h.free, h.nf, fun j => by have := h.pend j; omega, h.rets, h.evs, h.ents, h.recs⟩
theorem Fl.ok (h : Fl i s) : QaI s = true := validS_V.2 h.val
theorem Gl.fl {c : Conf} {n : Int} (h : Gl c n 32 s) : Fl 0 s :=
 ⟨h.gd.val, h.lq.dev, h.lq.free, h.nf, fun j => by rw [h.lq.pend j]; exact Int.le_refl _, Nat.le_trans h.gd.rets (by decide), Nat.le_trans h.gd.evs (by decide), by rw [h.gd.sav]; decide, by rw [h.gd.sav]; decide⟩
theorem Fl.zlt (h : Fl i s) {z : Int} (hz : z = s.host ∨ z = s.lane) : -1 ≤ z ∧ z < s.dev.zones.length := by
 rcases hz with rfl | rfl
 ·exact (Qbp h.ok true).2.2
 ·exact (Qbp h.ok false).2.2
theorem QbS (s : St) (b : Bool) : Qk s b = s.host ∨ Qk s b = s.lane := by
 cases b
 ·exact .inr rfl
 ·exact .inl rfl
theorem Fl.mem (h : Fl i s) (b : Bool) : Qk s b ∈ [s.host, s.lane] := by
 rcases QbS s b with q | q <;> rw [q] <;> simp
theorem Fl.full (h : Fl i s) (h0 : 0 ≤ Qk s b) (hr : QcX s (Qk s b) = false) : ((zAt s.dev (Qk s b)).sectors.length : Int) + 1 = s.dev.size ∧ (zAt s.dev (Qk s b)).state = 1 := by
 have hz := h.zlt (QbS s b)
 have h4 := h.nf _ (QbS s b) h0
 have hlt : (Qk s b).toNat < s.dev.zones.length := by omega
 have hs := h.dev.size
 unfold QcX at hr
 rw [decide_eq_true h0, Bool.true_and] at hr
 have hge : ¬ ((zAt s.dev (Qk s b)).sectors.length : Int) < s.dev.size - 1 := fun q => by
  unfold zAt at q h4
  rw [decide_eq_true q, decide_eq_true h4] at hr
  cases hr
 have hst : (zAt s.dev (Qk s b)).state = 1 := by
  rcases h.dev.st _ hlt with q | q | q
  ·have := h.dev.empty hlt q
   unfold zAt at hge
   omega
  ·exact q
  ·exact absurd q h4
 have := (h.dev.ok.all.get hlt).part (by unfold zAt at hst; omega) h4 (by unfold zAt at hst; omega)
 unfold zAt at *
 exact ⟨by omega, hst⟩
theorem Qkp {c : Conf} {f : List Int} {a l : Int} (h : PoolOk c f a l) (hf : 0 < f.length) : PoolOk c (f.drop 1) (f.getD 0 default) l ∧ PoolOk c (f.drop 1) a (f.getD 0 default) := by
 cases f with
 | nil => cases hf
 | cons x r =>
  have hx := h.data x (List.mem_cons_self ..)
  have h0 := QaC hx
  have hp := List.pairwise_cons.1 h.asc
  have nx : x ∉ r := fun q => by have := hp.1 x q; omega
  have sub : ∀ y ∈ r, Qam c y = true := fun y hy => h.data y (List.mem_cons_of_mem _ hy)
  refine ⟨⟨h.cfg, sub, hp.2, .inr ⟨hx, nx⟩, h.lane.imp id fun q => ⟨q.1, fun w => q.2 (List.mem_cons_of_mem _ w)⟩, .inr fun q => ?_⟩, ⟨h.cfg, sub, hp.2, h.host.imp id fun q => ⟨q.1, fun w => q.2 (List.mem_cons_of_mem _ w)⟩, .inr ⟨hx, nx⟩, ?_⟩⟩
  ·rcases h.lane with w | w
   ·change x = l at q; omega
   ·exact w.2 (by rw [← q]; exact List.mem_cons_self ..)
  ·rcases h.host with w | w
   ·exact .inl w
   ·exact .inr fun q => w.2 (by rw [q]; exact List.mem_cons_self ..)
theorem Fl.prep (h : Fl i s) (b : Bool) : ((Qae s b).2 = 7 ∧ Qk s b = -1 ∧ (s.free.length : Int) ≤ 2 ∧ (b = true ∨ s.free.length = 0)) ∨
  ((Qae s b).2 = 0 ∧ Fl i (Qae s b).1 ∧ (Qae s b).1.cfg = s.cfg ∧ (Qae s b).1.dev.zones.length = s.dev.zones.length ∧ (0 ≤ Qk s b → Qk (Qae s b).1 b ≠ Qk s b → (zAt (Qae s b).1.dev (Qk s b)).state = 4 ∧ ((zAt (Qae s b).1.dev (Qk s b)).sectors.length : Int) = s.cfg.size ∧ Qfm (zAt (Qae s b).1.dev (Qk s b)) = true)) := by
 have hz := h.zlt (QbS s b)
 have hpl := h.val.pool
 unfold Qae
 rw [if_pos h.ok]
 by_cases hr : QcX s (Qk s b) = true
 ·rw [if_pos hr]
  exact .inr ⟨rfl, h, rfl, rfl, fun _ q => absurd rfl q⟩
 ·rw [if_neg hr]
  by_cases hn : Qk s b < 0
  ·rw [if_pos hn]
   have hm1 : Qk s b = -1 := by omega
   by_cases ht : (QfL s b).2 = true
   ·rw [if_pos ht]
    cases b with
    | true =>
     have hh : s.host = -1 := hm1
     have e : QfL s true = ((QdC s.free 2, QcD s.free 2, s.lane), decide ((2 : Int) < s.free.length)) := by show Qcp _ _ _ _ = _; unfold Qcp; exact if_pos ⟨poolOk_P.2 hpl, hh⟩
     rw [e] at ht ⊢
     have hl : (2 : Int) < s.free.length := of_decide_eq_true ht
     have e1 : QdC s.free 2 = s.free.drop 1 := if_neg (by omega)
     have e2 : QcD s.free 2 = s.free.getD 0 default := if_neg (by omega)
     rw [e1, e2]
     have hf0 := free0 (s := s) (by omega)
     have hst := h.free _ hf0
     refine .inr ⟨rfl, ⟨h.val.withPool (Qkp hpl (by omega)).1, h.dev.mono fun j _ _ hj => ?_, fun z hz => h.free z (List.mem_of_mem_drop hz), fun z hz h0 => ?_, h.pend, h.rets, h.evs, h.ents, h.recs⟩, rfl, rfl, fun q => by omega⟩
     ·rcases List.mem_cons.1 hj with q | q
      ·omega
      ·exact List.mem_cons_of_mem _ q
     ·rcases hz with rfl | rfl
      ·show (zAt s.dev (s.free.getD 0 default)).state ≠ 4
       rw [hst]; decide
      ·exact h.nf _ (.inr rfl) h0
    | false =>
     have hh : s.lane = -1 := hm1
     have e : QfL s false = ((QdC s.free 0, s.host, QcD s.free 0), decide ((0 : Int) < s.free.length)) := by show QaU _ _ _ _ = _; unfold QaU; exact if_pos ⟨poolOk_P.2 hpl, hh⟩
     rw [e] at ht ⊢
     have hl : (0 : Int) < s.free.length := of_decide_eq_true ht
     have e1 : QdC s.free 0 = s.free.drop 1 := if_neg (by omega)
     have e2 : QcD s.free 0 = s.free.getD 0 default := if_neg (by omega)
     rw [e1, e2]
     have hf0 := free0 (s := s) (by omega)
     have hst := h.free _ hf0
     refine .inr ⟨rfl, ⟨h.val.withPool (Qkp hpl (by omega)).2, h.dev.mono fun j _ _ hj => ?_, fun z hz => h.free z (List.mem_of_mem_drop hz), fun z hz h0 => ?_, h.pend, h.rets, h.evs, h.ents, h.recs⟩, rfl, rfl, fun q => by omega⟩
     ·rcases List.mem_cons.1 hj with q | q
      ·rw [q]; exact List.mem_cons_self ..
      ·have := List.mem_singleton.1 q; omega
     ·rcases hz with rfl | rfl
      ·exact h.nf _ (.inl rfl) h0
      ·show (zAt s.dev (s.free.getD 0 default)).state ≠ 4
       rw [hst]; decide
   ·rw [if_neg ht]
    refine .inl ⟨rfl, hm1, ?_⟩
    cases b with
    | true =>
     have hh : s.host = -1 := hm1
     have e : QfL s true = ((QdC s.free 2, QcD s.free 2, s.lane), decide ((2 : Int) < s.free.length)) := by show Qcp _ _ _ _ = _; unfold Qcp; exact if_pos ⟨poolOk_P.2 hpl, hh⟩
     rw [e] at ht
     have : ¬ (2 : Int) < s.free.length := fun q => ht (decide_eq_true q)
     exact ⟨by omega, .inl rfl⟩
    | false =>
     have hh : s.lane = -1 := hm1
     have e : QfL s false = ((QdC s.free 0, s.host, QcD s.free 0), decide ((0 : Int) < s.free.length)) := by show QaU _ _ _ _ = _; unfold QaU; exact if_pos ⟨poolOk_P.2 hpl, hh⟩
     rw [e] at ht
     have : ¬ (0 : Int) < s.free.length := fun q => ht (decide_eq_true q)
     exact ⟨by omega, .inr (by omega)⟩
  ·rw [if_neg hn]
   have h0 : 0 ≤ Qk s b := by omega
   obtain ⟨f1, f2⟩ := h.full h0 (Qq hr)
   have hlt : (Qk s b).toNat < s.dev.zones.length := by omega
   have hds := h.dev.size
   have hfl : Qi6 s (Qk s b) = true := by
    unfold Qi6
    unfold zAt at f1 f2
    rw [decide_eq_true (by omega), decide_eq_true (by omega)]
    rfl
   rw [if_pos hfl]
   have hsec := h.dev.secs _ hlt (by unfold zAt at f2; omega)
   have hlen : (s.dev.zones.getD (Qk s b).toNat default).sectors.length = (zAt s.dev (Qk s b)).sectors.length := rfl
   have hm := Qg7 hsec (by omega) (by omega)
   have hmem := h.mem b
   generalize hZ : Qk s b = z at *
   have h4 : (zAt s.dev z).state ≠ 4 := by omega
   obtain ⟨a1, a2, a3, a4⟩ := h.dev.app (by simp) hmem h0 hz.2 h4 (Qai hm.2)
   have a5 := h.dev.app2 (by simp) hmem h0 hz.2 h4 (Qai hm.2) (.inl f1)
   have hfin : finM s.dev z = (Qf s.dev z (encR (QU (s.dev.zones.getD z.toNat default).sectors)), 0) := by
    unfold finM
    rw [if_neg (by rw [hm.1]; decide), if_neg (by rw [hm.2]; decide), a1]
   rw [hfin]
   rw [if_pos rfl]
   have hz0 : z ≠ -1 := by omega
   have hlv : Qa5 s.cfg s.free s.host s.lane b = (if b = true then (s.free, -1, s.lane) else (s.free, s.host, -1), true) := by
    unfold Qa5
    refine if_pos ⟨poolOk_P.2 hpl, ?_⟩
    rw [show (if b = true then s.host else s.lane) = Qk s b from rfl, hZ]
    exact hz0
   rw [hlv]
   have hvd : Val { s with dev := Qf s.dev z (encR (QU (s.dev.zones.getD z.toNat default).sectors)) } := h.val.put z _
   have hns : (zAt (Qf s.dev z (encR (QU (s.dev.zones.getD z.toNat default).sectors))) z) = grow (zAt s.dev z) s.dev.size (encR (QU (s.dev.zones.getD z.toNat default).sectors)) := by
    rw [a2, QcR h0 hz.2, if_pos rfl]
   have hst4 : (zAt (Qf s.dev z (encR (QU (s.dev.zones.getD z.toNat default).sectors))) z).state = 4 := by
    rw [hns, Qhr (.inr f2), if_pos f1]
   have hother : ∀ y, 0 ≤ y → y ≠ z → zAt (Qf s.dev z (encR (QU (s.dev.zones.getD z.toNat default).sectors))) y = zAt s.dev y := fun y hy hyz => by
    rw [a2, QcR h0 hz.2, if_neg (by omega)]
   have hfree0 : ∀ y ∈ s.free, 0 ≤ y := fun y hy => (QaC (hpl.data y hy)).1
   have hnfree : z ∉ s.free := fun q => by have := h.free z q; omega
   have hkeep : ∀ y ∈ s.free, (zAt (Qf s.dev z (encR (QU (s.dev.zones.getD z.toNat default).sectors))) y).state = 0 := fun y hy => by
    rw [hother y (hfree0 y hy) (fun q => hnfree (q ▸ hy))]; exact h.free y hy
   have hsum : (zAt (Qf s.dev z (encR (QU (s.dev.zones.getD z.toNat default).sectors))) z).state = 4 ∧ ((zAt (Qf s.dev z (encR (QU (s.dev.zones.getD z.toNat default).sectors))) z).sectors.length : Int) = s.cfg.size ∧ Qfm (zAt (Qf s.dev z (encR (QU (s.dev.zones.getD z.toNat default).sectors))) z) = true := by
    refine ⟨hst4, ?_, ?_⟩
    ·rw [hns, QdT, List.length_append, ← h.val.parts.size]
     simp only [List.length_cons, List.length_nil]
     omega
    ·rw [hns]
     unfold Qfm
     rw [QdT]
     have e1 : ((zAt s.dev z).sectors ++ [encR (QU (s.dev.zones.getD z.toNat default).sectors)]).length - 1 = (zAt s.dev z).sectors.length := by simp
     rw [e1, List.take_left' rfl]
     have e2 : ((zAt s.dev z).sectors ++ [encR (QU (s.dev.zones.getD z.toNat default).sectors)]).getD (zAt s.dev z).sectors.length default = encR (QU (s.dev.zones.getD z.toNat default).sectors) := by
      simp only [List.getD]
      rw [List.getElem?_append_right (Nat.le_refl _), Nat.sub_self]
      rfl
     rw [e2, show (zAt s.dev z).sectors = (s.dev.zones.getD z.toNat default).sectors from rfl, decide_eq_true hm.1, decide_eq_true rfl]
     rfl
   have hlen2 := Qa7 s.dev z (encR (QU (s.dev.zones.getD z.toNat default).sectors))
   clear hns a1 a2 a3 hfin
   generalize Qf s.dev z (encR (QU (s.dev.zones.getD z.toNat default).sectors)) = D at *
   refine .inr ⟨rfl, ?_, by cases b <;> rfl, ?_, fun _ _ => ?_⟩
   ·cases b with
    | true =>
     have hh : s.host = z := hZ
     refine ⟨hvd.withPool ⟨hpl.cfg, hpl.data, hpl.asc, .inl rfl, hpl.lane, .inl rfl⟩, a5.mono fun j _ hs1 hj => ?_, hkeep, fun y hy hy0 => ?_, h.pend, h.rets, h.evs, h.ents, h.recs⟩
     ·rcases List.mem_cons.1 hj with q | q
      ·rw [hh] at q
       have : (zAt D z).state = 1 := by unfold zAt; rw [show z.toNat = j by omega]; exact hs1
       omega
      ·exact List.mem_cons_of_mem _ q
     ·rcases hy with rfl | rfl
      ·exact absurd (show (0 : Int) ≤ -1 from hy0) (by decide)
      ·have hne : s.lane ≠ z := fun q => by
        rcases hpl.ne with w | w
        ·omega
        ·exact w (hh.trans q.symm)
       show (zAt D s.lane).state ≠ 4
       rw [hother s.lane hy0 hne]
       exact h.nf _ (.inr rfl) hy0
    | false =>
     have hh : s.lane = z := hZ
     refine ⟨hvd.withPool ⟨hpl.cfg, hpl.data, hpl.asc, hpl.host, .inl rfl, ?_⟩, a5.mono fun j _ hs1 hj => ?_, hkeep, fun y hy hy0 => ?_, h.pend, h.rets, h.evs, h.ents, h.recs⟩
     ·by_cases q : s.host = -1
      ·exact .inl q
      ·exact .inr q
     ·rcases List.mem_cons.1 hj with q | q
      ·rw [q]; exact List.mem_cons_self ..
      ·have q := List.mem_singleton.1 q
       rw [hh] at q
       have : (zAt D z).state = 1 := by unfold zAt; rw [show z.toNat = j by omega]; exact hs1
       omega
     ·rcases hy with rfl | rfl
      ·have hne : s.host ≠ z := fun q => by
        rcases hpl.ne with w | w
        ·change 0 ≤ s.host at hy0; omega
        ·exact w (q.trans hh.symm)
       show (zAt D s.host).state ≠ 4
       rw [hother s.host hy0 hne]
       exact h.nf _ (.inl rfl) hy0
      ·exact absurd (show (0 : Int) ≤ -1 from hy0) (by decide)
   ·cases b <;> exact hlen2
   ·cases b <;> exact hsum
theorem Fl.app (h : Fl i s) (hi : i ≤ 1000) (hr : Qb5 s b = true) {r : Rec} (hc : Qm r = 0) (hb : QbB r = true) :
  appS s b r = ({ s with dev := Qf s.dev (Qk s b) (encR r), pend := (QaG s.live s.pend (Qk s b)).1 }, Qk s b, ((zAt s.dev (Qk s b)).sectors.length : Int), true) ∧ Fl (i + 1) (appS s b r).1 ∧ 0 ≤ Qk s b := by
 have hz := h.zlt (QbS s b)
 have hrm : QcX s (Qk s b) = true := by
  unfold Qb5 at hr
  rw [h.ok] at hr
  exact hr
 have h0 : 0 ≤ Qk s b ∧ ((zAt s.dev (Qk s b)).sectors.length : Int) < s.dev.size - 1 := by
  unfold QcX at hrm
  simp only [Bool.and_eq_true, decide_eq_true_eq] at hrm
  exact ⟨hrm.1, hrm.2.1⟩
 have hmem := h.mem b
 have h4 := h.nf _ (QbS s b) h0.1
 have hcnt := countsOk_iff.1 h.val.parts.counts
 have hlive := h.val.parts.live
 have hzn := h.val.parts.zones
 obtain ⟨a1, a2, a3, a4⟩ := h.dev.app (by simp) hmem h0.1 hz.2 h4 (Qai hc)
 have a5 := h.dev.app2 (by simp) hmem h0.1 hz.2 h4 (Qai hc) (.inr (QjM hc hb).1)
 have hbg : QaG s.live s.pend (Qk s b) = (s.pend.set (Qk s b).toNat (s.pend.getD (Qk s b).toNat default + 1), true) := by
  unfold QaG
  refine if_pos ⟨h.val.parts.counts, h0.1, by omega, ?_⟩
  have := h.pend (Qk s b).toNat
  omega
 have e : appS s b r = ({ s with dev := Qf s.dev (Qk s b) (encR r), pend := (QaG s.live s.pend (Qk s b)).1 }, Qk s b, ((zAt s.dev (Qk s b)).sectors.length : Int), true) := by
  unfold appS
  rw [if_pos ⟨⟨hc, hr⟩, a1, by rw [hbg]⟩, a3]
 refine ⟨e, ?_, h0.1⟩
 rw [e, hbg]
 dsimp only
 generalize Qk s b = z at *
 have hlt : z.toNat < s.dev.zones.length := by omega
 have hst : (zAt s.dev z).state = 0 ∨ (zAt s.dev z).state = 1 := by
  rcases h.dev.st z.toNat hlt with q | q | q
  ·exact .inl q
  ·exact .inr q
  ·exact absurd q h4
 have hpr : ∀ j, (s.pend.set z.toNat (s.pend.getD z.toNat default + 1)).getD j default ≤ ((i + 1 : Nat) : Int) := fun j => by
  by_cases hp : z.toNat < s.pend.length
  ·rw [QbA hp]
   split
   ·have := h.pend z.toNat; omega
   ·have := h.pend j; omega
  ·rw [List.set_eq_of_length_le (by omega)]
   have := h.pend j; omega
 have hpc : Qr s.live (s.pend.set z.toNat (s.pend.getD z.toNat default + 1)) = true := by
  have hat := Qhv h.val.parts.counts
  unfold Qr
  refine (Bool.and_eq_true _ _).mpr ⟨decide_eq_true ⟨by rw [List.length_set]; exact hcnt.1.1, hcnt.1.2⟩, decide_eq_true fun j hj => ⟨(hat j hj).1, (hat j hj).2.1, ?_, by have := hpr j; omega⟩⟩
  by_cases hp : z.toNat < s.pend.length
  ·rw [QbA hp]
   split
   ·have := (hat z.toNat (by omega)).2.2.1; omega
   ·exact (hat j hj).2.2.1
  ·rw [List.set_eq_of_length_le (by omega)]
   exact (hat j hj).2.2.1
 have hpl := h.val.pool
 have hfree0 : ∀ y ∈ s.free, 0 ≤ y := fun y hy => (QaC (hpl.data y hy)).1
 have hvp : Val { s with pend := s.pend.set z.toNat (s.pend.getD z.toNat default + 1) } := h.val.withPend hpc
 refine ⟨hvp.put z r, a5, fun y hy => ?_, fun y hy hy0 => ?_, hpr, h.rets, h.evs, h.ents, h.recs⟩
 ·have h2 := h.free y hy
  have hpl2 : (y : Int) ≠ z ∨ y = z := by omega
  rcases hpl2 with q | q
  ·rw [a2, QcR h0.1 hz.2, if_neg (by have := hfree0 y hy; omega)]; exact h2
  ·
   exfalso
   rcases List.mem_cons.1 hmem with w | w
   ·rcases hpl.host with v | v
    ·omega
    ·exact v.2 (by rw [← w, ← q]; exact hy)
   ·have w := List.mem_singleton.1 w
    rcases hpl.lane with v | v
    ·omega
    ·exact v.2 (by rw [← w, ← q]; exact hy)
 ·show (zAt (Qf s.dev z (encR r)) y).state ≠ 4
  by_cases q : y = z
  ·rw [q, a2, QcR h0.1 hz.2, if_pos rfl, Qhr hst, if_neg (by omega)]; decide
  ·rw [a2, QcR h0.1 hz.2, if_neg (by omega)]
   exact h.nf y hy hy0
end Go.Proofs
end

section
open Go Go.Am
namespace Go.Proofs
set_option maxRecDepth 20000
def la0 : St := Qs (Q7 dice0)
def lr1 : Rec := ⟨2, 0, 1, 0, ByteArray.empty⟩
def la1 : St := (Qae la0 true).1
def la2 : St := (appS la1 true lr1).1
theorem lf0 : (Qae la0 true).2 = 0 := by decide +kernel
theorem lf1 : appS la0 true lr1 = (la0, 0, 0, false) := if_neg fun q => by
 have : Qb5 la0 true = false := by decide +kernel
 rw [this] at q
 exact absurd q.1.2 (by decide)
theorem lf2 : (appS la1 true lr1).2.2.2 = true := by decide +kernel
theorem lf3 : (appS la1 true lr1).2.1 = la1.host := by decide +kernel
theorem lf4 : 0 < la1.host ∧ la1.host < la2.pend.length ∧ la2.pend.getD la1.host.toNat default = 1 := by decide +kernel
theorem lf5 : Qb5 la1 true = true ∧ Qb5 la0 true = false := by decide +kernel
theorem lfl0 : Fl 0 la0 := ((Qie (QfV dice0)).1.weak (Int.le_refl _) (by decide : 0 ≤ 32)).fl
theorem lfl1 : Fl 0 la1 := by
 rcases lfl0.prep true with h | h
 ·rw [lf0] at h; exact absurd h.1 (by decide)
 ·exact h.2.1
set_option maxHeartbeats 4000000 in
theorem Qey : PS 29 [] (.c (.bool true)) := by
 have hn : PS 55 [.a (Q7 dice0).cells] (.t [.inr la0.cells, .inl (.int .i64 0)]) := Qna (Q7 dice0) (QfV dice0)
 have h1 := QiE la0 lfl0.small _ lfl0.val.all true
 rw [show Qae la0 true = (la1, 0) by rw [← lf0]; rfl] at h1
 have h2 := QeP la1 lfl1.small _ lfl1.val.all true lr1
 rw [show appS la1 true lr1 = (la2, la1.host, (appS la1 true lr1).2.2.1, true) by rw [← lf2, ← lf3]; rfl] at h2
 dsimp only at h2
 have h3 := QeP la0 lfl0.small _ lfl0.val.all true lr1
 rw [lf1] at h3
 have h4 := Qc8 la1 lfl1.small _ lfl1.val.all true
 rw [lf5.1] at h4
 have h5 := Qc8 la0 lfl0.small _ lfl0.val.all true
 rw [lf5.2] at h5
 have h6 := lf4
 generalize (appS la1 true lr1).2.2.1 = off at *
 generalize la2 = s2 at *
 generalize la1 = s1 at *
 generalize la0 = s0 at *
 refine PSpec.rm ?_
 refine ov hΓ Tryz.func29 86 0 [.tmp 0] Tryz.ntmps29 Tryz.results29 ?_
 ((conv=>whnf);(repeat' ((first|refine Nd ?_|refine Hv fun _h=>?_);conv=>whnf)))
 refine CallN.autoQ [] Qkm (Qk3 [] (Nat.zero_le _)) ?_; conv=>whnf
 ((conv=>whnf);(repeat' ((first|refine Nd ?_|refine Hv fun _h=>?_);conv=>whnf)))
 refine CallN.autoQ [0] Qjs (QiT dice0 Qte) ?_; conv=>whnf
 ((conv=>whnf);(repeat' ((first|refine Nd ?_|refine Hv fun _h=>?_);conv=>whnf)))
 refine CallN.pureA Qm6 hn ?_
 ((conv=>whnf);(repeat' ((first|refine Nd ?_|refine Hv fun _h=>?_);conv=>whnf)))
 refine CallN.pureA QiL h1 ?_
 ((conv=>whnf);(repeat' ((first|refine Nd ?_|refine Hv fun _h=>?_);conv=>whnf)))
 refine CallN.pureA QeI h2 ?_
 ((conv=>whnf);(repeat' ((first|refine Nd ?_|refine Hv fun _h=>?_);conv=>whnf)))
 refine CallN.pureA QeI h3 ?_
 ((conv=>whnf);(repeat' ((first|refine Nd ?_|refine Hv fun _h=>?_);conv=>whnf)))
 refine CallG.auto QcZ (fun _ => h4) ?_
 ((conv=>whnf);(repeat' ((first|refine Nd ?_|refine Hv fun _h=>?_);conv=>whnf)))
 refine CallG.auto QcZ (fun _ => h5) ?_
 ((conv=>whnf);(repeat' ((first|refine Nd ?_|refine Hv fun _h=>?_);conv=>whnf)))
 refine RM.i1 ?_
 obtain ⟨q1, q2, q3⟩ := h6
 dsimp only
 rw [q3, decide_eq_true (show (s2.pend.length : Int) > s1.host from q2), decide_eq_true (show s1.host > 0 from q1), beq_self_eq_true s1.host]
 rfl
theorem Qc4 (s : St) (b : Bool) : PS 30 [.a s.cells, .c (.bool b)] (.c (.int .i64 (Qk s b))) := QnS s b
theorem Qc5 : HB 30 := QnJ
theorem QeC : HB 29 := hB Tryz.func29
theorem WC.fz2I {ρ : Nat → Nat} {n : Nat} {id m id2 m2 : Nat} {g g2 : Nat → Nat → C} {c : C} (h : c.imm = true) : WC ρ n (fzC id m g (fzC id2 m2 g2 c)) c := by
 cases c with
 | ptr => cases h
 | ep => cases h
 | sl => cases h
 | mpr => cases h
 | fn f k g =>
  have : k = 0 := Nat.eq_of_beq_eq_true h
  exact ⟨⟨rfl, rfl, fun j hj => by omega⟩⟩
 | _ => exact WC.imm rfl
set_option maxHeartbeats 4000000 in
theorem Qpv (c : Conf) (d : Dev) (h : QB c = 0) : CS 139 [.a c.cells, .a d.cells] [] fun x H => x = .a ((Qcl c d).cellsK 0) ∧ H = [(Qcl c d).wobj] := by
 refine CSpec.rm ?_
 have hr := (QR h).1
 have hq := confR_iff.1 hr
 have hs := Qak hr
 have hd := Qct hr
 have hd2 := (QR h).2.1
 have hdz : Qp c = c.zones - 2 * Qz c := rfl
 refine ov0 hΓ Tryz.func139 95 0 [.cell 4 58] Tryz.ntmps139 Tryz.results139 ?_
 refine CallN.pureA QfZ (QfS c h ) (Go0 ?_)
 refine CallN.pureA Qky (Qkx c.shards (by omega) (by omega) ) (Go0 ?_)
 refine CallN.pureA QiQ (Qi9 c.zones (by omega) (by omega) ) (Go0 ?_)
 refine CallN.pureA QiY (Qji c.shards (by omega) (by omega) ) (Go0 ?_)
 refine CallN.pureA QjB (QiR c.queues (by omega) (by omega) ) (Go0 ?_)
 refine Dr.mkY hΓ hMix [] [] [(11, 12)] (by kernel_rfl) (by kernel_rfl) (Go0 ?_)
 refine Lp.mkK hΓ (ι := Nat) [2, 4, 5, 15] (fun k => [(16, .c (.int .i64 k))]) (fun k => [.vr c.cells, .vr d.cells, .vr (default : St).cells, .vr (Lay.cells c), .vr [QC (Qs c).map], .vr [Qh (Qs c).live, Qh (Qs c).pend], .vr [Qh (Qs c).owner], .vr [.int .i64 0, Qh (Qs c).pins, retC []], .arr 94 12 c.queues.toNat (wrkG (Qs c).works), .vr ((Qcl c d).cellsZ .nils (QC (Qs c).map) (.sl 10 2 k k false) (.sl 8 12 c.queues.toNat c.queues.toNat false) (evC [])), .arr 164 2 k (rngG (List.replicate k ⟨c.depth, []⟩))]) (fun k => k ≤ c.queues.toNat) (fun k => c.queues.toNat - k) 0 (Nat.zero_le _) ?_ ?_
 ·refine (Mv.reserveO 9 20 164 2 (rngG []) rfl rfl rfl rfl).trans ?_
  refine Mv.k2 ?_ ?_
  ·exact fun i _ j hj => WC.eq (QoN rfl hj) (QaW _ _)
  ·exact WC.slA (hx := fun e => by cases e)
 ·intro q hq2
  refine Go0 ?_
  refine Br.of (fun h4=>Go0 ?_) (fun h4=>Go0 ?_)
  ·refine CallN.pureA Qi3 (Qjz c.depth (by omega) (by omega) ) (Go0 ?_)
   have w0 := Qa (↑q + 1) (by omega) (by omega)
   refine ⟨q + 1, by omega, by omega, ?_⟩
   refine Mv.k1 ?_
   ·intro i hi j hj
    exact WC.eq ((Qot (x := ⟨c.depth, []⟩) (by simp) (by simpa using hi) hj).trans (by rw [List.replicate_succ'])) (Qau _ _)
  ·have : q = c.queues.toNat := by omega
   subst this
   refine Lp.mkK hΓ (ι := Nat) [2, 4, 15] (fun k => [(19, .c (.int .i64 (2 * Qz c + (k : Nat))))]) (fun k => [.vr c.cells, .vr d.cells, .vr (default : St).cells, .vr (Lay.cells c), .vr [QC (Qs c).map], .vr [Qh (Qs c).live, Qh (Qs c).pend], .vr [Qh (Qs c).owner], .vr [.int .i64 0, Qh (Qs c).pins, retC []], .arr 94 12 c.queues.toNat (wrkG (Qs c).works), .vr ((Qcl c d).cellsZ (.sl 11 1 k k false) (QC (Qs c).map) (.sl 10 2 c.queues.toNat c.queues.toNat false) (.sl 8 12 c.queues.toNat c.queues.toNat false) (evC [])), .arr 164 2 c.queues.toNat (rngG (List.replicate c.queues.toNat ⟨c.depth, []⟩)), .arr 3 1 k (QaK .i64 (QbC c k))]) (fun k => k ≤ (Qp c).toNat) (fun k => (Qp c).toNat - k) 0 (Nat.zero_le _) ?_ ?_
   ·refine (Mv.reserveO 9 17 3 1 (QaK .i64 []) rfl rfl rfl rfl).trans ?_
    exact Mv.k0
   ·intro k hk
    refine Go0 ?_
    refine Br.of (fun h3=>Go0 ?_) (fun h3=>Go0 ?_)
    ·have w1 : IntKind.i64.wrap (2 * Qz c + ↑k + 1) = 2 * Qz c + ↑(k + 1) := by
      rw [Qa _ (by omega) (by omega)]; omega
     refine ⟨k + 1, by omega, by omega, ?_⟩
     refine Mv.k1 ?_
     ·intro i hi j hj
      rw [Qhw]
      exact WC.eq (Qh3 (QbT c k).symm (by rw [QbT]; exact hi) hj) rfl
    ·have : k = (Qp c).toNat := by omega
     subst this
     have hlen : (Qcl c d).works.length = c.queues.toNat := by simp [Qcl, Qs]
     unfold St.cellsK St.wobj
     rw [hlen]
     refine ⟨_, _, ?_, rfl, rfl⟩
     refine RM.fz 10 rfl (Nat.zero_le _) (fun _ _ _ _ => Qau _ _) ?_
     refine RM.fz 11 rfl (Nat.zero_le _) (fun _ _ _ _ => WC.fzI_imm rfl) ?_
     refine RM.renW [8] (by decide) ?_ ?_ <;> (first|exact wb0|refine wb1 ?_|refine wb2 ?_ ?_|refine wb3 ?_ ?_ ?_|refine wb4 ?_ ?_ ?_ ?_)
     ·exact fun i _ j _ => WC.fz2I (QaW _ _)
     ·exact WC.fz2b rfl rfl (QbT _ _).symm (fun _ _ _ _ => leF.fzI rfl)
     ·exact WC.fz2a rfl (by simp [Qcl, Qs]) (fun _ _ _ _ => leF.refl)
theorem QqF : HB 139 := hB Tryz.func139
theorem QrV (c : Conf) (h : QB c = 0) : CS 55 [.a c.cells] [] fun x H => x = .t [.inr ((Qs c).cellsK 0), .inl (.int .i64 0)] ∧ H = [(Qs c).wobj] := by
 refine CSpec.rm ?_
 have hr := (QR h).1
 have hq := confR_iff.1 hr
 refine ov0 hΓ Tryz.func55 28 0 [.cell 2 58, .tmp 3] Tryz.ntmps55 Tryz.results55 ?_
 refine CallN.pureA Qfg (Qfj c ) (Go0 ?_)
 refine Br.no (by simpa using h) (Go0 ?_)
 refine CallN.pureA Qgt (QgG c.zones c.size 3 3 (by omega) ) (Go0 ?_)
 refine Br.no (by simpa using Qhk h) (Go0 ?_)
 refine CallN.autoI [] QqF (Qpv c (newD c.zones c.size 3 3) h) plh (Go0 ?_)
 refine ⟨_, _, ?_, rfl, rfl⟩
 exact RM.renW [3] (by decide) wb0 wb0
theorem Qsf : HB 55 := hB Tryz.func55
end Go.Proofs
end
