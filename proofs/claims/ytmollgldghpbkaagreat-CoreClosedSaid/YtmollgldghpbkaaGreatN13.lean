/- Contracts, lemmas; no condition. -/
import Derived.Test.YtmollgldghpbkaaGreatNG
import Derived.Test.YtmollgldghpbkaaGreatF5
import Derived.Test.YtmollgldghpbkaaGreatCtC
import Derived.Test.YtmollgldghpbkaaGreatCtH
import Derived.Test.YtmollgldghpbkaaGreatGC
import Derived.Test.YtmollgldghpbkaaGreatKs
set_option linter.all false
section
open Go Go.Am
namespace Go.Proofs
set_option maxRecDepth 20000
set_option maxHeartbeats 8000000 in
theorem Qws (l : List Int) (qn : Int) (hq : 0 ≤ qn ∧ qn < 256) (x : Req) : PS 6 [.c (Qi l), .c (.int .u8 qn), .a [.int .i64 x.kind, .int .i64 x.block, .str x.data]] (.c (.bool true)) := by
 refine PSpec.rm ?_
 refine ov0 hΓ Tryz.func6 140 0 [.tmp 6] Tryz.ntmps6 Tryz.results6 ?_
 refine CallN.pureA QrK (QqZ l ) (Go0 ?_)
 by_cases hl : l.length ≤ 300 ∧ x.data.size ≤ 100
 ·refine Br.no (by rw [decide_eq_true hl.1]; exact decide_eq_false om) (Go0 ?_)
  refine CallN.exI [] QmP (QmD l hl.1) (fun _ => plh) (fun t ht => ?_); conv=>whnf
  have hr4 := ht.rings4
  refine Go0 ?_
  have hs := ht.close
  have hsm := hs.small
  have hall := hs.val.all
  have wq := Qa qn om om
  rw [wq]
  have q0 : 0 ≤ qn.tmod t.cfg.queues := Int.tmod_nonneg _ om
  have q1 : qn.tmod t.cfg.queues < t.cfg.queues := Int.tmod_lt_of_pos _ om
  generalize qn.tmod t.cfg.queues = q at *
  refine CallN.pureA Qn0 (Qox { t with closed := true } hsm (allM t.map) hall q x ) (Go1 fun _h=>?_)
  rw [Qwi hs rfl q0 (show q < (t.rings.length : Int) by omega) x]
  have hev := ht.evs
  have hse := ht.serial
  have hse2 := ht.val.parts.serial
  obtain ⟨e1, e2, e3⟩ := QwX (s := { t with closed := true }) (q := q) (x := x)
  have e1 : (Qwd { t with closed := true } q x).length = t.evs.length + 2 := e1
  have wn1 := Qa ((t.evs.length : Int) + 1) om om
  have wn2 := Qa ((t.evs.length : Int) + 2) om om
  have ws1 := Qa (t.serial + 1) om om
  have hcl : (Qv7 { t with closed := true } q x).evs.length = t.evs.length + 2 := e1
  have tn : ((t.evs.length : Int) + 1).toNat = t.evs.length + 1 := by omega
  have hg1 : (Qv7 { t with closed := true } q x).evs.getD (t.evs.length + 1) default = QN true q { x with serial := t.serial } 12 ByteArray.empty := e3
  have hg0 : (Qv7 { t with closed := true } q x).evs.getD t.evs.length default = QN false q { x with serial := t.serial } 0 ByteArray.empty := e2
  refine Dr.mk hΓ hMix (by kernel_rfl) (Go0 ?_)
  refine Br.no (by
   dsimp only
   rw [wn1, wn2, tn, Int.toNat_natCast, hg1, hg0, ws1, hcl]
   simp [QN, Qv7]) ?_
  refine Go0 ?_
  refine Dr.mkE hΓ hMix [] [(2, 5), (3, 5)] (by kernel_rfl) (Go0 ?_)
  refine CallN.pureA QwS (QwT { t with closed := true } { t with closed := true } hsm ) (Go0 ?_)
  refine Br.no (by simp) (Go0 ?_)
  have hsub : (QI { t with closed := true } q x).1 = Qv7 { t with closed := true } q x := by rw [Qwi hs rfl q0 (show q < (t.rings.length : Int) by omega) x]
  obtain ⟨hv2, hh2, hu2⟩ := QnB hs.val hs.hist (show t.rings.length ≤ 4 by omega) q x
  rw [hsub] at hv2
  have hsm2 : (Qv7 { t with closed := true } q x).small := hv2.small (by show t.rets.length ≤ 1000000; have := ht.rets; omega) om hsm.ents hsm.recs
  refine CallN.pureA Qqo (QqI (Qv7 { t with closed := true } q x) hsm2 (allM t.map) hv2.all q ) (Go0 ?_)
  have hbo : (Qn true (Qv7 { t with closed := true } q x) q).2 = (decide ((t.works.getD q.toNat default).state = 0) && decide (0 < (t.rings.getD q.toNat default).items.length)) := Qxm hv2 q0 (show q < (t.works.length : Int) by omega) (show q < (t.rings.length : Int) by omega)
  refine CallG.auto Qhl (fun _ => Qhf ) (Go0 ?_)
  refine RM.i1 ?_
  rw [hbo]
  by_cases c1 : (t.works.getD q.toNat default).state = 0
  ·rw [decide_eq_true c1, show ((t.works.getD q.toNat default).state == 0) = true by rw [c1]; rfl]
   by_cases c2 : 0 < (t.rings.getD q.toNat default).items.length
   ·rw [decide_eq_true c2, decide_eq_true (show ((t.rings.getD q.toNat default).items.length : Int) > 0 by omega)]; rfl
   ·rw [decide_eq_false c2, decide_eq_false (show ¬ ((t.rings.getD q.toNat default).items.length : Int) > 0 by omega)]; rfl
  ·rw [decide_eq_false c1, show ((t.works.getD q.toNat default).state == 0) = false from beq_eq_false_iff_ne.2 c1]; rfl
 ·refine Br.yes (by
   by_cases h1 : l.length ≤ 300
   ·have h2 : ¬ x.data.size ≤ 100 := fun z => hl ⟨h1, z⟩
    rw [decide_eq_true h1]
    exact decide_eq_true om
   ·rw [decide_eq_false h1]; rfl) ?_
  refine Go0 ?_
  refine CallN.pureA Qhl (Qhf ) (Go0 ?_)
  exact RM.i0
theorem Qw5 {s : St} (hs : s.small) (h : Qz s = true) : ({ s with dev := Qbn s.dev } : St).small :=
 ⟨(Qty (validS_V.1 h).sync.parts.dev).1, hs.map, hs.shard, hs.live, hs.pend, hs.owner, hs.pins, hs.rets, hs.free, hs.rings, hs.items, hs.works, hs.ents, hs.recs, hs.evs⟩
end Go.Proofs
end
