/- Contracts, lemmas; no condition. -/
import Derived.Test.YtmollgldghpbkaaGreatN17V
import Derived.Test.YtmollgldghpbkaaGreatNGV
set_option linter.all false
open Go Go.Am
namespace Go.Proofs
set_option maxRecDepth 20000
theorem QmF {s : St} (hs : s.small) (he : s.evs.length ≤ 999999) (q : Int) : (barS s q).1.small := by
 unfold barS
 split
 ·rename_i h
  have h2 := Qw5 hs (inQ_iff.1 h.1).1
  split
  ·exact hs
  ·split
   ·exact { hs with works := by show (s.works.set _ _).length ≤ _; rw [List.length_set]; exact hs.works }
   ·unfold QdM
    split
    ·exact { h2 with works := by show (s.works.set _ _).length ≤ _; rw [List.length_set]; exact hs.works, evs := by show (s.evs ++ [_]).length ≤ _; rw [List.length_append]; show s.evs.length + 1 ≤ _; omega }
    ·exact h2
 ·exact hs
set_option maxHeartbeats 2000000 in
theorem QfW (s : St) (hs : s.small) (he : s.evs.length ≤ 999999) (l : List Ent) (hall : Qu s.map = true → AllS s.map l) (q : Int) : PS 12 [.a s.cells, .c (.int .i64 q)] (.c (.bool true)) := by
 have hb := QmF hs he q
 refine PSpec.rm ?_
 refine ov0 hΓ Tryz.func12 38 0 [.tmp 4] Tryz.ntmps12 Tryz.results12 ?_
 refine CallN.pureA Qwc (Qwb s hs l hall q ) (Go0 ?_)
 refine CallN.pureA QlG (QlX s hs q ) (Go0 ?_)
 generalize barS s q = b at *
 refine Dr.mk hΓ hMix (by kernel_rfl) (Go0 ?_)
 refine CallP.autoG QwS (fun _ => QwT b.1 b.1 hb ) (Go0 ?_)
 refine CallP.autoG Qwg (fun _ => Qwh s hs l hall q ) (Go0 ?_)
 refine CallP.autoG Qhl (fun _ => Qhf s hs q ) (Go0 ?_)
 exact RM.i0
theorem QfX : HB 12 := hB Tryz.func12
set_option maxHeartbeats 8000000 in
theorem Qix (l : List Int) (queue what at_ by_ : Int) : PS 3 [.c (Qi l), .c (.int .i64 queue), .c (.int .i64 what), .c (.int .i64 at_), .c (.int .i64 by_)] (.c (.bool true)) := by
 refine PSpec.rm ?_
 refine ov0 hΓ Tryz.func3 48 0 [.tmp 10] Tryz.ntmps3 Tryz.results3 ?_
 refine CallN.pureA QrK (QqZ l ) (Go0 ?_)
 by_cases hl : l.length ≤ 300
 ·refine Br.no (by rw [decide_eq_true hl]; rfl) (Go0 ?_)
  refine CallN.exI [] QmP (QmD l hl) (fun _ => plh) (fun s hs => ?_); conv=>whnf
  have hsm := hs.small
  have hr := hs.rings4
  have hq4 := hs.conf
  have hev := hs.evs
  refine Go0 ?_
  refine CallN.exI [] Ql9 (Ql6 s hs what at_ by_) (fun _ => plh) (fun o ho => ?_); conv=>whnf
  have hallo : Qu o.map = true → AllS o.map (allM s.map) := by rw [ho.map]; exact hs.val.all
  have heo : o.evs.length ≤ 999999 := by rw [ho.evs]; omega
  refine Go0 ?_
  refine Lp.mkK hΓ (ι := Nat) [1, 11, 12] (fun i => [(10, .c (.bool false)), (13, .c (.int .i64 i))]) (fun _ => [.vr s.cells, .vr o.cells]) (fun i => i ≤ s.works.length) (fun i => s.works.length - i) 0 (Nat.zero_le _) ?_ ?_
  ·exact Mv.k0
  ·intro k hk
   refine Go0 ?_
   refine Br.of (fun h1=>Go0 ?_) (fun h1=>Go0 ?_)
   ·have w0 := Qa (↑k + 1) om om
    refine CallN.pureA QfX (QfW s hsm om (allM s.map) hs.val.all k ) (Go0 ?_)
    refine CallG.auto QfX (fun _ => QfW o ho.small heo (allM s.map) hallo k ) (Go0 ?_)
    refine Br.no rfl (Go0 ?_)
    refine ⟨k + 1, om, om, ?_⟩
    exact Mv.k0
   ·refine CallN.pureA QfX (QfW s hsm om (allM s.map) hs.val.all queue ) (Go0 ?_)
    refine CallG.auto Qwk (fun _ => Qwm ) (Go0 ?_)
    exact RM.i0
 ·refine Br.yes (by rw [decide_eq_false hl]; rfl) (Go0 ?_)
  refine CallN.pureA Qwk (Qwm ) (Go0 ?_)
  exact RM.i0
end Go.Proofs
