/- Contracts, lemmas; no condition. -/
import Derived.Test.YtmollgldghpbkaaGreatNGV
import Derived.Test.YtmollgldghpbkaaGreatS22V
import Derived.Test.YtmollgldghpbkaaGreatKsV
import Derived.Test.YtmollgldghpbkaaGreatCtIV
import Derived.Test.YtmollgldghpbkaaGreatAmFV
set_option linter.all false
open Go Go.Am
namespace Go.Proofs
set_option maxRecDepth 20000
theorem Qxl {s : St} (h : Val s) : (volL (Qbn s.dev).zones).length = s.dev.zones.length ∧ (∀ j, j < s.dev.zones.length → (volL (Qbn s.dev).zones).getD j default = 0) ∧ ∀ i, ((Qbn s.dev).zones.getD i default).durable ≤ 9223372036854775807 := by
 have hd := Qty h.parts.dev
 rw [Qr8 h.parts.dev]
 have hg : ∀ i, i < s.dev.zones.length → (s.dev.zones.map QdC).getD i default = QdC (s.dev.zones.getD i default) := fun i hi => by
  rw [Qp _ _ (by simpa using hi), Qp _ _ hi]
  simp
 refine ⟨by simp, fun j hj => ?_, fun i => ?_⟩
 ·rw [Qxi (by simpa using hj)]
  show volI ((s.dev.zones.map QdC).getD j default) = 0
  rw [hg j hj]
  exact if_neg (Int.lt_irrefl _)
 ·by_cases c : i < s.dev.zones.length
  ·show ((s.dev.zones.map QdC).getD i default).durable ≤ _
   rw [hg i c]
   have := hd.2.2.2 i
   show ((s.dev.zones.getD i default).sectors.length : Int) ≤ _
   omega
  ·rw [show ({ s.dev with zones := s.dev.zones.map QdC } : Dev).zones.getD i default = default by simp [List.getD, Nat.le_of_not_lt c]]
   decide
set_option maxHeartbeats 8000000 in
theorem Qwq (l : List Int) : PS 4 [.c (Qi l)] (.c (.bool true)) := by
 refine PSpec.rm ?_
 refine ov0 hΓ Tryz.func4 119 0 [.tmp 2] Tryz.ntmps4 Tryz.results4 ?_
 refine CallN.pureA QrK (QqZ l ) (Go0 ?_)
 by_cases hl : l.length ≤ 300
 ·refine Br.no (by rw [decide_eq_true hl]; rfl) (Go0 ?_)
  refine CallN.exI [] QmP (QmD l hl) (fun _ => plh) (fun s hs => ?_); conv=>whnf
  have hsm := hs.small
  have hv : Qz s = true := validS_V.2 hs.val
  have hr := hs.rings4
  have hq4 := hs.conf
  have hev := hs.evs
  refine Go0 ?_
  refine Lp.mkK hΓ (ι := Nat × Int) [3] (fun i => [(2, .c (.bool false)), (4, .c (.int .i64 i.2)), (5, .c (.int .i64 i.1))]) (fun i => [.vr s.cells]) (fun i => i.1 ≤ s.works.length ∧ (i.2 < 0 ∨ Qnb s i.2 = false)) (fun i => s.works.length - i.1) (0, -1) ⟨Nat.zero_le _, Or.inl (by decide)⟩ ?_ ?_
  ·exact Mv.k0
  ·rintro ⟨k, f⟩ ⟨hk, hf⟩
   have hk : k ≤ s.works.length := hk
   have hf : f < 0 ∨ Qnb s f = false := hf
   refine Go0 ?_
   refine Br.of (fun h1=>Go0 ?_) (fun h1=>Go0 ?_)
   ·have hkw : k < s.works.length := by omega
    have w0 := Qa (↑k + 1) om om
    by_cases h10 : (s.works.getD k default).state = 10
    ·refine Br.no (by rw [show ((k, f).fst : Int).toNat = k from rfl, h10]; rfl) (Go0 ?_)
     obtain ⟨bw1, bw2⟩ := Qxh hs hkw h10
     have hm := hs.mem (i := k) om (by rw [h10]; decide)
     obtain ⟨o0, o1, _⟩ := hs.first hm
     obtain ⟨sv, bs⟩ := Qxk hs hkw h10
     have hol : (Qcu s.evs).length ≤ 1000000 := Nat.le_trans (QdI _ _) hsm.evs
     refine CallN.pureA QoV (QoZ s hsm ) (Go0 ?_)
     rw [if_pos hv]
     refine CallN.pureA Qwc (Qwb s hsm (allM s.map) hs.val.all k ) (Go0 ?_)
     generalize hown : (s.works.getD k default).req.serial = own at *
     generalize Qcu s.evs = o at *
     have e1 : (s.works.getD (((k, f) : Nat × Int).fst : Int).toNat default).req.serial = own := hown
     have on : ((o.length : Int) == 0) = false := beq_eq_false_iff_ne.2 om
     refine Dr.mk hΓ hMix (by kernel_rfl) (Go0 ?_)
     by_cases hB : Qnb s k = true
     ·rw [if_pos hB] at bw2
      have hlt : o.getD 0 default < own := of_decide_eq_true (bw1.symm.trans hB)
      refine Br.no (by
       rw [bw2, e1, show Int.toNat 0 = 0 from rfl, on, decide_eq_false (show ¬ o.getD 0 default ≥ own by omega)]
       rfl) ?_
      refine Go0 ?_
      refine Dr.mk hΓ hMix (by kernel_rfl) (Go0 ?_)
      refine Br.no (by
       rw [e1, show Int.toNat 0 = 0 from rfl]
       exact beq_eq_false_iff_ne.2 om) ?_
      refine Go0 ?_
      refine Br.yes (by rw [bw2]; rfl) (Go0 ?_)
      refine ⟨(k + 1, f), ⟨hkw, hf⟩, by show s.works.length - (k + 1) < s.works.length - k; omega, ?_⟩
      exact Mv.k0
     ·rw [if_neg hB] at bw2
      have hlt : ¬ o.getD 0 default < own := fun z => hB (by rw [bw1]; exact decide_eq_true z)
      refine Br.no (by
       rw [bw2, e1, show Int.toNat 0 = 0 from rfl, on, decide_eq_true (show o.getD 0 default ≥ own by omega)]
       rfl) ?_
      refine Go0 ?_
      refine Dr.mk hΓ hMix (by kernel_rfl) (Go0 ?_)
      refine Br.yes (by
       rw [e1, show Int.toNat 0 = 0 from rfl, show o.getD 0 default = own by omega]
       exact beq_self_eq_true _) ?_
      refine Go0 ?_
      refine Br.no (by rw [bw2]; rfl) (Go0 ?_)
      rw [bw2]
      have hsm2 : (QjM s k).small := sv.small (by show s.rets.length ≤ 1000000; have := hs.rets; omega) (by show s.evs.length ≤ 1000000; omega) hsm.ents hsm.recs
      refine CallN.pureA Qwc (Qwb (QjM s k) hsm2 (allM s.map) sv.all k ) (Go0 ?_)
      rw [bs]
      obtain ⟨v1, v2, v3⟩ := Qxl hs.val
      have hfl : (Qwu s k).evs.length = s.evs.length + 1 := by simp [Qwu, QjM, St.setWork, St.addEv]
      have wev := Qa ((s.evs.length : Int) + 1) om om
      have hzn := hs.val.parts.zones
      have hdl := hsm.dev
      refine CallN.pureA Qwp (Qwo (Qbn s.dev) (Qty hs.val.sync.parts.dev).1 v3 ) (Go0 ?_)
      refine Br.no (by
       dsimp only
       rw [wev, hfl, v1, hzn]
       simp) ?_
      refine Go0 ?_
      generalize volL (Qbn s.dev).zones = v at *
      refine Lp.mkK hΓ (ι := Nat) [3, 5, 12] (fun j => [(2, .c (.bool false)), (4, .c (.int .i64 k)), (13, .c (.int .i64 j))]) (fun j => [.vr s.cells]) (fun j => j ≤ v.length) (fun j => v.length - j) 0 (Nat.zero_le _) ?_ ?_
      ·exact Mv.k0
      ·intro j hj
       have hvl : v.length ≤ 1000000 := by rw [v1]; have := (Qty hs.val.parts.dev).2.1; omega
       refine Go1 fun _h=>?_
       refine Br.of (fun h5=>Go0 ?_) (fun h5=>Go0 ?_)
       ·have w2 := Qa (↑j + 1) om om
        have hz := v2 j om
        refine Br.no (by rw [show ((j : Int)).toNat = j from rfl, hz]; rfl) (Go0 ?_)
        refine ⟨j + 1, om, om, ?_⟩
        exact Mv.k0
       ·refine ⟨(k + 1, (k : Int)), ⟨hkw, Or.inr (Qg hB)⟩, by show s.works.length - (k + 1) < s.works.length - k; omega, ?_⟩
        exact Mv.k0
    ·refine Br.yes (by simpa [-List.getD_eq_getElem?_getD] using h10) ?_
     refine Go0 ?_
     refine ⟨(k + 1, f), ⟨hkw, hf⟩, by show s.works.length - (k + 1) < s.works.length - k; omega, ?_⟩
     exact Mv.k0
   ·refine CallG.auto Qwg (fun _ => Qwh s hsm (allM s.map) hs.val.all f ) (Go0 ?_)
    refine CallG.auto Qwk (fun _ => Qwm ) (Go0 ?_)
    refine RM.i1 ?_
    dsimp only
    rcases hf with hf | hf
    ·rw [decide_eq_true hf]; rfl
    ·rw [hf]; cases decide (f < 0) <;> rfl
 ·refine Br.yes (by rw [decide_eq_false hl]; rfl) (Go0 ?_)
  refine CallN.pureA Qwk (Qwm ) (Go0 ?_)
  exact RM.i0
end Go.Proofs
