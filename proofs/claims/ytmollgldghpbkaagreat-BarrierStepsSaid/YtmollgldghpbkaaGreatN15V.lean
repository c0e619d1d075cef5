/- Contracts, lemmas; no condition. -/
import Derived.Test.YtmollgldghpbkaaGreatS22V
import Derived.Test.YtmollgldghpbkaaGreatGCV
import Derived.Test.YtmollgldghpbkaaGreatKsV
import Derived.Test.YtmollgldghpbkaaGreatGGV
set_option linter.all false
section
open Go Go.Am
namespace Go.Proofs
set_option maxRecDepth 20000
set_option maxHeartbeats 2000000 in
theorem Qlf (s : St) (hs : s.small) (q err : Int) (d : ByteArray) (h0 : 0 ≤ q) (h1 : q < s.works.length) : PS 181 [.a s.cells, .c (.int .i64 q), .a [.int .i64 err, .str d]] (.a ((s.addEv (QN true q (Qtl s q).req err d)).setWork q.toNat default).cells) := by
 refine PSpec.rm ?_
 refine ov0 hΓ Tryz.func181 26 0 [.cell 6 58] Tryz.ntmps181 Tryz.results181 ?_
 refine CallN.pureA Qv6 (Qv5 s (QN true q (Qtl s q).req err d) hs.evs ) (Go0 ?_)
 refine CallN.pureA Qwe (Qwf (s.addEv (QN true q (Qtl s q).req err d)) q default hs.works h0 h1 ) (Go0 ?_)
 exact RM.i0
theorem QlF : HB 181 := hB Tryz.func181
theorem QkL (s : St) (hs : s.small) (q err : Int) (d : ByteArray) : PS 110 [.a s.cells, .c (.int .i64 q), .a [.int .i64 err, .str d]] (.t [.inr (QdM s q err d).1.cells, .inl (.bool (QdM s q err d).2)]) := by
 refine PSpec.rm ?_
 refine ov0 hΓ Tryz.func110 36 0 [.cell 6 58, .tmp 7] Tryz.ntmps110 Tryz.results110 ?_
 refine CallN.pureA QdG (Qds s hs ) (Go0 ?_)
 by_cases hc : Qz s = true ∧ 0 ≤ q ∧ q < s.works.length ∧ (s.works.getD q.toNat default).state ≠ 0
 ·refine Br.no (Bool.eq_false_iff.2 fun z => by simp [-List.getD_eq_getElem?_getD, hc.1] at z; omega) ?_
  refine Go0 ?_
  refine CallN.pureA QlF (Qlf s hs q err d hc.2.1 hc.2.2.1 ) (Go0 ?_)
  rw [show QdM s q err d = ((s.addEv (QN true q (Qtl s q).req err d)).setWork q.toNat default, true) from if_pos hc]
  exact RM.i0
 ·refine Br.yes (Decidable.byContradiction fun z => hc (by
   have z := Qg z
   cases hv : Qz s with
   | false => rw [hv] at z; cases z
   | true => simp [-List.getD_eq_getElem?_getD, hv] at z; exact ⟨rfl, om⟩)) ?_
  refine Go0 ?_
  rw [show QdM s q err d = (s, false) from if_neg hc]
  exact RM.i0
theorem Qk8 : HB 110 := hB Tryz.func110
theorem QiC (s : St) (hs : s.small) (q : Int) : PS 109 [.a s.cells, .c (.int .i64 q)] (.c (.bool (inQ s q && decide ((Qtl s q).state = 10 ∨ (Qtl s q).state = 11)))) := by
 refine PSpec.rm ?_
 refine ov0 hΓ Tryz.func109 36 0 [.tmp 4] Tryz.ntmps109 Tryz.results109 ?_
 refine CallN.pureA QdG (Qds s hs ) (Go0 ?_)
 refine RM.i1 ?_
 unfold inQ Qtl
 rw [Bool.eq_iff_iff]
 cases Qz s <;> simp [-List.getD_eq_getElem?_getD, and_assoc]
theorem Qkt : HB 109 := hB Tryz.func109
theorem Qhf (s : St) (hs : s.small) (q : Int) : PS 47 [.a s.cells, .c (.int .i64 q)] (.c (.bool (Qnb s q))) := by
 refine PSpec.rm ?_
 refine ov0 hΓ Tryz.func47 40 0 [.tmp 4] Tryz.ntmps47 Tryz.results47 ?_
 refine CallN.pureA Qkt (QiC s hs q ) ?_
 conv=>whnf
 by_cases hc : inQ s q = true ∧ (Qtl s q).state = 10
 ·obtain ⟨hv, h0, h1⟩ := inQ_iff.1 hc.1
  have hst : (s.works.getD q.toNat default).state = 10 := hc.2
  rw [hc.1, hc.2]
  refine Go0 ?_
  refine Br.no (by rw [hst]; rfl) (Go0 ?_)
  refine CallN.pureA QoV (QoZ s hs ) (Go0 ?_)
  rw [if_pos hv]
  have hb : Qnb s q = (Qcu s.evs).any fun n => decide (n < (s.works.getD q.toNat default).req.serial) := by
   unfold Qnb
   rw [hc.1, decide_eq_true hc.2]
   rfl
  rw [hb]
  have hol : (Qcu s.evs).length ≤ 1000000 := Nat.le_trans (QdI _ _) hs.evs
  generalize hown : (s.works.getD q.toNat default).req.serial = own at *
  generalize Qcu s.evs = o at *
  refine Lp.mkK hΓ (ι := Nat) [1, 2, 5] (fun k => [(4, .c (.bool false)), (6, .c (.int .i64 k))]) (fun k => [.vr s.cells]) (fun k => k ≤ o.length ∧ ∀ i, i < k → ¬ o.getD i default < own) (fun k => o.length - k) 0 ⟨Nat.zero_le _, fun i hi => absurd hi (Nat.not_lt_zero _)⟩ ?_ ?_
  ·exact Mv.k0
  ·rintro k ⟨hk, hk2⟩
   refine Go1 fun _h=>?_
   refine Br.of (fun h3=>?_) (fun h3=>?_)<;>(try simp only [Int.toNat_natCast] at h3)<;>refine Go0 ?_
   ·have w0 := Qa (↑k + 1) om om
    refine Dr.mk hΓ hMix (by kernel_rfl) (Go0 ?_)
    rw [hown]
    refine Br.of (fun h4=>?_) (fun h4=>?_)<;>(try simp only [Int.toNat_natCast] at h4)<;>refine Go0 ?_
    ·rw [Qxs (k := k) om om]
     exact RM.i0
    ·refine ⟨k + 1, ⟨om, QD hk2 om⟩, om, ?_⟩
     exact Mv.k0
   ·rw [Qxj hk2 om]
    exact RM.i0
 ·have hb : Qnb s q = false := by
   unfold Qnb
   cases h : inQ s q with
   | false => rfl
   | true => rw [decide_eq_false fun z => hc ⟨h, z⟩]; rfl
  rw [hb]
  by_cases hA : inQ s q = true ∧ ((Qtl s q).state = 10 ∨ (Qtl s q).state = 11)
  ·obtain ⟨hv, h0, h1⟩ := inQ_iff.1 hA.1
   have h11 : (s.works.getD q.toNat default).state = 11 := hA.2.resolve_left fun z => hc ⟨hA.1, z⟩
   rw [hA.1, decide_eq_true hA.2]
   refine Go0 ?_
   refine Br.yes (by rw [h11]; rfl) (Go0 ?_)
   exact RM.i0
  ·have hF : (inQ s q && decide ((Qtl s q).state = 10 ∨ (Qtl s q).state = 11)) = false := by
    cases h : inQ s q with
    | false => rfl
    | true => rw [decide_eq_false fun z => hA ⟨h, z⟩]; rfl
   rw [hF]
   refine Go0 ?_
   refine Br.yes rfl (Go0 ?_)
   exact RM.i0
theorem Qhl : HB 47 := hB Tryz.func47
theorem atF {s : St} {q : Int} (h : ¬ (inQ s q = true ∧ ((Qtl s q).state = 10 ∨ (Qtl s q).state = 11))) : (inQ s q && decide ((Qtl s q).state = 10 ∨ (Qtl s q).state = 11)) = false := by
 cases h2 : inQ s q with
 | false => rfl
 | true => rw [decide_eq_false fun z => h ⟨h2, z⟩]; rfl
theorem Qw5 {s : St} (hs : s.small) (h : Qz s = true) : ({ s with dev := Qbn s.dev } : St).small :=
 ⟨(Qty (validS_V.1 h).sync.parts.dev).1, hs.map, hs.shard, hs.live, hs.pend, hs.owner, hs.pins, hs.rets, hs.free, hs.rings, hs.items, hs.works, hs.ents, hs.recs, hs.evs⟩
set_option maxHeartbeats 2000000 in
theorem QlX (s : St) (hs : s.small) (q : Int) : PS 46 [.a s.cells, .c (.int .i64 q)] (.t [.inr (barS s q).1.cells, .inl (.int .i64 (barS s q).2)]) := by
 refine PSpec.rm ?_
 refine ov0 hΓ Tryz.func46 44 0 [.cell 4 58, .tmp 5] Tryz.ntmps46 Tryz.results46 ?_
 refine CallN.pureA Qkt (QiC s hs q ) ?_
 conv=>whnf
 by_cases hA : inQ s q = true ∧ ((Qtl s q).state = 10 ∨ (Qtl s q).state = 11)
 ·obtain ⟨hv, h0, h1⟩ := inQ_iff.1 hA.1
  have hb : barS s q = if Qnb s q = true then (s, 15) else if (Qtl s q).state = 10 then (s.setWork q.toNat { Qtl s q with state := 11 }, 0) else ((QdM { s with dev := Qbn s.dev } q 0 ByteArray.empty).1, 0) := if_pos hA
  rw [hA.1, decide_eq_true hA.2]
  refine Go0 ?_
  refine Br.no rfl (Go0 ?_)
  refine CallN.pureA Qhl (Qhf s hs q ) (Go0 ?_)
  by_cases hB : Qnb s q = true
  ·refine Br.yes hB (Go0 ?_)
   rw [hb, if_pos hB]
   exact RM.i0
  ·refine Br.no (Qg hB) (Go0 ?_)
   rw [if_neg hB] at hb
   by_cases h10 : (s.works.getD q.toNat default).state = 10
   ·refine Br.yes (by rw [h10]; rfl) (Go0 ?_)
    refine CallN.pureA Qwe (Qwf s q { Qtl s q with state := 11 } hs.works h0 h1 ) (Go0 ?_)
    rw [hb, if_pos (show (Qtl s q).state = 10 from h10)]
    exact RM.i0
   ·refine Br.no (by simpa [-List.getD_eq_getElem?_getD] using h10) ?_
    refine Go0 ?_
    refine CallN.pureA Qg2 (QgZ s.dev hs.dev ) (Go0 ?_)
    refine CallN.pureA Qk8 (QkL { s with dev := Qbn s.dev } (Qw5 hs hv) q 0 ByteArray.empty ) (Go0 ?_)
    rw [hb, if_neg (show ¬ (Qtl s q).state = 10 from h10)]
    exact RM.i0
 ·rw [atF hA, show barS s q = (s, 6) from if_neg hA]
  refine Go0 ?_
  refine Br.yes rfl (Go0 ?_)
  exact RM.i0
theorem QlG : HB 46 := hB Tryz.func46
set_option maxHeartbeats 2000000 in
theorem QpP (d : DiceM) (hd : d.ok) : CS 37 [.c (.ptr 0 0)] [.vr d.cells] fun x H => ∃ i : Conf × DS, ((∃ d, i.1 = Qad d) ∧ i.2.1.ok ∧ Gq i.1 300 32 i.2.2) ∧ x = .a (i.2.2.cellsK 1) ∧ H = [.vr i.2.1.cells, i.2.2.wobj] := by
 have hc := QiM d
 have hb := Qhj d
 have hdn := Qpe hc
 have hcf := confR_iff.1 (Qv hc).1
 have hs1 := Qae (Qv hc).1
 have hdz : Qq (Qad d) = (Qad d).zones - 2 * Qo (Qad d) := rfl
 refine CSpec.rm ?_
 refine ov0 hΓ Tryz.func37 118 1 [.cell 2 58] Tryz.ntmps37 Tryz.results37 ?_
 refine CallN.autoQ [0] QjS (QjZ d hd) (Go0 ?_)
 refine CallN.autoI [] Qtd (Qsm (Qad d) hc) plh (Go0 ?_)
 refine CallN.pureA QjY (Qkb (Qad d) hc ) (Go0 ?_)
 have hx := (QeF d).next_range (n := Qq (Qad d)) om om
 refine CallN.autoQ [0] Ql (Qm (QeF d) (Qlv hd) (Qq (Qad d))) (Go0 ?_)
 have hm : ∀ k : Nat, (k : Int) ≤ 32 → (k : Int) * (Qad d).size ≤ 192 := fun k hk => by
  have := Int.mul_le_mul hk hb.1 om om
  omega
 have hsd := Qlv hd
 generalize hcc : Qad d = c at *
 generalize QeF d = d0 at *
 have z0 : Gq c (1 + ((0 : Nat) : Int) * c.size) 0 (QE c) := (Qt7 hc).weak (by simp) (Nat.le_refl _)
 have z1 : (d0).step.ok := hsd.step
 refine Lp.mkK hΓ (ι := DS × Nat) [0, 2, 3, 4, 6, 8] (fun i => [(9, .c (.int .i64 i.2))]) (fun i => [.vr i.1.1.cells, .vr (default : St).cells, .vr c.cells, i.1.2.wobj, .vr (i.1.2.cellsK 3), .vr (Lay.cells c)]) (fun i => i.2 ≤ ((d0).next (Qq c)).toNat ∧ i.1.1.ok ∧ Gq c (1 + i.2 * c.size) 0 i.1.2) (fun i => ((d0).next (Qq c)).toNat - i.2) (((d0).step, QE c), 0) ⟨Nat.zero_le _, z1, z0⟩ ?_ ?_
 ·exact Mv.k0
 ·rintro ⟨⟨d1, s1⟩, k⟩ ⟨hk, hd1, h1⟩
  have h1 : Gq c (1 + k * c.size) 0 s1 := h1
  have hk : k ≤ ((d0).next (Qq c)).toNat := hk
  have hd1 : d1.ok := hd1
  have hsm1 := h1.small om
  have hkm := hm k om
  refine Go0 ?_
  refine Br.of (fun h3=>Go0 ?_) (fun h3=>Go0 ?_)
  ·have w0 := Qa (2 * Qo c + k) om om
   have w1 := Qa (↑k + 1) om om
   have hkm1 := hm (k + 1) om
   rw [show ((k + 1 : Nat) : Int) * c.size = k * c.size + c.size by rw [Int.natCast_add, Int.add_mul]; simp] at hkm1
   rw [w0]
   refine CallN.pureA QcH (QcB s1.free (2 * Qo c + k) hsm1.free ) (Go0 ?_)
   have h2 := h1.unfree (2 * Qo c + k)
   refine CallN.autoI [0, 3] Qtb (QrZ c (1 + k * c.size) 0 0 d1 hd1 (s1.unfree (2 * Qo c + k)) h2.gd om om om (2 * Qo c + k) ⟨om, om⟩) plh (Go0 ?_)
   refine ⟨((fullF (2 * Qo c + k) (d1, s1.unfree (2 * Qo c + k))), k + 1), ⟨by show k + 1 ≤ ((d0).next (Qq c)).toNat; omega, QiI (z := 2 * Qo c + k) (p := (d1, s1.unfree (2 * Qo c + k))) hd1 _, ?_⟩, by show ((d0).next (Qq c)).toNat - (k + 1) < ((d0).next (Qq c)).toNat - k; omega, ?_⟩
   ·exact (Gq.fullF (p := (d1, s1.unfree (2 * Qo c + k))) h2 (2 * Qo c + k) om).weak (by show 1 + (k : Int) * c.size + c.size ≤ 1 + ((k + 1 : Nat) : Int) * c.size; rw [show ((k + 1 : Nat) : Int) * c.size = k * c.size + c.size by rw [Int.natCast_add, Int.add_mul]; simp]; omega) (Nat.le_refl _)
   ·exact Mv.k0
  ·refine CallN.exI [0, 3] QpZ (Qp7 c (1 + k * c.size) 0 d1 hd1 s1 h1 om om) (fun _ => plh) (fun i hi => ?_); conv=>whnf
   obtain ⟨d2, s2⟩ := i
   obtain ⟨hd2, h2⟩ := hi
   have hd2 : d2.ok := hd2
   have h2 : Gq c 300 0 s2 := Gq.weak h2 om (Nat.le_refl _)
   refine Go0 ?_
   refine Lp.mkK hΓ (ι := DS × Nat) [0, 2, 3, 4] (fun i => [(11, .c (.int .i64 (2 * Qo c + i.2)))]) (fun i => [.vr i.1.1.cells, .vr (default : St).cells, .vr c.cells, i.1.2.wobj, .vr (i.1.2.cellsK 3)]) (fun i => i.2 ≤ (Qq c).toNat ∧ i.1.1.ok ∧ Gq c 300 i.2 i.1.2) (fun i => (Qq c).toNat - i.2) ((d2, s2), 0) ⟨Nat.zero_le _, hd2, h2⟩ ?_ ?_
   ·exact Mv.k0
   ·rintro ⟨⟨d3, s3⟩, j⟩ ⟨hj, hd3, h3⟩
    have h3 : Gq c 300 j s3 := h3
    have hj : j ≤ (Qq c).toNat := hj
    have hd3 : d3.ok := hd3
    have hsm3 := h3.small om
    have hz3 := h3.gd.val.parts.zones
    have hl3 := h3.gd.val.parts.live
    rw [h3.gd.cfg] at hz3 hl3
    refine Go0 ?_
    refine Br.of (fun h4=>Go0 ?_) (fun h4=>Go0 ?_)
    ·have w2 := Qa (2 * Qo c + j + 1) om om
     refine CallG.autoQ [0] Ql (Qm d3 hd3 2) (fun hg => ?_) (fun hg => ?_) <;> (conv=>whnf)
     ·refine Go0 ?_
      rw [hg]
      by_cases c2 : d3.next 2 = 0
      ·refine Br.yes (by rw [c2]; rfl) (Go0 ?_)
       refine CallN.pureA QlI (QlC s3.glob s3.pins s3.rets (2 * Qo c + j) hsm3.pins hsm3.rets ) (Go0 ?_)
       have h4 := h3.retire (2 * Qo c + j)
       have hd4 := hd3.step
       have hsm4 := h4.small om
       refine CallN.autoQ [0] Ql (Qm d3.step hd4 6) (Go0 ?_)
       by_cases c5 : (d3.step).next 6 = 5
       ·refine Br.yes (by rw [c5]; rfl) (Go0 ?_)
        refine CallN.pureA Qgw (QgK ({ s3 with rets := (Qau s3.glob s3.pins s3.rets (2 * Qo c + j)).1 }).glob ({ s3 with rets := (Qau s3.glob s3.pins s3.rets (2 * Qo c + j)).1 }).pins ({ s3 with rets := (Qau s3.glob s3.pins s3.rets (2 * Qo c + j)).1 }).rets hsm4.pins hsm4.rets ) (Go0 ?_)
        refine ⟨(((d3.step).step, { ({ s3 with rets := (Qau s3.glob s3.pins s3.rets (2 * Qo c + j)).1 }) with glob := (advM ({ s3 with rets := (Qau s3.glob s3.pins s3.rets (2 * Qo c + j)).1 }).glob ({ s3 with rets := (Qau s3.glob s3.pins s3.rets (2 * Qo c + j)).1 }).pins ({ s3 with rets := (Qau s3.glob s3.pins s3.rets (2 * Qo c + j)).1 }).rets).1 }), j + 1), ⟨by show j + 1 ≤ (Qq c).toNat; omega, hd4.step, h4.adv⟩, by show (Qq c).toNat - (j + 1) < (Qq c).toNat - j; omega, ?_⟩
        exact Mv.k0
       ·refine Br.no (by simpa using c5) (Go0 ?_)
        refine ⟨(((d3.step).step, { s3 with rets := (Qau s3.glob s3.pins s3.rets (2 * Qo c + j)).1 }), j + 1), ⟨by show j + 1 ≤ (Qq c).toNat; omega, hd4.step, h4⟩, by show (Qq c).toNat - (j + 1) < (Qq c).toNat - j; omega, ?_⟩
        exact Mv.k0
      ·refine Br.no (by simpa using c2) (Go0 ?_)
       have h4 : Gq c 300 (j + 1) s3 := h3.weak (Int.le_refl _) om
       have hd4 := hd3.step
       have hsm4 := h4.small om
       refine CallN.autoQ [0] Ql (Qm d3.step hd4 6) (Go0 ?_)
       by_cases c5 : (d3.step).next 6 = 5
       ·refine Br.yes (by rw [c5]; rfl) (Go0 ?_)
        refine CallN.pureA Qgw (QgK (s3).glob (s3).pins (s3).rets hsm4.pins hsm4.rets ) (Go0 ?_)
        refine ⟨(((d3.step).step, { (s3) with glob := (advM (s3).glob (s3).pins (s3).rets).1 }), j + 1), ⟨by show j + 1 ≤ (Qq c).toNat; omega, hd4.step, h4.adv⟩, by show (Qq c).toNat - (j + 1) < (Qq c).toNat - j; omega, ?_⟩
        exact Mv.k0
       ·refine Br.no (by simpa using c5) (Go0 ?_)
        refine ⟨(((d3.step).step, s3), j + 1), ⟨by show j + 1 ≤ (Qq c).toNat; omega, hd4.step, h4⟩, by show (Qq c).toNat - (j + 1) < (Qq c).toNat - j; omega, ?_⟩
        exact Mv.k0
     ·refine Go0 ?_
      rw [hg]
      refine Br.no rfl (Go0 ?_)
      have h4 : Gq c 300 (j + 1) s3 := h3.weak (Int.le_refl _) om
      have hd4 := hd3
      have hsm4 := h4.small om
      refine CallN.autoQ [0] Ql (Qm d3 hd4 6) (Go0 ?_)
      by_cases c5 : (d3).next 6 = 5
      ·refine Br.yes (by rw [c5]; rfl) (Go0 ?_)
       refine CallN.pureA Qgw (QgK (s3).glob (s3).pins (s3).rets hsm4.pins hsm4.rets ) (Go0 ?_)
       refine ⟨(((d3).step, { (s3) with glob := (advM (s3).glob (s3).pins (s3).rets).1 }), j + 1), ⟨by show j + 1 ≤ (Qq c).toNat; omega, hd4.step, h4.adv⟩, by show (Qq c).toNat - (j + 1) < (Qq c).toNat - j; omega, ?_⟩
       exact Mv.k0
      ·refine Br.no (by simpa using c5) (Go0 ?_)
       refine ⟨(((d3).step, s3), j + 1), ⟨by show j + 1 ≤ (Qq c).toNat; omega, hd4.step, h4⟩, by show (Qq c).toNat - (j + 1) < (Qq c).toNat - j; omega, ?_⟩
       exact Mv.k0
    ·have h3 : Gq c 300 32 s3 := h3.weak (Int.le_refl _) om
     refine CallN.autoQ [0] Ql (Qm d3 hd3 4) (Go0 ?_)
     refine CallN.autoQ [0] Ql (Qm d3.step hd3.step 12) (Go0 ?_)
     refine CallN.autoQ [0] Ql (Qm d3.step.step hd3.step.step 3) (Go0 ?_)
     have h4 := h3.flags (d3.next 4 == 3) (d3.step.next 12 == 11)
     by_cases c5 : d3.step.step.next 3 = 2
     ·refine Br.yes (by rw [c5]; rfl) (Go0 ?_)
      refine CallN.pureA Qg2 (QgZ s3.dev hsm3.dev ) (Go0 ?_)
      refine ⟨_, _, ?_, ⟨(c, (d3.step.step.step, { s3 with want := (d3.next 4 == 3), closed := (d3.step.next 12 == 11), dev := Qbn s3.dev })), ⟨⟨_, hcc.symm⟩, hd3.step.step.step, h4.sync⟩, rfl, rfl⟩⟩
      exact RM.renN [0, 3] (by decide) (show ∀ i, i < 1 → rho [0, 3] i = i by decide) leN wb0 wb0
     ·refine Br.no (by simpa using c5) (Go0 ?_)
      refine ⟨_, _, ?_, ⟨(c, (d3.step.step.step, { s3 with want := (d3.next 4 == 3), closed := (d3.step.next 12 == 11) })), ⟨⟨_, hcc.symm⟩, hd3.step.step.step, h4⟩, rfl, rfl⟩⟩
      exact RM.renN [0, 3] (by decide) (show ∀ i, i < 1 → rho [0, 3] i = i by decide) leN wb0 wb0
theorem Qrv : HB 37 := hB Tryz.func37
end Go.Proofs
end
