/- Contracts, lemmas; no condition. -/
import Derived.Test.YtmollgldghpbkaaGreatN3
import Derived.Test.YtmollgldghpbkaaGreatKs
set_option linter.all false
open Go Go.Am
namespace Go.Proofs
set_option maxRecDepth 20000
set_option maxHeartbeats 2000000 in
theorem QpP (d : DiceM) (hd : d.ok) : CSpec Tryz.prog 37 [.c (.ptr 0 0)] [.vr d.cells] fun x H => ∃ i : Conf × DS, ((∃ d, i.1 = Qad d) ∧ i.2.1.ok ∧ Gq i.1 300 32 i.2.2) ∧ x = .a (i.2.2.cellsK 1) ∧ H = [.vr i.2.1.cells, i.2.2.wobj] := by
 have hc := QiM d
 have hb := Qhj d
 have hdn := Qpe hc
 have hcf := confR_iff.1 (Qv hc).1
 have hs1 := Qae (Qv hc).1
 have hdz : Qq (Qad d) = (Qad d).zones - 2 * Qo (Qad d) := rfl
 refine CSpec.rm ?_
 refine ov hΓ Tryz.func37 118 1 [.cell 2 58] Tryz.ntmps37 Tryz.results37 ?_
 refine Go0 ?_
 refine CallN.autoQ [0] QjS (QjZ d hd) ?_; conv=>whnf
 refine Go0 ?_
 refine CallN.autoI [] Qtd (Qsm (Qad d) hc) (by repeat' (first | exact PlainH.nil | refine PlainH.vr ?_ | refine PlainH.mp ?_ | refine PlainH.arr (fun i j => ?_) ?_ | exact Qb _ _ _)) ?_; conv=>whnf
 refine Go0 ?_
 refine CallN.pureA QjY (Qkb (Qad d) hc ) ?_
 refine Go0 ?_
 have hx := (QeF d).next_range (n := Qq (Qad d)) (by omega) (by omega)
 refine CallN.autoQ [0] Ql (Qm (QeF d) (Qlv hd) (Qq (Qad d))) ?_; conv=>whnf
 refine Go0 ?_
 have hm : ∀ k : Nat, (k : Int) ≤ 32 → (k : Int) * (Qad d).size ≤ 192 := fun k hk => by
  have := Int.mul_le_mul hk hb.1 (by omega) (by omega)
  omega
 have hsd := Qlv hd
 generalize hcc : Qad d = c at *
 generalize QeF d = d0 at *
 have z0 : Gq c (1 + ((0 : Nat) : Int) * c.size) 0 (QE c) := (Qt7 hc).weak (by simp) (Nat.le_refl _)
 have z1 : (d0).step.ok := hsd.step
 refine Lp.mkK hΓ (ι := DS × Nat) [0, 2, 3, 4, 6, 8] (fun i => [(9, .c (.int .i64 i.2))]) (fun i => [.vr i.1.1.cells, .vr (default : St).cells, .vr c.cells, i.1.2.wobj, .vr (i.1.2.cellsK 3), .vr (Lay.cells c)]) (fun i => i.2 ≤ ((d0).next (Qq c)).toNat ∧ i.1.1.ok ∧ Gq c (1 + i.2 * c.size) 0 i.1.2) (fun i => ((d0).next (Qq c)).toNat - i.2) (((d0).step, QE c), 0) ⟨Nat.zero_le _, z1, z0⟩ ?_ ?_
 ·exact Mv.k0
 ·rintro ⟨⟨d1, s1⟩, k⟩ ⟨hk, hd1, h1⟩
  have h1 : Gq c (1 + k * c.size) 0 s1 := h1
  have hk : k ≤ ((d0).next (Qq c)).toNat := hk
  have hd1 : d1.ok := hd1
  have hsm1 := h1.small (by omega)
  have hkm := hm k (by omega)
  refine Go0 ?_
  refine Br.of (fun h3=>?_) (fun h3=>?_)<;>(try simp only [Int.toNat_natCast] at h3)<;>(conv=>whnf)
  ·refine Go0 ?_
   have w0 := Qa (2 * Qo c + k) (by omega) (by omega)
   have w1 := Qa (↑k + 1) (by omega) (by omega)
   have hkm1 := hm (k + 1) (by omega)
   rw [show ((k + 1 : Nat) : Int) * c.size = k * c.size + c.size by rw [Int.natCast_add, Int.add_mul]; simp] at hkm1
   rw [w0]
   refine CallN.pureA QcH (QcB s1.free (2 * Qo c + k) hsm1.free ) ?_
   refine Go0 ?_
   have h2 := h1.unfree (2 * Qo c + k)
   refine CallN.autoI [0, 3] Qtb (QrZ c (1 + k * c.size) 0 0 d1 hd1 (s1.unfree (2 * Qo c + k)) h2.gd (by omega) (by omega) (by omega) (2 * Qo c + k) ⟨by omega, by omega⟩) (by repeat' (first | exact PlainH.nil | refine PlainH.vr ?_ | refine PlainH.mp ?_ | refine PlainH.arr (fun i j => ?_) ?_ | exact Qb _ _ _)) ?_; conv=>whnf
   refine Go0 ?_
   refine ⟨((fullF (2 * Qo c + k) (d1, s1.unfree (2 * Qo c + k))), k + 1), ⟨by show k + 1 ≤ ((d0).next (Qq c)).toNat; omega, QiI (z := 2 * Qo c + k) (p := (d1, s1.unfree (2 * Qo c + k))) hd1 _, ?_⟩, by show ((d0).next (Qq c)).toNat - (k + 1) < ((d0).next (Qq c)).toNat - k; omega, ?_⟩
   ·exact (Gq.fullF (p := (d1, s1.unfree (2 * Qo c + k))) h2 (2 * Qo c + k) (by omega)).weak (by show 1 + (k : Int) * c.size + c.size ≤ 1 + ((k + 1 : Nat) : Int) * c.size; rw [show ((k + 1 : Nat) : Int) * c.size = k * c.size + c.size by rw [Int.natCast_add, Int.add_mul]; simp]; omega) (Nat.le_refl _)
   ·exact Mv.k0
  ·refine Go0 ?_
   refine CallN.exI [0, 3] QpZ (Qp7 c (1 + k * c.size) 0 d1 hd1 s1 h1 (by omega) (by omega)) (fun _ => by repeat' (first | exact PlainH.nil | refine PlainH.vr ?_ | refine PlainH.mp ?_ | refine PlainH.arr (fun i j => ?_) ?_ | exact Qb _ _ _)) (fun i hi => ?_); conv=>whnf
   obtain ⟨d2, s2⟩ := i
   obtain ⟨hd2, h2⟩ := hi
   have hd2 : d2.ok := hd2
   have h2 : Gq c 300 0 s2 := Gq.weak h2 (by omega) (Nat.le_refl _)
   refine Go0 ?_
   refine Lp.mkK hΓ (ι := DS × Nat) [0, 2, 3, 4] (fun i => [(11, .c (.int .i64 (2 * Qo c + i.2)))]) (fun i => [.vr i.1.1.cells, .vr (default : St).cells, .vr c.cells, i.1.2.wobj, .vr (i.1.2.cellsK 3)]) (fun i => i.2 ≤ (Qq c).toNat ∧ i.1.1.ok ∧ Gq c 300 i.2 i.1.2) (fun i => (Qq c).toNat - i.2) ((d2, s2), 0) ⟨Nat.zero_le _, hd2, h2⟩ ?_ ?_
   ·exact Mv.k0
   ·rintro ⟨⟨d3, s3⟩, j⟩ ⟨hj, hd3, h3⟩
    have h3 : Gq c 300 j s3 := h3
    have hj : j ≤ (Qq c).toNat := hj
    have hd3 : d3.ok := hd3
    have hsm3 := h3.small (by omega)
    have hz3 := h3.gd.val.parts.zones
    have hl3 := h3.gd.val.parts.live
    rw [h3.gd.cfg] at hz3 hl3
    refine Go0 ?_
    refine Br.of (fun h4=>?_) (fun h4=>?_)<;>(try simp only [Int.toNat_natCast] at h4)<;>(conv=>whnf)
    ·refine Go0 ?_
     have w2 := Qa (2 * Qo c + j + 1) (by omega) (by omega)
     refine CallG.autoQ [0] Ql (Qm d3 hd3 2) (fun hg => ?_) (fun hg => ?_) <;> (conv=>whnf)
     ·refine Go0 ?_
      rw [hg]
      by_cases c2 : d3.next 2 = 0
      ·refine Br.yes (by rw [c2]; rfl) ?_
       refine Go0 ?_
       refine CallN.pureA QlI (QlC s3.glob s3.pins s3.rets (2 * Qo c + j) hsm3.pins hsm3.rets ) ?_
       refine Go0 ?_
       have h4 := h3.retire (2 * Qo c + j)
       have hd4 := hd3.step
       have hsm4 := h4.small (by omega)
       refine CallN.autoQ [0] Ql (Qm d3.step hd4 6) ?_; conv=>whnf
       refine Go0 ?_
       by_cases c5 : (d3.step).next 6 = 5
       ·refine Br.yes (by rw [c5]; rfl) ?_
        refine Go0 ?_
        refine CallN.pureA Qgw (QgK ({ s3 with rets := (Qau s3.glob s3.pins s3.rets (2 * Qo c + j)).1 }).glob ({ s3 with rets := (Qau s3.glob s3.pins s3.rets (2 * Qo c + j)).1 }).pins ({ s3 with rets := (Qau s3.glob s3.pins s3.rets (2 * Qo c + j)).1 }).rets hsm4.pins hsm4.rets ) ?_
        refine Go0 ?_
        refine ⟨(((d3.step).step, { ({ s3 with rets := (Qau s3.glob s3.pins s3.rets (2 * Qo c + j)).1 }) with glob := (advM ({ s3 with rets := (Qau s3.glob s3.pins s3.rets (2 * Qo c + j)).1 }).glob ({ s3 with rets := (Qau s3.glob s3.pins s3.rets (2 * Qo c + j)).1 }).pins ({ s3 with rets := (Qau s3.glob s3.pins s3.rets (2 * Qo c + j)).1 }).rets).1 }), j + 1), ⟨by show j + 1 ≤ (Qq c).toNat; omega, hd4.step, h4.adv⟩, by show (Qq c).toNat - (j + 1) < (Qq c).toNat - j; omega, ?_⟩
        exact Mv.k0
       ·refine Br.no (by simpa using c5) ?_
        refine Go0 ?_
        refine ⟨(((d3.step).step, { s3 with rets := (Qau s3.glob s3.pins s3.rets (2 * Qo c + j)).1 }), j + 1), ⟨by show j + 1 ≤ (Qq c).toNat; omega, hd4.step, h4⟩, by show (Qq c).toNat - (j + 1) < (Qq c).toNat - j; omega, ?_⟩
        exact Mv.k0
      ·refine Br.no (by simpa using c2) ?_
       refine Go0 ?_
       have h4 : Gq c 300 (j + 1) s3 := h3.weak (Int.le_refl _) (by omega)
       have hd4 := hd3.step
       have hsm4 := h4.small (by omega)
       refine CallN.autoQ [0] Ql (Qm d3.step hd4 6) ?_; conv=>whnf
       refine Go0 ?_
       by_cases c5 : (d3.step).next 6 = 5
       ·refine Br.yes (by rw [c5]; rfl) ?_
        refine Go0 ?_
        refine CallN.pureA Qgw (QgK (s3).glob (s3).pins (s3).rets hsm4.pins hsm4.rets ) ?_
        refine Go0 ?_
        refine ⟨(((d3.step).step, { (s3) with glob := (advM (s3).glob (s3).pins (s3).rets).1 }), j + 1), ⟨by show j + 1 ≤ (Qq c).toNat; omega, hd4.step, h4.adv⟩, by show (Qq c).toNat - (j + 1) < (Qq c).toNat - j; omega, ?_⟩
        exact Mv.k0
       ·refine Br.no (by simpa using c5) ?_
        refine Go0 ?_
        refine ⟨(((d3.step).step, s3), j + 1), ⟨by show j + 1 ≤ (Qq c).toNat; omega, hd4.step, h4⟩, by show (Qq c).toNat - (j + 1) < (Qq c).toNat - j; omega, ?_⟩
        exact Mv.k0
     ·refine Go0 ?_
      rw [hg]
      refine Br.no rfl ?_; conv=>whnf
      refine Go0 ?_
      have h4 : Gq c 300 (j + 1) s3 := h3.weak (Int.le_refl _) (by omega)
      have hd4 := hd3
      have hsm4 := h4.small (by omega)
      refine CallN.autoQ [0] Ql (Qm d3 hd4 6) ?_; conv=>whnf
      refine Go0 ?_
      by_cases c5 : (d3).next 6 = 5
      ·refine Br.yes (by rw [c5]; rfl) ?_
       refine Go0 ?_
       refine CallN.pureA Qgw (QgK (s3).glob (s3).pins (s3).rets hsm4.pins hsm4.rets ) ?_
       refine Go0 ?_
       refine ⟨(((d3).step, { (s3) with glob := (advM (s3).glob (s3).pins (s3).rets).1 }), j + 1), ⟨by show j + 1 ≤ (Qq c).toNat; omega, hd4.step, h4.adv⟩, by show (Qq c).toNat - (j + 1) < (Qq c).toNat - j; omega, ?_⟩
       exact Mv.k0
      ·refine Br.no (by simpa using c5) ?_
       refine Go0 ?_
       refine ⟨(((d3).step, s3), j + 1), ⟨by show j + 1 ≤ (Qq c).toNat; omega, hd4.step, h4⟩, by show (Qq c).toNat - (j + 1) < (Qq c).toNat - j; omega, ?_⟩
       exact Mv.k0
    ·refine Go0 ?_
     have h3 : Gq c 300 32 s3 := h3.weak (Int.le_refl _) (by omega)
     refine CallN.autoQ [0] Ql (Qm d3 hd3 4) ?_; conv=>whnf
     refine Go0 ?_
     refine CallN.autoQ [0] Ql (Qm d3.step hd3.step 12) ?_; conv=>whnf
     refine Go0 ?_
     refine CallN.autoQ [0] Ql (Qm d3.step.step hd3.step.step 3) ?_; conv=>whnf
     refine Go0 ?_
     have h4 := h3.flags (d3.next 4 == 3) (d3.step.next 12 == 11)
     by_cases c5 : d3.step.step.next 3 = 2
     ·refine Br.yes (by rw [c5]; rfl) ?_
      refine Go0 ?_
      refine CallN.pureA Qg2 (QgZ s3.dev hsm3.dev ) ?_
      refine Go0 ?_
      refine ⟨_, _, ?_, ⟨(c, (d3.step.step.step, { s3 with want := (d3.next 4 == 3), closed := (d3.step.next 12 == 11), dev := Qbn s3.dev })), ⟨⟨_, hcc.symm⟩, hd3.step.step.step, h4.sync⟩, rfl, rfl⟩⟩
      exact RM.renN [0, 3] (by decide) (show ∀ i, i < 1 → rho [0, 3] i = i by decide) leN wb0 wb0
     ·refine Br.no (by simpa using c5) ?_
      refine Go0 ?_
      refine ⟨_, _, ?_, ⟨(c, (d3.step.step.step, { s3 with want := (d3.next 4 == 3), closed := (d3.step.next 12 == 11) })), ⟨⟨_, hcc.symm⟩, hd3.step.step.step, h4⟩, rfl, rfl⟩⟩
      exact RM.renN [0, 3] (by decide) (show ∀ i, i < 1 → rho [0, 3] i = i by decide) leN wb0 wb0
theorem Qrv : HasBody Tryz.prog 37 := hB Tryz.func37
end Go.Proofs





