/- Contracts, lemmas; no condition. -/
import Derived.Test.YtmollgldghpbkaaGreatZRV
import Derived.Test.YtmollgldghpbkaaGreatAmEV
set_option linter.all false
section
open Go Go.Am
namespace Go.Proofs
set_option maxRecDepth 20000
theorem Qkd (d : Dev) (zone : Int) : PS 172 [d.s, .c (.int .i64 zone)] (.c (.int .i64 (Qai d zone))) := by
 refine PSpec.rm ?_
 refine ov hΓ Tryz.func172 27 0 [.tmp 4] Tryz.ntmps172 Tryz.results172 ?_
 conv=>whnf
 refine CallN.pure Qb2 (QbZ d ) (leA.refl rfl) rfl (Go0 ?_)
 refine Br.of (fun h1=>Go0 ?_) (fun h1=>Go0 ?_)
 ·exact RM.imm rfl (wkS.c (wkC.int (by simp only [Qai, if_neg h1])))
 ·(first|refine Br.od (fun h2=>?_) (fun h2=>?_)|refine Br.mk (fun h2=>?_) (fun h2=>?_)<;>simp [-List.length_eq_zero_iff,-List.getD_eq_getElem?_getD] at h2)<;>(try simp only [Int.toNat_natCast] at h2)<;>(conv=>whnf)
  ·refine Go0 ?_
   have : decide (0 ≤ zone ∧ zone < d.zones.length) = false := by simp only [decide_eq_false_iff_not]; omega
   exact RM.imm rfl (wkS.c (wkC.int (by simp only [Qai, if_pos h1, this]; rfl)))
  ·refine Go0 ?_
   have hr : decide (0 ≤ zone ∧ zone < d.zones.length) = true := by simp only [decide_eq_true_eq]; omega
   refine Br.of (fun h3=>Go0 ?_) (fun h3=>Go0 ?_)
   ·exact RM.imm rfl (wkS.c (wkC.int (by simp only [Qai, if_pos h1, hr, if_pos, if_pos h3])))
   ·exact RM.imm rfl (wkS.c (wkC.int (by simp only [Qai, if_pos h1, hr, if_pos, if_neg h3])))
theorem QkE : HB 172 := hB Tryz.func172
theorem QlR (z : Zone) : PS 241 [z.s] ((Qa7 z).s) := by
 refine PSpec.rm ?_
 refine ov hΓ Tryz.func241 10 0 [.cell 2 117] Tryz.ntmps241 Tryz.results241 ?_
 refine Go1 fun _h=>?_
 refine Br.of (fun h=>Go0 ?_) (fun h=>Go0 ?_)
 ·have : Qa7 z = ⟨0, z.durable, z.sectors⟩ := by simp only [Qa7]; rw [if_pos om]
  rw [this]
  exact RM.imm rfl (wkS.imm rfl)
 ·have : Qa7 z = ⟨3, z.durable, z.sectors⟩ := by simp only [Qa7]; rw [if_neg om]
  rw [this]
  exact RM.imm rfl (wkS.imm rfl)
theorem QlD : HB 241 := hB Tryz.func241
theorem Qd5 (d : Dev) (hd : d.zones.length ≤ 10000000) (zone : Int) (hz : 0 ≤ zone ∧ zone < d.zones.length) (z : Zone) : PS 211 [d.s, .c (.int .i64 zone), z.s] (({ d with zones := d.zones.set zone.toNat z } : Dev).s) := by
 refine PSpec.rm ?_
 refine ov0 hΓ Tryz.func211 18 0 [.cell 6 29] Tryz.ntmps211 Tryz.results211 ?_
 have hk : zone.toNat < d.zones.length := by omega
 refine RM.devS 3 rfl (fun i hi j hj => ?_) rfl (by simp) (fun i hi j hj => ?_)
 ·exact (congrArg C.imm (Qlu hk rfl i j hj)).trans (QbI _ _ _)
 ·exact leF.of_eq (Qlu hk rfl i j hj)
theorem Qea : HB 211 := hB Tryz.func211
theorem Ql8 (d : Dev) (hd : d.zones.length ≤ 10000000) (zone : Nat) (hz : zone < d.zones.length) (hno : QK (d.zones.getD zone default).state = false) : PS 210 [d.s, .c (.int .i64 zone)] (Dev.out (Qcc d zone) (Qr d zone).1) := by
 refine PSpec.rm ?_
 refine ov hΓ Tryz.func210 74 0 [.cell 4 29, .tmp 5] Tryz.ntmps210 Tryz.results210 ?_
 have hst : (d.zones.getD zone default).state ≠ 1 ∧ (d.zones.getD zone default).state ≠ 2 := by
  simp only [QK, decide_eq_false_iff_not] at hno
  omega
 conv=>whnf
 refine CallN.pure Qcy (Qcv d ) (leA.refl rfl) rfl (Go0 ?_)
 refine Br.of (fun h1=>Go0 ?_) (fun h1=>Go0 ?_)
 ·refine Lp.mk hΓ (ι := Nat) (fun k => [(9, .c (.int .i64 k)), (2, .c (.ptr 0 0)), (4, .c (.ptr 1 0)), (6, .c (.ptr 2 0)), (1, .c (.int .i64 zone))])
   (fun _ => [.vr d.cells, .vr [.int .i64 0, .int .i64 0, .int .i64 0, .nils], .vr d.cells]) (fun k => k ≤ d.zones.length ∧ ∀ i, i < k → (d.zones.getD i default).state ≠ 1) (fun k => d.zones.length - k) 0 ⟨Nat.zero_le _, fun i hi => by omega⟩ ?_ ?_
  ·exact Mv.mk' 3 rfl ⟨O.wk.vr (Qx rfl), O.wk.vr (Qx rfl), O.wk.vr (Qx rfl), trivial⟩ ⟨wkS.imm rfl, wkS.c (wkC.ptr (by decide)), wkS.c (wkC.ptr (by decide)), wkS.c (wkC.ptr (by decide)), wkS.imm rfl, trivial⟩ (Nat.zero_le _)
  ·rintro k ⟨hk, hka⟩
   refine Go1 fun _h=>?_
   (first|refine Br.od (fun h=>?_) (fun h=>?_)|refine Br.mk (fun h=>?_) (fun h=>?_)<;>simp [-List.length_eq_zero_iff,-List.getD_eq_getElem?_getD] at h)<;>(try simp only [Int.toNat_natCast] at h)<;>(conv=>whnf)
   ·refine Go0 ?_
    have w0 := Qa (↑k + 1) om om
    refine ⟨k + 1, ⟨om, fun i hi => ?_⟩, om, Mv.mk' 3 rfl ⟨O.wk.vr (Qx rfl), O.wk.vr (Qx rfl), O.wk.vr (Qx rfl), trivial⟩ ⟨wkS.c (wkC.int (by rw [w0]; rfl)), wkS.c (wkC.ptr (by decide)), wkS.c (wkC.ptr (by decide)), wkS.c (wkC.ptr (by decide)), wkS.imm rfl, trivial⟩ (Nat.zero_le _)⟩
    by_cases c : i = k
    ·subst c; simpa using h.2
    ·exact hka i om
   ·refine Go1 fun _h=>?_
    refine Br.of (fun h3=>Go0 ?_) (fun h3=>Go0 ?_)
    ·have : k = d.zones.length := by omega
     subst this
     have hr : Qr d zone = (8, d.zones) := by
      simp only [Qr]
      rw [if_pos om, if_neg (by rw [Qf4 _ hka]; omega)]
     rw [show Qcc d zone = d by simp only [Qcc, hr]; rfl, hr]
     exact RM.imm rfl (wkS.imm rfl)
    ·have hlt : k < d.zones.length := by omega
     have hk1 : (d.zones.getD k default).state = 1 := by simpa using h om
     have hfo : Q6 d.zones = k := QfU _ _ hlt hka hk1
     have hr0 : Qr d zone = if ((Qac d.zones k).getD zone default).state ≠ 3 ∧ d.maxActive ≤ Qt (Qac d.zones k) then (9, Qac d.zones k) else (0, Qac d.zones k) := by
      simp only [Qr]
      rw [if_pos om, if_pos om, hfo]
     rw [QnK _ _ _ hz hk1 hno] at hr0
     refine Dr.mk hΓ hMix (by kernel_rfl) (Go0 ?_)
     refine CallP.mk QlD (QlR (d.zones.getD k default) ) (leA.refl rfl) rfl (Go0 ?_)
     refine CallP.mk Qea (Qd5 d hd k om (Qa7 (d.zones.getD k default)) ) (leA.refl rfl) rfl (Go0 ?_)
     refine CallN.pure Qcy (Qcv ({ d with zones := (Qac d.zones k) } : Dev) ) (leA.refl rfl) rfl (Go0 ?_)
     refine CallN.pure Qcz (Qcw _ ) (leA.refl rfl) rfl (Go0 ?_)
     (first|refine Br.od (fun h5=>?_) (fun h5=>?_)|refine Br.mk (fun h5=>?_) (fun h5=>?_)<;>simp [-List.length_eq_zero_iff,-List.getD_eq_getElem?_getD] at h5)<;>(try simp only [Int.toNat_natCast] at h5)<;>(conv=>whnf)
     ·refine Go0 ?_
      have hr : Qr d zone = (9, (Qac d.zones k)) := by
       rw [hr0]
       refine if_pos ?_
       have := hst
       simp only [QR, decide_eq_false_iff_not] at h5
       omega
      rw [show Qcc d zone = d by simp only [Qcc, hr]; rfl, hr]
      exact RM.imm rfl (wkS.imm rfl)
     ·refine Go0 ?_
      have hr : Qr d zone = (0, (Qac d.zones k)) := by
       rw [hr0]
       refine if_neg ?_
       simp only [QR, decide_eq_false_iff_not] at h5
       have := hst
       omega
      rw [show Qcc d zone = { d with zones := (Qac d.zones k) } by simp only [Qcc, hr]; rfl, hr]
      exact RM.imm rfl (wkS.imm rfl)
 ·have hr0 : Qr d zone = if (d.zones.getD zone default).state ≠ 3 ∧ d.maxActive ≤ Qt d.zones then (9, d.zones) else (0, d.zones) := by
   simp only [Qr]
   rw [if_neg om]
  refine CallN.pure Qcy (Qcv ({ d with zones := d.zones } : Dev) ) (leA.refl rfl) rfl (Go0 ?_)
  refine CallN.pure Qcz (Qcw _ ) (leA.refl rfl) rfl (Go0 ?_)
  (first|refine Br.od (fun h5=>?_) (fun h5=>?_)|refine Br.mk (fun h5=>?_) (fun h5=>?_)<;>simp [-List.length_eq_zero_iff,-List.getD_eq_getElem?_getD] at h5)<;>(try simp only [Int.toNat_natCast] at h5)<;>(conv=>whnf)
  ·refine Go0 ?_
   have hr : Qr d zone = (9, d.zones) := by
    rw [hr0]
    refine if_pos ?_
    have := hst
    simp only [QR, decide_eq_false_iff_not] at h5
    omega
   rw [show Qcc d zone = d by simp only [Qcc, hr]; rfl, hr]
   exact RM.imm rfl (wkS.imm rfl)
  ·refine Go0 ?_
   have hr : Qr d zone = (0, d.zones) := by
    rw [hr0]
    refine if_neg ?_
    simp only [QR, decide_eq_false_iff_not] at h5
    have := hst
    omega
   rw [show Qcc d zone = { d with zones := d.zones } by simp only [Qcc, hr]; rfl, hr]
   exact RM.imm rfl (wkS.imm rfl)
theorem QlV : HB 210 := hB Tryz.func210
set_option maxRecDepth 100000 in
theorem QaQ (d : Dev) (hd : d.small) (zone : Int) (s : ByteArray) : PS 161 [d.s, .c (.int .i64 zone), .c (.str s)] (Dev.out3 (Qaa d zone s) (Qe d zone s) (Q9 d zone s)) := by
 refine PSpec.rm ?_
 refine ov hΓ Tryz.func161 111 0 [.cell 6 29, .tmp 7, .tmp 8] Tryz.ntmps161 Tryz.results161 ?_
 have bad : ∀ e ts, Q9 d zone s = e → e ≠ 0 → RM 0 (.t [.inr d.cells, .inl (.int .i64 0), .inl (.int .i64 e)]) ts (Dev.out3 (Qaa d zone s) (Qe d zone s) (Q9 d zone s)) [] := by
  intro e ts h1 h2
  have h3 : ¬ Q9 d zone s = 0 := by rw [h1]; exact h2
  rw [show Qaa d zone s = d by simp only [Qaa, if_neg h3], show Qe d zone s = 0 by simp only [Qe, if_neg h3], h1]
  exact RM.imm rfl (wkS.imm rfl)
 conv=>whnf
 refine CallN.pure Qb2 (QbZ d ) (leA.refl rfl) rfl (Go0 ?_)
 refine Br.of (fun h1=>Go0 ?_) (fun h1=>Go0 ?_)
 ·exact bad _ _ (by simp only [Q9, if_neg h1]) h1
 ·(first|refine Br.od (fun h2=>?_) (fun h2=>?_)|refine Br.mk (fun h2=>?_) (fun h2=>?_)<;>simp [-List.length_eq_zero_iff,-List.getD_eq_getElem?_getD] at h2)<;>(try simp only [Int.toNat_natCast] at h2)<;>(conv=>whnf)
  ·refine Go0 ?_
   have : decide (0 ≤ zone ∧ zone < d.zones.length) = false := by simp only [decide_eq_false_iff_not]; omega
   exact bad _ _ (by simp only [Q9, if_pos h1, this]; rfl) (by decide)
  ·refine Go1 fun _h=>?_
   have hrange : decide (0 ≤ zone ∧ zone < d.zones.length) = true := by simp only [decide_eq_true_eq]; omega
   have hk : zone.toNat < d.zones.length := by omega
   refine Br.of (fun h3=>Go0 ?_) (fun h3=>Go0 ?_)
   ·exact bad _ _ (by simp only [Q9, if_pos h1, hrange, if_pos]; rw [if_neg om]) (by decide)
   ·have h40 : s.size = 40 := by omega
    refine Br.of (fun h5=>Go0 ?_) (fun h5=>Go0 ?_)
    ·exact bad _ _ (by simp only [Q9, if_pos h1, hrange, if_pos, if_pos h40, if_pos h5]) (by decide)
    ·refine Br.of (fun h4=>Go0 ?_) (fun h4=>Go0 ?_)
     ·exact bad _ _ (by simp only [Q9, if_pos h1, hrange, if_pos, if_pos h40, if_neg h5, if_pos h4]) (by decide)
     ·refine CallN.pure QbR (QbF _ ) (leA.refl rfl) rfl (Go0 ?_)
      have hm : (d.zones.getD zone.toNat default).sectors.length ≤ 10000000 := hd.s _
      have hz := hd.z
      refine Br.of (fun ho=>Go0 ?_) (fun ho=>Go0 ?_)
      ·have hE : Q9 d zone s = (Qr d zone.toNat).1 := by
        simp only [Q9, if_pos h1, hrange, if_pos, if_pos h40, if_neg h5, if_neg h4]; rw [ho]; rfl
       have hL : Qa5 d zone.toNat = (Qr d zone.toNat).2 := by simp only [Qa5]; rw [ho]; rfl
       have hlen := Qk2 d zone.toNat
       have hsec := QgR d zone.toNat zone.toNat
       have hm' : ((Qr d zone.toNat).2.getD zone.toNat default).sectors.length ≤ 10000000 := by rw [hsec]; exact hm
       have hcl := Qnf d zone.toNat zone.toNat ho
       have hzz : zone = (zone.toNat : Int) := by omega
       refine CallN.pure QlV (Ql8 d hd.z zone.toNat hk ho) (leA.cons rfl (wkS.imm rfl) (leA.cons rfl (wkS.c (wkC.int hzz)) leA.nil)) rfl ?_
       by_cases hr0 : (Qr d zone.toNat).1 = 0
       ·have hE0 : Q9 d zone s = 0 := by rw [hE, hr0]
        have hI : Qe d zone s = ((Qr d zone.toNat).2.getD zone.toNat default).sectors.length := by simp only [Qe, if_pos hE0, hsec]
        rw [hr0, show Qcc d zone.toNat = { d with zones := (Qr d zone.toNat).2 } by simp only [Qcc, if_pos hr0]]
        refine Go0 ?_
        refine Br.no rfl (Go0 ?_)
        have hk' : zone.toNat < (Qr d zone.toNat).2.length := by omega
        have himm : ∀ i, i < 0 + ((Qr d zone.toNat).2.getD zone.toNat default).sectors.length + 1 → ∀ j, j < 1 → (appG (appG (QaC 1 []) 0 (fun i _ => .str (((Qr d zone.toNat).2.getD zone.toNat default).sectors.getD i ByteArray.empty))) (0 + ((Qr d zone.toNat).2.getD zone.toNat default).sectors.length) (QaC 1 [.str s]) i j).imm = true := by
         intro i hi j hj
         have : j = 0 := by omega
         subst this
         rw [Nat.zero_add] at hi ⊢
         rw [Qeq _ _ _ _ _ hi]
         rfl
        have hcel : ∀ i, i < 0 + ((Qr d zone.toNat).2.getD zone.toNat default).sectors.length + 1 → ∀ j, j < 1 → leF (appG (appG (QaC 1 []) 0 (fun i _ => .str (((Qr d zone.toNat).2.getD zone.toNat default).sectors.getD i ByteArray.empty))) (0 + ((Qr d zone.toNat).2.getD zone.toNat default).sectors.length) (QaC 1 [.str s]) i j) (.str ((((Qr d zone.toNat).2.getD zone.toNat default).sectors ++ [s]).getD i ByteArray.empty)) := by
         intro i hi j hj
         have : j = 0 := by omega
         subst this
         rw [Nat.zero_add] at hi ⊢
         exact leF.of_eq (Qeq _ _ _ _ _ hi)
        refine CallN.pure QbR (QbF _ ) (leA.refl rfl) rfl (Go0 ?_)
        refine Br.yes (by rw [hcl]; rfl) (Go0 ?_)
        refine Br.of (fun hs=>Go0 ?_) (fun hs=>Go0 ?_)
        ·try dsimp only at hs
         refine Dr.mkS hΓ hMix [(0,3),(1,3)] (by kernel_rfl) (Go0 ?_)
         refine Dr.mv [(10, .c (.ptr 2 0)), (1, .c (.int .i64 zone)), (13, .c (.ptr 4 0)), (6, .c (.ptr 1 0))] [.vr d.cells, .vr [.int .i64 0, .int .i64 0, .int .i64 0, .nils], .vr ({ d with zones := (Qr d zone.toNat).2 } : Dev).cells, .vr ({ d with zones := (Qr d zone.toNat).2 } : Dev).cells, .vr [.int .i64 4, .int .i64 d.size, QbW (((Qr d zone.toNat).2.getD zone.toNat default).sectors ++ [s])]] ((Mv.fz 5 rfl (Nat.zero_le _) himm).trans (Mv.mk' 5 rfl ⟨O.wk.vr (Qx rfl), O.wk.vr (Qx rfl), O.wk.vr (Qx rfl), O.wk.vr (Qx rfl), O.wk.vr ⟨wkC.imm rfl, wkC.imm rfl, wkC.fz (by simp) (by simp) hcel (fun e => by cases e), trivial⟩, trivial⟩
          ⟨wkS.c (wkC.ptr (by decide)), wkS.imm rfl, wkS.c (wkC.ptr (by decide)), wkS.c (wkC.ptr (by decide)), trivial⟩ (Nat.zero_le _))) ?_
         refine Dr.mkS hΓ hMix [(4,8),(5,8),(6,8),(7,8)] (by kernel_rfl) (Go0 ?_)
         refine CallP.mk Qea (Qd5 ({ d with zones := (Qr d zone.toNat).2 } : Dev) (show (Qr d zone.toNat).2.length ≤ 10000000 by omega) zone (show 0 ≤ zone ∧ zone < ((Qr d zone.toNat).2.length : Int) by omega) ⟨4, d.size, ((Qr d zone.toNat).2.getD zone.toNat default).sectors ++ [s]⟩ ) (leA.refl rfl) rfl (Go0 ?_)
         have hD : Qaa d zone s = { d with zones := (Qr d zone.toNat).2.set zone.toNat ⟨4, d.size, ((Qr d zone.toNat).2.getD zone.toNat default).sectors ++ [s]⟩ } := by
          simp only [Qaa, if_pos hE0, hL, grow]
          rw [if_pos om]
         rw [hD, hI, hE0]
         refine RM.imm rfl (wkS.t ⟨Qx rfl, wkC.int ?_, wkC.imm rfl, trivial⟩)
         simp only [List.length_append, List.length_cons, List.length_nil]
         rw [Qa _ om om]; omega
        ·try dsimp only at hs
         refine Dr.mv [(10, .c (.ptr 2 0)), (1, .c (.int .i64 zone)), (13, .c (.ptr 4 0)), (6, .c (.ptr 1 0))] [.vr d.cells, .vr [.int .i64 0, .int .i64 0, .int .i64 0, .nils], .vr ({ d with zones := (Qr d zone.toNat).2 } : Dev).cells, .vr ({ d with zones := (Qr d zone.toNat).2 } : Dev).cells, .vr [.int .i64 1, .int .i64 ((Qr d zone.toNat).2.getD zone.toNat default).durable, QbW (((Qr d zone.toNat).2.getD zone.toNat default).sectors ++ [s])]] ((Mv.fz 5 rfl (Nat.zero_le _) himm).trans (Mv.mk' 5 rfl ⟨O.wk.vr (Qx rfl), O.wk.vr (Qx rfl), O.wk.vr (Qx rfl), O.wk.vr (Qx rfl), O.wk.vr ⟨wkC.imm rfl, wkC.imm rfl, wkC.fz (by simp) (by simp) hcel (fun e => by cases e), trivial⟩, trivial⟩
          ⟨wkS.c (wkC.ptr (by decide)), wkS.imm rfl, wkS.c (wkC.ptr (by decide)), wkS.c (wkC.ptr (by decide)), trivial⟩ (Nat.zero_le _))) ?_
         refine Dr.mkS hΓ hMix [(4,8),(5,8),(6,8),(7,8)] (by kernel_rfl) (Go0 ?_)
         refine CallP.mk Qea (Qd5 ({ d with zones := (Qr d zone.toNat).2 } : Dev) (show (Qr d zone.toNat).2.length ≤ 10000000 by omega) zone (show 0 ≤ zone ∧ zone < ((Qr d zone.toNat).2.length : Int) by omega) ⟨1, ((Qr d zone.toNat).2.getD zone.toNat default).durable, ((Qr d zone.toNat).2.getD zone.toNat default).sectors ++ [s]⟩ ) (leA.refl rfl) rfl (Go0 ?_)
         have hD : Qaa d zone s = { d with zones := (Qr d zone.toNat).2.set zone.toNat ⟨1, ((Qr d zone.toNat).2.getD zone.toNat default).durable, ((Qr d zone.toNat).2.getD zone.toNat default).sectors ++ [s]⟩ } := by
          simp only [Qaa, if_pos hE0, hL, grow]
          rw [if_neg om, hcl]; rfl
         rw [hD, hI, hE0]
         refine RM.imm rfl (wkS.t ⟨Qx rfl, wkC.int ?_, wkC.imm rfl, trivial⟩)
         simp only [List.length_append, List.length_cons, List.length_nil]
         rw [Qa _ om om]; omega
       ·rw [show Qcc d zone.toNat = d by simp only [Qcc, if_neg hr0]]
        refine Go0 ?_
        refine Br.of (fun h6=>?_) (fun h6=>?_)<;>(try simp only [Int.toNat_natCast] at h6)<;>(conv=>whnf)
        ·refine Go0 ?_
         try dsimp only at hs
         exact bad _ _ hE hr0
        ·exact absurd h6 hr0
      ·have hE0 : Q9 d zone s = 0 := by
        simp only [Q9, if_pos h1, hrange, if_pos, if_pos h40, if_neg h5, if_neg h4]; rw [ho]; rfl
       have hL : Qa5 d zone.toNat = d.zones := by simp only [Qa5]; rw [ho]; rfl
       have hI : Qe d zone s = (d.zones.getD zone.toNat default).sectors.length := by simp only [Qe, if_pos hE0]
       have hk' : zone.toNat < d.zones.length := by omega
       have himm : ∀ i, i < 0 + (d.zones.getD zone.toNat default).sectors.length + 1 → ∀ j, j < 1 → (appG (appG (QaC 1 []) 0 (fun i _ => .str ((d.zones.getD zone.toNat default).sectors.getD i ByteArray.empty))) (0 + (d.zones.getD zone.toNat default).sectors.length) (QaC 1 [.str s]) i j).imm = true := by
        intro i hi j hj
        have : j = 0 := by omega
        subst this
        rw [Nat.zero_add] at hi ⊢
        rw [Qeq _ _ _ _ _ hi]
        rfl
       have hcel : ∀ i, i < 0 + (d.zones.getD zone.toNat default).sectors.length + 1 → ∀ j, j < 1 → leF (appG (appG (QaC 1 []) 0 (fun i _ => .str ((d.zones.getD zone.toNat default).sectors.getD i ByteArray.empty))) (0 + (d.zones.getD zone.toNat default).sectors.length) (QaC 1 [.str s]) i j) (.str (((d.zones.getD zone.toNat default).sectors ++ [s]).getD i ByteArray.empty)) := by
        intro i hi j hj
        have : j = 0 := by omega
        subst this
        rw [Nat.zero_add] at hi ⊢
        exact leF.of_eq (Qeq _ _ _ _ _ hi)
       refine CallN.pure QbR (QbF _ ) (leA.refl rfl) rfl (Go0 ?_)
       refine Br.no (by rw [ho]; rfl) (Go0 ?_)
       refine Br.of (fun hs=>Go0 ?_) (fun hs=>Go0 ?_)
       ·try dsimp only at hs
        refine Dr.mkS hΓ hMix [(0,3),(1,3)] (by kernel_rfl) (Go0 ?_)
        refine Dr.mv [(10, .c (.ptr 2 0)), (1, .c (.int .i64 zone)), (13, .c (.ptr 3 0)), (6, .c (.ptr 1 0))] [.vr d.cells, .vr [.int .i64 0, .int .i64 0, .int .i64 0, .nils], .vr ({ d with zones := d.zones } : Dev).cells, .vr [.int .i64 4, .int .i64 d.size, QbW ((d.zones.getD zone.toNat default).sectors ++ [s])]] ((Mv.fz 4 rfl (Nat.zero_le _) himm).trans (Mv.mk' 4 rfl ⟨O.wk.vr (Qx rfl), O.wk.vr (Qx rfl), O.wk.vr (Qx rfl), O.wk.vr ⟨wkC.imm rfl, wkC.imm rfl, wkC.fz (by simp) (by simp) hcel (fun e => by cases e), trivial⟩, trivial⟩
         ⟨wkS.c (wkC.ptr (by decide)), wkS.imm rfl, wkS.c (wkC.ptr (by decide)), wkS.c (wkC.ptr (by decide)), trivial⟩ (Nat.zero_le _))) ?_
        refine Dr.mkS hΓ hMix [(4,8),(5,8),(6,8),(7,8)] (by kernel_rfl) (Go0 ?_)
        refine CallP.mk Qea (Qd5 ({ d with zones := d.zones } : Dev) (show d.zones.length ≤ 10000000 by omega) zone (show 0 ≤ zone ∧ zone < (d.zones.length : Int) by omega) ⟨4, d.size, (d.zones.getD zone.toNat default).sectors ++ [s]⟩ ) (leA.refl rfl) rfl (Go0 ?_)
        have hD : Qaa d zone s = { d with zones := d.zones.set zone.toNat ⟨4, d.size, (d.zones.getD zone.toNat default).sectors ++ [s]⟩ } := by
         simp only [Qaa, if_pos hE0, hL, grow]
         rw [if_pos om]
        rw [hD, hI, hE0]
        refine RM.imm rfl (wkS.t ⟨Qx rfl, wkC.int ?_, wkC.imm rfl, trivial⟩)
        simp only [List.length_append, List.length_cons, List.length_nil]
        rw [Qa _ om om]; omega
       ·try dsimp only at hs
        refine Dr.mv [(10, .c (.ptr 2 0)), (1, .c (.int .i64 zone)), (13, .c (.ptr 3 0)), (6, .c (.ptr 1 0))] [.vr d.cells, .vr [.int .i64 0, .int .i64 0, .int .i64 0, .nils], .vr ({ d with zones := d.zones } : Dev).cells, .vr [.int .i64 (d.zones.getD zone.toNat default).state, .int .i64 (d.zones.getD zone.toNat default).durable, QbW ((d.zones.getD zone.toNat default).sectors ++ [s])]] ((Mv.fz 4 rfl (Nat.zero_le _) himm).trans (Mv.mk' 4 rfl ⟨O.wk.vr (Qx rfl), O.wk.vr (Qx rfl), O.wk.vr (Qx rfl), O.wk.vr ⟨wkC.imm rfl, wkC.imm rfl, wkC.fz (by simp) (by simp) hcel (fun e => by cases e), trivial⟩, trivial⟩
         ⟨wkS.c (wkC.ptr (by decide)), wkS.imm rfl, wkS.c (wkC.ptr (by decide)), wkS.c (wkC.ptr (by decide)), trivial⟩ (Nat.zero_le _))) ?_
        refine Dr.mkS hΓ hMix [(4,8),(5,8),(6,8),(7,8)] (by kernel_rfl) (Go0 ?_)
        refine CallP.mk Qea (Qd5 ({ d with zones := d.zones } : Dev) (show d.zones.length ≤ 10000000 by omega) zone (show 0 ≤ zone ∧ zone < (d.zones.length : Int) by omega) ⟨(d.zones.getD zone.toNat default).state, (d.zones.getD zone.toNat default).durable, (d.zones.getD zone.toNat default).sectors ++ [s]⟩ ) (leA.refl rfl) rfl (Go0 ?_)
        have hD : Qaa d zone s = { d with zones := d.zones.set zone.toNat ⟨(d.zones.getD zone.toNat default).state, (d.zones.getD zone.toNat default).durable, (d.zones.getD zone.toNat default).sectors ++ [s]⟩ } := by
         simp only [Qaa, if_pos hE0, hL, grow]
         rw [if_neg om, ho]; rfl
        rw [hD, hI, hE0]
        refine RM.imm rfl (wkS.t ⟨Qx rfl, wkC.int ?_, wkC.imm rfl, trivial⟩)
        simp only [List.length_append, List.length_cons, List.length_nil]
        rw [Qa _ om om]; omega
theorem QaR : HB 161 := hB Tryz.func161
theorem Qdc (d : Dev) (zone off : Int) : PS 100 [d.s, .c (.int .i64 zone), .c (.int .i64 off)] (.t [.inl (.str (Qa4 d zone off)), .inl (.int .i64 (Qeo d zone off))]) := by
 refine PSpec.rm ?_
 refine ov hΓ Tryz.func100 37 0 [.tmp 6, .tmp 7] Tryz.ntmps100 Tryz.results100 ?_
 conv=>whnf
 refine CallN.pure QkE (Qkd d zone ) (leA.refl rfl) rfl (Go0 ?_)
 refine Br.of (fun h1=>?_) (fun h1=>?_)<;>(try simp only [Int.toNat_natCast] at h1)<;>(conv=>whnf)
 ·refine Go0 ?_
  have h2 : Qeo d zone off = Qai d zone := by simp only [Qeo, if_neg h1]
  have : Qa4 d zone off = ByteArray.empty := by simp only [Qa4, h2, if_neg h1]
  exact RM.imm rfl (wkS.t ⟨wkC.str (by rw [this]; rfl), wkC.int h2.symm, trivial⟩)
 ·obtain ⟨hok, hz0, hz1⟩ := QbT h1
  have hk : zone.toNat < d.zones.length := by omega
  have hrE : ∀ e : Int, (if decide (0 ≤ off ∧ off < (d.zones.getD zone.toNat default).sectors.length) then 0 else 10) = e → Qeo d zone off = e := by
   intro e h; simp only [Qeo, if_pos h1]; exact h
  refine Go0 ?_
  (first|refine Br.od (fun h2=>?_) (fun h2=>?_)|refine Br.mk (fun h2=>?_) (fun h2=>?_)<;>simp [-List.length_eq_zero_iff,-List.getD_eq_getElem?_getD] at h2)<;>(try simp only [Int.toNat_natCast] at h2)<;>(conv=>whnf)
  ·refine Go0 ?_
   have : decide (0 ≤ off ∧ off < (d.zones.getD zone.toNat default).sectors.length) = false := by simp only [decide_eq_false_iff_not]; omega
   have h10 := hrE 10 (by rw [this]; rfl)
   exact RM.imm rfl (wkS.t ⟨wkC.str (by simp only [Qa4, h10]; rfl), wkC.int h10.symm, trivial⟩)
  ·refine Go0 ?_
   have : decide (0 ≤ off ∧ off < (d.zones.getD zone.toNat default).sectors.length) = true := by simp only [decide_eq_true_eq]; omega
   have h0 := hrE 0 (by rw [this]; rfl)
   exact RM.imm rfl (wkS.t ⟨wkC.str (by simp only [Qa4, h0]; rfl), wkC.int h0.symm, trivial⟩)
theorem Qde : HB 100 := hB Tryz.func100
end Go.Proofs
end
