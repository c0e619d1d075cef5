/- Contracts, lemmas; no condition. -/
import Derived.Test.YtkelkepdcfogaaaGreatP11D
import Derived.Test.YtkelkepdcfogaaaGreatP19D
import Derived.Test.YtkelkepdcfogaaaGreatA26D
import Derived.Test.YtkelkepdcfogaaaGreatP17D
import Derived.Test.YtkelkepdcfogaaaGreatP16D
import Derived.Test.YtkelkepdcfogaaaGreatEnvD
import Derived.Test.YtkelkepdcfogaaaGreatP13D
set_option linter.all false
section
open Go Go.Am
namespace Go.Proofs
set_option maxRecDepth 20000
theorem QgK (d : Dev) (hd : d.zones.length ≤ 10000000) (zone : Nat) (hz : zone < d.zones.length) (hno : Qt (d.zones.getD zone default).state = false) : PS 65 [d.s, .c (.int .i64 zone)] (Dev.out (QbK d zone) (Qj d zone).1) := by
 refine PSpec.rm ?_
 refine ov hΓ Tryz.func65 74 0 [.cell 4 29, .tmp 5] Tryz.ntmps65 Tryz.results65 ?_
 have hst : (d.zones.getD zone default).state ≠ 1 ∧ (d.zones.getD zone default).state ≠ 2 := by
  simp only [Qt, decide_eq_false_iff_not] at hno
  omega
 conv=>whnf
 refine CallN.pure Qcl (Qcq d ) (leA.refl rfl) rfl (Go0 ?_)
 refine Br.of (fun h1=>Go0 ?_) (fun h1=>Go0 ?_)
 ·refine Lp.mk hΓ (ι := Nat) (fun k => [(9, .c (.int .i64 k)), (2, .c (.ptr 0 0)), (4, .c (.ptr 1 0)), (6, .c (.ptr 2 0)), (1, .c (.int .i64 zone))])
   (fun _ => [.vr d.cells, .vr [.int .i64 0, .int .i64 0, .int .i64 0, .nils], .vr d.cells]) (fun k => k ≤ d.zones.length ∧ ∀ i, i < k → (d.zones.getD i default).state ≠ 1) (fun k => d.zones.length - k) 0 ⟨Nat.zero_le _, fun i hi => by omega⟩ ?_ ?_
  ·exact Mv.mk' 3 rfl ⟨O.wk.vr (Qs rfl), O.wk.vr (Qs rfl), O.wk.vr (Qs rfl), trivial⟩ ⟨wkS.imm rfl, wkS.c (wkC.ptr (by decide)), wkS.c (wkC.ptr (by decide)), wkS.c (wkC.ptr (by decide)), wkS.imm rfl, trivial⟩ (Nat.zero_le _)
  ·rintro k ⟨hk, hka⟩
   refine Go1 fun _h=>?_
   (first|refine Br.od (fun h=>?_) (fun h=>?_)|refine Br.mk (fun h=>?_) (fun h=>?_)<;>simp [-List.length_eq_zero_iff,-List.getD_eq_getElem?_getD] at h)<;>(try simp only [Int.toNat_natCast] at h)<;>(conv=>whnf)
   ·refine Go0 ?_
    have w0 := Qa (↑k + 1) (by omega) (by omega)
    refine ⟨k + 1, ⟨by omega, fun i hi => ?_⟩, by omega, Mv.mk' 3 rfl ⟨O.wk.vr (Qs rfl), O.wk.vr (Qs rfl), O.wk.vr (Qs rfl), trivial⟩ ⟨wkS.c (wkC.int (by rw [w0]; rfl)), wkS.c (wkC.ptr (by decide)), wkS.c (wkC.ptr (by decide)), wkS.c (wkC.ptr (by decide)), wkS.imm rfl, trivial⟩ (Nat.zero_le _)⟩
    by_cases c : i = k
    ·subst c; simpa using h.2
    ·exact hka i (by omega)
   ·refine Go1 fun _h=>?_
    refine Br.of (fun h3=>Go0 ?_) (fun h3=>Go0 ?_)
    ·have : k = d.zones.length := by omega
     subst this
     have hr : Qj d zone = (8, d.zones) := by
      simp only [Qj]
      rw [if_pos (by omega), if_neg (by rw [QfE _ hka]; omega)]
     rw [show QbK d zone = d by simp only [QbK, hr]; rfl, hr]
     exact RM.imm rfl (wkS.imm rfl)
    ·have hlt : k < d.zones.length := by omega
     have hk1 : (d.zones.getD k default).state = 1 := by simpa using h (by omega)
     have hfo : Q1 d.zones = k := QfC _ _ hlt hka hk1
     have hr0 : Qj d zone = if ((QY d.zones k).getD zone default).state ≠ 3 ∧ d.maxActive ≤ Qm (QY d.zones k) then (9, QY d.zones k) else (0, QY d.zones k) := by
      simp only [Qj]
      rw [if_pos (by omega), if_pos (by omega), hfo]
     rw [QnQ _ _ _ hz hk1 hno] at hr0
     refine Dr.mk hΓ hMix (by kernel_rfl) (Go0 ?_)
     refine CallP.mk QlL (Qlo (d.zones.getD k default) ) (leA.refl rfl) rfl (Go0 ?_)
     refine CallP.mk Qdc (Qc5 d hd k (by omega) (Qbc (d.zones.getD k default)) ) (leA.refl rfl) rfl (Go0 ?_)
     refine CallN.pure Qcl (Qcq ({ d with zones := (QY d.zones k) } : Dev) ) (leA.refl rfl) rfl (Go0 ?_)
     refine CallN.pure Qcr (Qcn _ ) (leA.refl rfl) rfl (Go0 ?_)
     (first|refine Br.od (fun h5=>?_) (fun h5=>?_)|refine Br.mk (fun h5=>?_) (fun h5=>?_)<;>simp [-List.length_eq_zero_iff,-List.getD_eq_getElem?_getD] at h5)<;>(try simp only [Int.toNat_natCast] at h5)<;>(conv=>whnf)
     ·refine Go0 ?_
      have hr : Qj d zone = (9, (QY d.zones k)) := by
       rw [hr0]
       refine if_pos ?_
       have := hst
       simp only [QN, decide_eq_false_iff_not] at h5
       omega
      rw [show QbK d zone = d by simp only [QbK, hr]; rfl, hr]
      exact RM.imm rfl (wkS.imm rfl)
     ·refine Go0 ?_
      have hr : Qj d zone = (0, (QY d.zones k)) := by
       rw [hr0]
       refine if_neg ?_
       simp only [QN, decide_eq_false_iff_not] at h5
       have := hst
       omega
      rw [show QbK d zone = { d with zones := (QY d.zones k) } by simp only [QbK, hr]; rfl, hr]
      exact RM.imm rfl (wkS.imm rfl)
 ·have hr0 : Qj d zone = if (d.zones.getD zone default).state ≠ 3 ∧ d.maxActive ≤ Qm d.zones then (9, d.zones) else (0, d.zones) := by
   simp only [Qj]
   rw [if_neg (by omega)]
  refine CallN.pure Qcl (Qcq ({ d with zones := d.zones } : Dev) ) (leA.refl rfl) rfl (Go0 ?_)
  refine CallN.pure Qcr (Qcn _ ) (leA.refl rfl) rfl (Go0 ?_)
  (first|refine Br.od (fun h5=>?_) (fun h5=>?_)|refine Br.mk (fun h5=>?_) (fun h5=>?_)<;>simp [-List.length_eq_zero_iff,-List.getD_eq_getElem?_getD] at h5)<;>(try simp only [Int.toNat_natCast] at h5)<;>(conv=>whnf)
  ·refine Go0 ?_
   have hr : Qj d zone = (9, d.zones) := by
    rw [hr0]
    refine if_pos ?_
    have := hst
    simp only [QN, decide_eq_false_iff_not] at h5
    omega
   rw [show QbK d zone = d by simp only [QbK, hr]; rfl, hr]
   exact RM.imm rfl (wkS.imm rfl)
  ·refine Go0 ?_
   have hr : Qj d zone = (0, d.zones) := by
    rw [hr0]
    refine if_neg ?_
    simp only [QN, decide_eq_false_iff_not] at h5
    have := hst
    omega
   rw [show QbK d zone = { d with zones := d.zones } by simp only [QbK, hr]; rfl, hr]
   exact RM.imm rfl (wkS.imm rfl)
theorem QgI : HB 65 := hB Tryz.func65
set_option maxRecDepth 100000 in
theorem Qcm (d : Dev) (hd : d.small) (zone : Int) (s : ByteArray) : PS 29 [d.s, .c (.int .i64 zone), .c (.str s)] (Dev.out3 (Qy d zone s) (Qa7 d zone s) (QV d zone s)) := by
 refine PSpec.rm ?_
 refine ov hΓ Tryz.func29 111 0 [.cell 6 29, .tmp 7, .tmp 8] Tryz.ntmps29 Tryz.results29 ?_
 have bad : ∀ e ts, QV d zone s = e → e ≠ 0 → RM 0 (.t [.inr d.cells, .inl (.int .i64 0), .inl (.int .i64 e)]) ts (Dev.out3 (Qy d zone s) (Qa7 d zone s) (QV d zone s)) [] := by
  intro e ts h1 h2
  have h3 : ¬ QV d zone s = 0 := by rw [h1]; exact h2
  rw [show Qy d zone s = d by simp only [Qy, if_neg h3], show Qa7 d zone s = 0 by simp only [Qa7, if_neg h3], h1]
  exact RM.imm rfl (wkS.imm rfl)
 conv=>whnf
 refine CallN.pure Qbx (Qby d ) (leA.refl rfl) rfl (Go0 ?_)
 refine Br.of (fun h1=>Go0 ?_) (fun h1=>Go0 ?_)
 ·exact bad _ _ (by simp only [QV, if_neg h1]) h1
 ·(first|refine Br.od (fun h2=>?_) (fun h2=>?_)|refine Br.mk (fun h2=>?_) (fun h2=>?_)<;>simp [-List.length_eq_zero_iff,-List.getD_eq_getElem?_getD] at h2)<;>(try simp only [Int.toNat_natCast] at h2)<;>(conv=>whnf)
  ·refine Go0 ?_
   have : decide (0 ≤ zone ∧ zone < d.zones.length) = false := by simp only [decide_eq_false_iff_not]; omega
   exact bad _ _ (by simp only [QV, if_pos h1, this]; rfl) (by decide)
  ·refine Go1 fun _h=>?_
   have hrange : decide (0 ≤ zone ∧ zone < d.zones.length) = true := by simp only [decide_eq_true_eq]; omega
   have hk : zone.toNat < d.zones.length := by omega
   refine Br.of (fun h3=>Go0 ?_) (fun h3=>Go0 ?_)
   ·exact bad _ _ (by simp only [QV, if_pos h1, hrange, if_pos]; rw [if_neg (by omega)]) (by decide)
   ·have h40 : s.size = 40 := by omega
    refine Br.of (fun h5=>Go0 ?_) (fun h5=>Go0 ?_)
    ·exact bad _ _ (by simp only [QV, if_pos h1, hrange, if_pos, if_pos h40, if_pos h5]) (by decide)
    ·refine Br.of (fun h4=>Go0 ?_) (fun h4=>Go0 ?_)
     ·exact bad _ _ (by simp only [QV, if_pos h1, hrange, if_pos, if_pos h40, if_neg h5, if_pos h4]) (by decide)
     ·refine CallN.pure QaX (Qa0 _ ) (leA.refl rfl) rfl (Go0 ?_)
      have hm : (d.zones.getD zone.toNat default).sectors.length ≤ 10000000 := hd.s _
      have hz := hd.z
      refine Br.of (fun ho=>Go0 ?_) (fun ho=>Go0 ?_)
      ·have hE : QV d zone s = (Qj d zone.toNat).1 := by
        simp only [QV, if_pos h1, hrange, if_pos, if_pos h40, if_neg h5, if_neg h4]; rw [ho]; rfl
       have hL : openL d zone.toNat = (Qj d zone.toNat).2 := by simp only [openL]; rw [ho]; rfl
       have hlen := Qlc d zone.toNat
       have hsec := QgJ d zone.toNat zone.toNat
       have hm' : ((Qj d zone.toNat).2.getD zone.toNat default).sectors.length ≤ 10000000 := by rw [hsec]; exact hm
       have hcl := Qnn d zone.toNat zone.toNat ho
       have hzz : zone = (zone.toNat : Int) := by omega
       refine CallN.pure QgI (QgK d hd.z zone.toNat hk ho) (leA.cons rfl (wkS.imm rfl) (leA.cons rfl (wkS.c (wkC.int hzz)) leA.nil)) rfl ?_
       by_cases hr0 : (Qj d zone.toNat).1 = 0
       ·have hE0 : QV d zone s = 0 := by rw [hE, hr0]
        have hI : Qa7 d zone s = ((Qj d zone.toNat).2.getD zone.toNat default).sectors.length := by simp only [Qa7, if_pos hE0, hsec]
        rw [hr0, show QbK d zone.toNat = { d with zones := (Qj d zone.toNat).2 } by simp only [QbK, if_pos hr0]]
        refine Go0 ?_
        refine Br.no rfl (Go0 ?_)
        have hk' : zone.toNat < (Qj d zone.toNat).2.length := by omega
        have himm : ∀ i, i < 0 + ((Qj d zone.toNat).2.getD zone.toNat default).sectors.length + 1 → ∀ j, j < 1 → (appG (appG (Q4 1 []) 0 (fun i _ => .str (((Qj d zone.toNat).2.getD zone.toNat default).sectors.getD i ByteArray.empty))) (0 + ((Qj d zone.toNat).2.getD zone.toNat default).sectors.length) (Q4 1 [.str s]) i j).imm = true := by
         intro i hi j hj
         have : j = 0 := by omega
         subst this
         rw [Nat.zero_add] at hi ⊢
         rw [QcG _ _ _ _ _ hi]
         rfl
        have hcel : ∀ i, i < 0 + ((Qj d zone.toNat).2.getD zone.toNat default).sectors.length + 1 → ∀ j, j < 1 → leF (appG (appG (Q4 1 []) 0 (fun i _ => .str (((Qj d zone.toNat).2.getD zone.toNat default).sectors.getD i ByteArray.empty))) (0 + ((Qj d zone.toNat).2.getD zone.toNat default).sectors.length) (Q4 1 [.str s]) i j) (.str ((((Qj d zone.toNat).2.getD zone.toNat default).sectors ++ [s]).getD i ByteArray.empty)) := by
         intro i hi j hj
         have : j = 0 := by omega
         subst this
         rw [Nat.zero_add] at hi ⊢
         exact leF.of_eq (QcG _ _ _ _ _ hi)
        refine CallN.pure QaX (Qa0 _ ) (leA.refl rfl) rfl (Go0 ?_)
        refine Br.yes (by rw [hcl]; rfl) (Go0 ?_)
        refine Br.of (fun hs=>Go0 ?_) (fun hs=>Go0 ?_)
        ·try dsimp only at hs
         refine Dr.mkS hΓ hMix [(0,3),(1,3)] (by kernel_rfl) (Go0 ?_)
         refine Dr.mv [(10, .c (.ptr 2 0)), (1, .c (.int .i64 zone)), (13, .c (.ptr 4 0)), (6, .c (.ptr 1 0))] [.vr d.cells, .vr [.int .i64 0, .int .i64 0, .int .i64 0, .nils], .vr ({ d with zones := (Qj d zone.toNat).2 } : Dev).cells, .vr ({ d with zones := (Qj d zone.toNat).2 } : Dev).cells, .vr [.int .i64 4, .int .i64 d.size, Qbq (((Qj d zone.toNat).2.getD zone.toNat default).sectors ++ [s])]] ((Mv.fz 5 rfl (Nat.zero_le _) himm).trans (Mv.mk' 5 rfl ⟨O.wk.vr (Qs rfl), O.wk.vr (Qs rfl), O.wk.vr (Qs rfl), O.wk.vr (Qs rfl), O.wk.vr ⟨wkC.imm rfl, wkC.imm rfl, wkC.fz (by simp) (by simp) hcel (fun e => by cases e), trivial⟩, trivial⟩
          ⟨wkS.c (wkC.ptr (by decide)), wkS.imm rfl, wkS.c (wkC.ptr (by decide)), wkS.c (wkC.ptr (by decide)), trivial⟩ (Nat.zero_le _))) ?_
         refine Dr.mkS hΓ hMix [(4,8),(5,8),(6,8),(7,8)] (by kernel_rfl) (Go0 ?_)
         refine CallP.mk Qdc (Qc5 ({ d with zones := (Qj d zone.toNat).2 } : Dev) (show (Qj d zone.toNat).2.length ≤ 10000000 by omega) zone (show 0 ≤ zone ∧ zone < ((Qj d zone.toNat).2.length : Int) by omega) ⟨4, d.size, ((Qj d zone.toNat).2.getD zone.toNat default).sectors ++ [s]⟩ ) (leA.refl rfl) rfl (Go0 ?_)
         have hD : Qy d zone s = { d with zones := (Qj d zone.toNat).2.set zone.toNat ⟨4, d.size, ((Qj d zone.toNat).2.getD zone.toNat default).sectors ++ [s]⟩ } := by
          simp only [Qy, if_pos hE0, hL, grow]
          rw [if_pos (by omega)]
         rw [hD, hI, hE0]
         refine RM.imm rfl (wkS.t ⟨Qs rfl, wkC.int ?_, wkC.imm rfl, trivial⟩)
         simp only [List.length_append, List.length_cons, List.length_nil]
         rw [Qa _ (by omega) (by omega)]; omega
        ·try dsimp only at hs
         refine Dr.mv [(10, .c (.ptr 2 0)), (1, .c (.int .i64 zone)), (13, .c (.ptr 4 0)), (6, .c (.ptr 1 0))] [.vr d.cells, .vr [.int .i64 0, .int .i64 0, .int .i64 0, .nils], .vr ({ d with zones := (Qj d zone.toNat).2 } : Dev).cells, .vr ({ d with zones := (Qj d zone.toNat).2 } : Dev).cells, .vr [.int .i64 1, .int .i64 ((Qj d zone.toNat).2.getD zone.toNat default).durable, Qbq (((Qj d zone.toNat).2.getD zone.toNat default).sectors ++ [s])]] ((Mv.fz 5 rfl (Nat.zero_le _) himm).trans (Mv.mk' 5 rfl ⟨O.wk.vr (Qs rfl), O.wk.vr (Qs rfl), O.wk.vr (Qs rfl), O.wk.vr (Qs rfl), O.wk.vr ⟨wkC.imm rfl, wkC.imm rfl, wkC.fz (by simp) (by simp) hcel (fun e => by cases e), trivial⟩, trivial⟩
          ⟨wkS.c (wkC.ptr (by decide)), wkS.imm rfl, wkS.c (wkC.ptr (by decide)), wkS.c (wkC.ptr (by decide)), trivial⟩ (Nat.zero_le _))) ?_
         refine Dr.mkS hΓ hMix [(4,8),(5,8),(6,8),(7,8)] (by kernel_rfl) (Go0 ?_)
         refine CallP.mk Qdc (Qc5 ({ d with zones := (Qj d zone.toNat).2 } : Dev) (show (Qj d zone.toNat).2.length ≤ 10000000 by omega) zone (show 0 ≤ zone ∧ zone < ((Qj d zone.toNat).2.length : Int) by omega) ⟨1, ((Qj d zone.toNat).2.getD zone.toNat default).durable, ((Qj d zone.toNat).2.getD zone.toNat default).sectors ++ [s]⟩ ) (leA.refl rfl) rfl (Go0 ?_)
         have hD : Qy d zone s = { d with zones := (Qj d zone.toNat).2.set zone.toNat ⟨1, ((Qj d zone.toNat).2.getD zone.toNat default).durable, ((Qj d zone.toNat).2.getD zone.toNat default).sectors ++ [s]⟩ } := by
          simp only [Qy, if_pos hE0, hL, grow]
          rw [if_neg (by omega), hcl]; rfl
         rw [hD, hI, hE0]
         refine RM.imm rfl (wkS.t ⟨Qs rfl, wkC.int ?_, wkC.imm rfl, trivial⟩)
         simp only [List.length_append, List.length_cons, List.length_nil]
         rw [Qa _ (by omega) (by omega)]; omega
       ·rw [show QbK d zone.toNat = d by simp only [QbK, if_neg hr0]]
        refine Go0 ?_
        refine Br.of (fun h6=>?_) (fun h6=>?_)<;>(try simp only [Int.toNat_natCast] at h6)<;>(conv=>whnf)
        ·refine Go0 ?_
         try dsimp only at hs
         exact bad _ _ hE hr0
        ·exact absurd h6 hr0
      ·have hE0 : QV d zone s = 0 := by
        simp only [QV, if_pos h1, hrange, if_pos, if_pos h40, if_neg h5, if_neg h4]; rw [ho]; rfl
       have hL : openL d zone.toNat = d.zones := by simp only [openL]; rw [ho]; rfl
       have hI : Qa7 d zone s = (d.zones.getD zone.toNat default).sectors.length := by simp only [Qa7, if_pos hE0]
       have hk' : zone.toNat < d.zones.length := by omega
       have himm : ∀ i, i < 0 + (d.zones.getD zone.toNat default).sectors.length + 1 → ∀ j, j < 1 → (appG (appG (Q4 1 []) 0 (fun i _ => .str ((d.zones.getD zone.toNat default).sectors.getD i ByteArray.empty))) (0 + (d.zones.getD zone.toNat default).sectors.length) (Q4 1 [.str s]) i j).imm = true := by
        intro i hi j hj
        have : j = 0 := by omega
        subst this
        rw [Nat.zero_add] at hi ⊢
        rw [QcG _ _ _ _ _ hi]
        rfl
       have hcel : ∀ i, i < 0 + (d.zones.getD zone.toNat default).sectors.length + 1 → ∀ j, j < 1 → leF (appG (appG (Q4 1 []) 0 (fun i _ => .str ((d.zones.getD zone.toNat default).sectors.getD i ByteArray.empty))) (0 + (d.zones.getD zone.toNat default).sectors.length) (Q4 1 [.str s]) i j) (.str (((d.zones.getD zone.toNat default).sectors ++ [s]).getD i ByteArray.empty)) := by
        intro i hi j hj
        have : j = 0 := by omega
        subst this
        rw [Nat.zero_add] at hi ⊢
        exact leF.of_eq (QcG _ _ _ _ _ hi)
       refine CallN.pure QaX (Qa0 _ ) (leA.refl rfl) rfl (Go0 ?_)
       refine Br.no (by rw [ho]; rfl) (Go0 ?_)
       refine Br.of (fun hs=>Go0 ?_) (fun hs=>Go0 ?_)
       ·try dsimp only at hs
        refine Dr.mkS hΓ hMix [(0,3),(1,3)] (by kernel_rfl) (Go0 ?_)
        refine Dr.mv [(10, .c (.ptr 2 0)), (1, .c (.int .i64 zone)), (13, .c (.ptr 3 0)), (6, .c (.ptr 1 0))] [.vr d.cells, .vr [.int .i64 0, .int .i64 0, .int .i64 0, .nils], .vr ({ d with zones := d.zones } : Dev).cells, .vr [.int .i64 4, .int .i64 d.size, Qbq ((d.zones.getD zone.toNat default).sectors ++ [s])]] ((Mv.fz 4 rfl (Nat.zero_le _) himm).trans (Mv.mk' 4 rfl ⟨O.wk.vr (Qs rfl), O.wk.vr (Qs rfl), O.wk.vr (Qs rfl), O.wk.vr ⟨wkC.imm rfl, wkC.imm rfl, wkC.fz (by simp) (by simp) hcel (fun e => by cases e), trivial⟩, trivial⟩
         ⟨wkS.c (wkC.ptr (by decide)), wkS.imm rfl, wkS.c (wkC.ptr (by decide)), wkS.c (wkC.ptr (by decide)), trivial⟩ (Nat.zero_le _))) ?_
        refine Dr.mkS hΓ hMix [(4,8),(5,8),(6,8),(7,8)] (by kernel_rfl) (Go0 ?_)
        refine CallP.mk Qdc (Qc5 ({ d with zones := d.zones } : Dev) (show d.zones.length ≤ 10000000 by omega) zone (show 0 ≤ zone ∧ zone < (d.zones.length : Int) by omega) ⟨4, d.size, (d.zones.getD zone.toNat default).sectors ++ [s]⟩ ) (leA.refl rfl) rfl (Go0 ?_)
        have hD : Qy d zone s = { d with zones := d.zones.set zone.toNat ⟨4, d.size, (d.zones.getD zone.toNat default).sectors ++ [s]⟩ } := by
         simp only [Qy, if_pos hE0, hL, grow]
         rw [if_pos (by omega)]
        rw [hD, hI, hE0]
        refine RM.imm rfl (wkS.t ⟨Qs rfl, wkC.int ?_, wkC.imm rfl, trivial⟩)
        simp only [List.length_append, List.length_cons, List.length_nil]
        rw [Qa _ (by omega) (by omega)]; omega
       ·try dsimp only at hs
        refine Dr.mv [(10, .c (.ptr 2 0)), (1, .c (.int .i64 zone)), (13, .c (.ptr 3 0)), (6, .c (.ptr 1 0))] [.vr d.cells, .vr [.int .i64 0, .int .i64 0, .int .i64 0, .nils], .vr ({ d with zones := d.zones } : Dev).cells, .vr [.int .i64 (d.zones.getD zone.toNat default).state, .int .i64 (d.zones.getD zone.toNat default).durable, Qbq ((d.zones.getD zone.toNat default).sectors ++ [s])]] ((Mv.fz 4 rfl (Nat.zero_le _) himm).trans (Mv.mk' 4 rfl ⟨O.wk.vr (Qs rfl), O.wk.vr (Qs rfl), O.wk.vr (Qs rfl), O.wk.vr ⟨wkC.imm rfl, wkC.imm rfl, wkC.fz (by simp) (by simp) hcel (fun e => by cases e), trivial⟩, trivial⟩
         ⟨wkS.c (wkC.ptr (by decide)), wkS.imm rfl, wkS.c (wkC.ptr (by decide)), wkS.c (wkC.ptr (by decide)), trivial⟩ (Nat.zero_le _))) ?_
        refine Dr.mkS hΓ hMix [(4,8),(5,8),(6,8),(7,8)] (by kernel_rfl) (Go0 ?_)
        refine CallP.mk Qdc (Qc5 ({ d with zones := d.zones } : Dev) (show d.zones.length ≤ 10000000 by omega) zone (show 0 ≤ zone ∧ zone < (d.zones.length : Int) by omega) ⟨(d.zones.getD zone.toNat default).state, (d.zones.getD zone.toNat default).durable, (d.zones.getD zone.toNat default).sectors ++ [s]⟩ ) (leA.refl rfl) rfl (Go0 ?_)
        have hD : Qy d zone s = { d with zones := d.zones.set zone.toNat ⟨(d.zones.getD zone.toNat default).state, (d.zones.getD zone.toNat default).durable, (d.zones.getD zone.toNat default).sectors ++ [s]⟩ } := by
         simp only [Qy, if_pos hE0, hL, grow]
         rw [if_neg (by omega), ho]; rfl
        rw [hD, hI, hE0]
        refine RM.imm rfl (wkS.t ⟨Qs rfl, wkC.int ?_, wkC.imm rfl, trivial⟩)
        simp only [List.length_append, List.length_cons, List.length_nil]
        rw [Qa _ (by omega) (by omega)]; omega
theorem Qco : HB 29 := hB Tryz.func29
theorem Qlq (d : Dev) (zone off : Int) : PS 22 [d.s, .c (.int .i64 zone), .c (.int .i64 off)] (.t [.inl (.str (QcU d zone off)), .inl (.int .i64 (QgD d zone off))]) := by
 refine PSpec.rm ?_
 refine ov hΓ Tryz.func22 37 0 [.tmp 6, .tmp 7] Tryz.ntmps22 Tryz.results22 ?_
 conv=>whnf
 refine CallN.pure Qdw (QdE d zone ) (leA.refl rfl) rfl (Go0 ?_)
 refine Br.of (fun h1=>?_) (fun h1=>?_)<;>(try simp only [Int.toNat_natCast] at h1)<;>(conv=>whnf)
 ·refine Go0 ?_
  have h2 : QgD d zone off = QS d zone := by simp only [QgD, if_neg h1]
  have : QcU d zone off = ByteArray.empty := by simp only [QcU, h2, if_neg h1]
  exact RM.imm rfl (wkS.t ⟨wkC.str (by rw [this]; rfl), wkC.int h2.symm, trivial⟩)
 ·obtain ⟨hok, hz0, hz1⟩ := Qac h1
  have hk : zone.toNat < d.zones.length := by omega
  have hrE : ∀ e : Int, (if decide (0 ≤ off ∧ off < (d.zones.getD zone.toNat default).sectors.length) then 0 else 10) = e → QgD d zone off = e := by
   intro e h; simp only [QgD, if_pos h1]; exact h
  refine Go0 ?_
  (first|refine Br.od (fun h2=>?_) (fun h2=>?_)|refine Br.mk (fun h2=>?_) (fun h2=>?_)<;>simp [-List.length_eq_zero_iff,-List.getD_eq_getElem?_getD] at h2)<;>(try simp only [Int.toNat_natCast] at h2)<;>(conv=>whnf)
  ·refine Go0 ?_
   have : decide (0 ≤ off ∧ off < (d.zones.getD zone.toNat default).sectors.length) = false := by simp only [decide_eq_false_iff_not]; omega
   have h10 := hrE 10 (by rw [this]; rfl)
   exact RM.imm rfl (wkS.t ⟨wkC.str (by simp only [QcU, h10]; rfl), wkC.int h10.symm, trivial⟩)
  ·refine Go0 ?_
   have : decide (0 ≤ off ∧ off < (d.zones.getD zone.toNat default).sectors.length) = true := by simp only [decide_eq_true_eq]; omega
   have h0 := hrE 0 (by rw [this]; rfl)
   exact RM.imm rfl (wkS.t ⟨wkC.str (by simp only [QcU, h0]; rfl), wkC.int h0.symm, trivial⟩)
theorem Qlm : HB 22 := hB Tryz.func22
theorem Qj7 (d : Dev) (hd : d.small) (zone : Int) : PS 78 [d.s, .c (.int .i64 zone)] (Dev.out (QaL d zone) (QS d zone)) := by
 refine PSpec.rm ?_
 refine ov hΓ Tryz.func78 18 0 [.cell 4 29, .tmp 5] Tryz.ntmps78 Tryz.results78 ?_
 conv=>whnf
 refine CallN.pure Qdw (QdE d zone ) (leA.refl rfl) rfl (Go0 ?_)
 refine Br.of (fun h1=>?_) (fun h1=>?_)<;>(try simp only [Int.toNat_natCast] at h1)<;>(conv=>whnf)
 ·refine Go0 ?_
  rw [show QaL d zone = d by simp only [QaL, if_neg h1]]
  exact RM.imm rfl (wkS.imm rfl)
 ·obtain ⟨hok, hz0, hz1⟩ := Qac h1
  have hz := hd.z
  refine Go0 ?_
  refine CallN.pureA Qdc (Qc5 d hz zone ⟨hz0, hz1⟩ zone0 ) (Go0 ?_)
  rw [show QaL d zone = { d with zones := d.zones.set zone.toNat zone0 } by simp only [QaL, if_pos h1], h1]
  exact RM.imm rfl (wkS.imm rfl)
theorem Qj3 : HB 78 := hB Tryz.func78
theorem Qrr {z : Zone} {size : Int} (h : right z size = true) (h4 : z.state = 4) : z.durable = z.sectors.length := by
 simp only [right, Bool.and_eq_true, decide_eq_true_eq] at h
 exact h.1.2.2.2.2.2.2.1 h4
theorem Qgp (n : Int) : PS 16 [.c (.int .i64 n)] (.c (.str (QfK n))) := by
 refine PSpec.rm ?_
 refine ov0 hΓ Tryz.func16 30 0 [.tmp 2] Tryz.ntmps16 Tryz.results16 ?_
 refine Lp.mkK hΓ (ι := Nat) [0] (fun k => [(4, .c (.int .i64 k)), (3, .c (.sl 0 1 16 16 true))]) (fun k => [.arr 5 1 16 (genG (fun i => if i < k then Qsc n i else 0))]) (fun k => k ≤ 16) (fun k => 16 - k) 0 (Nat.zero_le _) ?_ ?_
 ·refine Mv.k1 ?_
  intro i hi j hj
  have hj' : j < 1 := hj
  have : j = 0 := by omega
  subst this
  exact WC.eq (by simp [QcK, QE, lget, getL, genG, Z.toC]) rfl
 ·intro k hk
  refine Go0 ?_
  refine Br.of (fun h1=>Go0 ?_) (fun h1=>Go0 ?_)
  ·refine CallN.pureA QaC (QaB _ _ ) (Go0 ?_)
   refine ⟨k + 1, by omega, by omega, ?_⟩
   refine Mv.k1 ?_
   intro i hi j hj
   refine WC.eq ((QnO i j hj).trans ?_) rfl
   simp only [genG, Int.toNat_natCast]
   congr 1
   by_cases c : i = k
   ·subst c
    rw [if_pos rfl, if_pos (by omega)]; rfl
   ·rw [if_neg c]
    by_cases c2 : i < k
    ·rw [if_pos c2, if_pos (by omega)]
    ·rw [if_neg c2, if_neg (by omega)]
  ·have : k = 16 := by omega
   subst this
   refine CallN.pureA QaC (QaB _ _ ) (Go0 ?_)
   refine Need.mk (fun i hi => ⟨_, QnO i 0 (by decide)⟩) (Go0 ?_)
   exact RM.i0
theorem Qgf : HB 16 := hB Tryz.func16
theorem Qo1 (d : DiceM) (hd : d.ok) (blocks version : Int) : CS 33 [.c (.ptr 0 0), .c (.int .i64 blocks), .c (.int .i64 version)] [.vr d.cells] fun s H => s = (recR d blocks version).s ∧ H = [.vr (recD d).cells] := by
 refine CSpec.rm ?_
 refine ov0 hΓ Tryz.func33 22 1 [.cell 6 50] Tryz.ntmps33 Tryz.results33 ?_
 refine CallN.autoQ [0] QaN (QaM d hd blocks) (Go0 ?_)
 refine CallN.autoQ [0] QaN (QaM d.step hd.step 200) (Go0 ?_)
 refine CallN.pure Qgf (Qgp _ ) (leA.refl rfl) rfl (Go0 ?_)
 refine CallN.autoQ [0] QaN (QaM d.step.step hd.step.step 4) (Go0 ?_)
 refine Br.of (fun h=>Go0 ?_) (fun h=>Go0 ?_)
 ·refine ⟨_, _, RM.wkW (H' := [.vr (recD d).cells]) (s' := (recR d blocks version).s) ?_ ?_ (Nat.le_refl _), rfl, rfl⟩
  ·exact wb0
  ·rw [show recR d blocks version = ⟨2, d.next blocks, version, 0, ByteArray.empty⟩ from if_pos h]
   exact wb0
 ·refine ⟨_, _, RM.wkW (H' := [.vr (recD d).cells]) (s' := (recR d blocks version).s) ?_ ?_ (Nat.le_refl _), rfl, rfl⟩
  ·exact wb0
  ·rw [show recR d blocks version = ⟨1, d.next blocks, version, 0, QfK (d.step.next 200)⟩ from if_neg h]
   exact wb0
theorem Qpf : HB 33 := hB Tryz.func33
def _root_.Go.Am.Rec.cells (r : Rec) : List C := [.int .i64 r.kind, .int .i64 r.block, .int .i64 r.version, .int .i64 r.move, .str r.payload]
theorem QqX {b : ByteArray} {p n k : Nat} : Qfk b p n (k + 1) = orW (shW (Qfk b p n k)) (Qca b (p + (n - 1 - k))) := rfl
set_option maxHeartbeats 1000000 in
theorem Qki (b : ByteArray) (p n : Nat) (h1 : 1 ≤ n) (h7 : n ≤ 7) (hp : p ≤ 1000) (hb : b.size ≤ 10000000) : PS 108 [.c (.str b), .c (.int .i64 p), .c (.int .i64 n)] (.t [.inl (.int .i64 (getS b p n)), .inl (.int .i64 (getE b p n))]) := by
 refine PSpec.rm ?_
 refine ov0 hΓ Tryz.func108 48 0 [.tmp 6, .tmp 7] Tryz.ntmps108 Tryz.results108 ?_
 refine Br.no (by simp; omega) (Go1 fun _h=>?_)
 have w0 := Qa ((b.size : Int) - p) (by omega) (by omega)
 by_cases h : b.size < p + n
 ·refine Br.yes (by rw [w0]; simp; omega) (Go0 ?_)
  rw [show getS b p n = 0 from if_pos h, show getE b p n = 2 from if_pos h]
  exact RM.i0
 ·refine Br.no (by rw [w0]; simp; omega) (Go0 ?_)
  have w1 := Qa ((n : Int) - 1) (by omega) (by omega)
  refine Lp.mkK hΓ (ι := Nat) [0, 1, 6, 7] (fun k => [(9, .c (.int .i64 ((n : Int) - 1 - k))), (8, .c (.int .i64 (Qfk b p n k)))]) (fun k => []) (fun k => k ≤ n) (fun k => n - k) 0 (Nat.zero_le _) ?_ ?_
  ·exact Mv.k0
  ·intro k hk
   refine Go0 ?_
   refine Br.of (fun h2=>?_) (fun h2=>?_)<;>(try simp only [Int.toNat_natCast] at h2)<;>(conv=>whnf)
   ·have e1 : IntKind.i64.wrap ((p : Int) + ((n : Int) - 1 - k)) = ((p + (n - 1 - k) : Nat) : Int) := by rw [Qa _ (by omega) (by omega)]; omega
    have w2 := Qa ((n : Int) - 1 - k - 1) (by omega) (by omega)
    refine Go0 ?_
    rw [e1]
    refine Go0 ?_
    refine ⟨k + 1, by omega, by omega, ?_⟩
    exact Mv.k0
   ·refine Go0 ?_
    have : k = n := by omega
    subst this
    rw [show getS b p k = Qfk b p k k from if_neg h, show getE b p k = 0 from if_neg h]
    exact RM.i0
theorem Qkq : HB 108 := hB Tryz.func108
theorem QdH (b : ByteArray) (p n : Nat) (h1 : 1 ≤ n) (h7 : n ≤ 7) (hp : p ≤ 1000) (hb : b.size ≤ 10000000) : PS 70 [.c (.str b), .c (.int .i64 p), .c (.int .i64 n)] (.c (.int .i64 (getS b p n))) := by
 refine PSpec.rm ?_
 refine ov0 hΓ Tryz.func70 17 0 [.tmp 6] Tryz.ntmps70 Tryz.results70 ?_
 refine CallN.pureA Qkq (Qki b p n h1 h7 hp hb ) (Go0 ?_)
 exact RM.i0
theorem Qdx : HB 70 := hB Tryz.func70
theorem Qoe (b : ByteArray) (k : Nat) : 0 ≤ Qca b k ∧ Qca b k < 256 := by
 have h : (b.data.toList.getD k 0).toNat < 256 := UInt8.toNat_lt _
 unfold Qca
 rw [Qa _ (by omega) (by omega)]
 omega
theorem Qt4 {y : Int} (h : 0 ≤ y ∧ y < 256) : orW (shW 0) y = y := by
 obtain ⟨n, rfl⟩ := Int.eq_ofNat_of_zero_le h.1
 have e0 : shW 0 = 0 := by decide
 rw [e0]
 unfold orW
 have e1 : (BitVec.ofInt IntKind.i64.bits 0 ||| BitVec.ofInt IntKind.i64.bits (n : Int)).toNat = n := by
  show (BitVec.ofInt 64 0 ||| BitVec.ofInt 64 (n : Int)).toNat = n
  rw [show BitVec.ofInt 64 0 = 0#64 from rfl, BitVec.zero_or]
  rw [BitVec.toNat_ofInt]
  omega
 rw [e1]
 exact Qa _ (by omega) (by omega)
theorem Qwf (s : ByteArray) (p : Nat) : 0 ≤ getS s p 1 ∧ getS s p 1 < 256 := by
 unfold getS
 split
 ·omega
 ·show 0 ≤ orW (shW 0) (Qca s (p + (1 - 1 - 0))) ∧ _
  have := Qoe s (p + (1 - 1 - 0))
  rw [QqX]
  show 0 ≤ orW (shW 0) (Qca s (p + (1 - 1 - 0))) ∧ orW (shW 0) (Qca s (p + (1 - 1 - 0))) < 256
  rw [Qt4 this]
  exact this
set_option maxHeartbeats 4000000 in
theorem QeR (s : ByteArray) : PS 36 [.c (.str s)] (.t [.inr (decR s).cells, .inl (.int .i64 (decE s))]) := by
 refine PSpec.rm ?_
 refine ov hΓ Tryz.func36 48 0 [.cell 2 50, .tmp 3] Tryz.ntmps36 Tryz.results36 ?_
 refine Go1 fun _h=>?_
 by_cases h0 : s.size = 40
 ·refine Br.no (by simp [h0]) (Go0 ?_)
  have hb : s.size ≤ 10000000 := by omega
  refine Dr.mk hΓ hMix (by kernel_rfl) (Go0 ?_)
  refine CallP.auto Qdx (QdH s 36 4 (by decide) (by decide) (by decide) hb ) (Go0 ?_)
  refine CallP.auto Qir (Qij (s.extract 0 36) (by rw [ByteArray.size_extract]; omega) ) (Go0 ?_)
  have hz : s.size = 40 → (s.extract 0 36).size = 36 := fun h => by rw [ByteArray.size_extract]; omega
  by_cases h1 : getS s 36 4 = sumW (s.extract 0 36)
  ·refine Br.no (by rw [h1]; exact bne_self_eq_false _) (Go0 ?_)
   refine CallN.pureA Qdx (QdH s 2 1 (by decide) (by decide) (by decide) hb ) (Go0 ?_)
   refine CallN.pureA Qdx (QdH s 4 4 (by decide) (by decide) (by decide) hb ) (Go0 ?_)
   refine CallN.pureA Qdx (QdH s 8 6 (by decide) (by decide) (by decide) hb ) (Go0 ?_)
   refine CallN.pureA Qdx (QdH s 14 1 (by decide) (by decide) (by decide) hb ) (Go0 ?_)
   refine CallN.pureA Qdx (QdH s 3 1 (by decide) (by decide) (by decide) hb ) (Go0 ?_)
   have g3 := Qwf s 3
   have w3 : IntKind.i64.wrap (16 + min (getS s 3 1) 20) = 16 + min (getS s 3 1) 20 := Qa _ (by omega) (by omega)
   rw [w3]
   refine Go0 ?_
   refine CallN.pureA Qfn (Qfm (rawR s) ) (Go0 ?_)
   by_cases h2 : QC (rawR s) = 0 ∧ encR (rawR s) = s
   ·refine Br.no (by rw [h2.1, h2.2]; simp) (Go0 ?_)
    have e : decE s = 0 := by unfold decE; rw [if_pos h0, if_pos h1, if_pos h2]
    rw [show decR s = rawR s from if_pos e, e]
    exact RM.i0
   ·refine Br.yes (by
     refine Decidable.byContradiction fun z => h2 ?_
     simp at z
     exact z) ?_
    refine Go0 ?_
    have e : decE s = 3 := by unfold decE; rw [if_pos h0, if_pos h1, if_neg h2]
    rw [show decR s = default from if_neg (by rw [e]; decide), e]
    exact RM.i0
  ·refine Br.yes (bne_iff_ne.2 h1) (Go0 ?_)
   have e : decE s = 4 := by unfold decE; rw [if_pos h0, if_neg h1]
   rw [show decR s = default from if_neg (by rw [e]; decide), e]
   exact RM.i0
 ·refine Br.yes (by simp; omega) (Go0 ?_)
  have e : decE s = 2 := if_neg h0
  rw [show decR s = default from if_neg (by rw [e]; decide), e]
  exact RM.i0
theorem Qev : HB 36 := hB Tryz.func36
theorem Qq0 (r : Rec) : PS 37 [.a r.cells] (.t [.inr (QgE r).1.cells, .inl (.bool (QgE r).2)]) := by
 refine PSpec.rm ?_
 refine ov0 hΓ Tryz.func37 24 0 [.cell 2 50, .tmp 3] Tryz.ntmps37 Tryz.results37 ?_
 refine CallN.pureA Qh2 (Qh5 r ) (Go0 ?_)
 by_cases h : QC r = 0 ∧ QdM r = true
 ·have hk : r.kind = 1 ∨ r.kind = 2 := of_decide_eq_true h.2
  have hm := (QaR h.1).2.1
  have w := Qa (r.move + 1) (by omega) (by omega)
  refine Br.no (by rw [h.1]; simp; omega) (Go0 ?_)
  rw [show QgE r = ({ r with move := min (r.move + 1) 255 }, true) from if_pos h]
  exact RM.i0
 ·have hk : QC r = 0 → ¬ (r.kind = 1 ∨ r.kind = 2) := fun a b => h ⟨a, decide_eq_true b⟩
  refine Br.yes (by
   refine Decidable.byContradiction fun z => ?_
   simp at z
   have := hk z.1
   omega) ?_
  refine Go0 ?_
  rw [show QgE r = (default, false) from if_neg h]
  exact RM.i0
theorem Qrw : HB 37 := hB Tryz.func37
theorem Qo8 (s : ByteArray) : PS 23 [.c (.str s)] (.t [.inr (Qau s).1.cells, .inl (.bool (Qau s).2)]) := by
 refine PSpec.rm ?_
 refine ov0 hΓ Tryz.func23 25 0 [.cell 2 50, .tmp 3] Tryz.ntmps23 Tryz.results23 ?_
 refine CallN.pureA Qev (QeR s ) (Go0 ?_)
 by_cases h : decE s = 0 ∧ QdM (decR s) = true
 ·have hk : (decR s).kind = 1 ∨ (decR s).kind = 2 := of_decide_eq_true h.2
  refine Br.no (by rw [h.1]; simp; omega) (Go0 ?_)
  rw [show Qau s = (decR s, true) from if_pos h]
  exact RM.i0
 ·have hk : decE s = 0 → ¬ ((decR s).kind = 1 ∨ (decR s).kind = 2) := fun a b => h ⟨a, decide_eq_true b⟩
  refine Br.yes (by
   refine Decidable.byContradiction fun z => ?_
   simp at z
   have := hk z.1
   omega) ?_
  refine Go0 ?_
  rw [show Qau s = (default, false) from if_neg h]
  exact RM.i0
theorem QoB : HB 23 := hB Tryz.func23
theorem QrJ {s : ByteArray} (h : decE s = 0) : s.size = 40 := by
 unfold decE at h
 by_cases q : s.size = 40
 ·exact q
 ·rw [if_neg q] at h; cases h
theorem QlE (l : List ByteArray) : ∀ k, (∀ i, i < k → decE (l.getD i ByteArray.empty) = 0) → 0 ≤ Qen l k ∧ Qen l k ≤ 1099511627776 ∧ 0 ≤ Qek l k ∧ Qek l k ≤ 1099511627776
 | 0, _ => by simp [Qen, Qek]
 | k + 1, h => by
  have h1 := QlE l k fun i hi => h i (by omega)
  have h2 := h k (by omega)
  have h3 : QC (decR (l.getD k ByteArray.empty)) = 0 := by
   rw [show decR (l.getD k ByteArray.empty) = rawR (l.getD k ByteArray.empty) from if_pos h2]
   unfold decE at h2
   split at h2
   ·split at h2
    ·split at h2
     ·rename_i q; exact q.1
     ·cases h2
    ·cases h2
   ·cases h2
  have h4 := (QaR h3).2.1
  simp only [Qen, Qek]
  omega
theorem QmD (l : List ByteArray) : ∀ k, (∀ i, i < k → decE (l.getD i ByteArray.empty) = 0) → (QhE l k).size = 36 * k
 | 0, _ => rfl
 | k + 1, h => by
  have h1 := QmD l k fun i hi => h i (by omega)
  have h2 := QrJ (h k (by omega))
  simp only [QhE]
  rw [ByteArray.size_append, h1, ByteArray.size_extract]
  omega
theorem QmN {l : List ByteArray} : ∀ {k}, Qcg l k = 0 → ∀ i, i < k → blkE (l.getD i ByteArray.empty) = 0
 | 0, _ => fun i hi => absurd hi (Nat.not_lt_zero _)
 | k + 1, h => by
  simp only [Qcg] at h
  split at h
  ·rename_i h1
   exact QbA (QmN h1) h
  ·rename_i h1; exact absurd h h1
theorem QmV {l : List ByteArray} {k : Nat} (h : Qcg l k ≠ 0) : ∀ d, Qcg l (k + d) = Qcg l k
 | 0 => rfl
 | d + 1 => by
  have h1 := QmV h d
  show Qcg l ((k + d) + 1) = _
  simp only [Qcg]
  rw [h1, if_neg h]
def bitN (x : Nat) : Nat := if x % 2 = 1 then (x / 2) ^^^ 3988292384 else x / 2
def QcJ : Nat → Nat → Nat
 | 0, x => x
 | n + 1, x => bitN (QcJ n x)
theorem Qf6 {a b : Nat} (ha : a < 4294967296) (hb : b < 4294967296) : a ^^^ b < 4294967296 := Nat.xor_lt_two_pow (n := 32) ha hb
theorem Qvn {x : Nat} (h : x < 4294967296) : bitN x < 4294967296 := by
 unfold bitN
 split
 ·exact Qf6 (by omega) (by decide)
 ·omega
theorem Qtz (a b : Nat) : bitN (a ^^^ b) = bitN a ^^^ bitN b := by
 have h2 : (a ^^^ b) / 2 = a / 2 ^^^ b / 2 := Nat.xor_div_two
 have h3 : (a ^^^ b) % 2 = (a + b) % 2 := by
  have h4 := Nat.testBit_xor a b 0
  simp only [Nat.testBit_zero] at h4
  have h5 := Nat.mod_two_eq_zero_or_one (a ^^^ b)
  rcases Nat.mod_two_eq_zero_or_one a with e | e <;> rcases Nat.mod_two_eq_zero_or_one b with f | f <;> rcases h5 with g | g <;> simp [e, f, g] at h4 <;> omega
 unfold bitN
 rw [h2, h3]
 have hc : ∀ x y p : Nat, (x ^^^ p) ^^^ (y ^^^ p) = x ^^^ y := fun x y p => by
  rw [Nat.xor_comm y p, Nat.xor_assoc, ← Nat.xor_assoc p p y, Nat.xor_self, Nat.zero_xor]
 rcases Nat.mod_two_eq_zero_or_one a with e | e <;> rcases Nat.mod_two_eq_zero_or_one b with f | f
 ·rw [if_neg (by omega), if_neg (by omega), if_neg (by omega)]
 ·rw [if_pos (by omega), if_neg (by omega), if_pos (by omega), Nat.xor_assoc]
 ·rw [if_pos (by omega), if_pos (by omega), if_neg (by omega), Nat.xor_assoc, Nat.xor_assoc, Nat.xor_comm 3988292384]
 ·rw [if_neg (by omega), if_pos (by omega), if_pos (by omega), hc]
theorem QsE (n a b : Nat) : QcJ n (a ^^^ b) = QcJ n a ^^^ QcJ n b := by
 induction n with
 | zero => rfl
 | succ n ih => simp only [QcJ]; rw [ih, Qtz]
theorem Qix {n x : Nat} (h : x < 4294967296) : QcJ n x < 4294967296 := by
 induction n with
 | zero => exact h
 | succ n ih => exact Qvn ih
theorem Qod (n z : Nat) : QcJ n (z * 2 ^ n) = z := by
 have key : ∀ n m z, QcJ n (z * 2 ^ (n + m)) = z * 2 ^ m := by
  intro n
  induction n with
  | zero => intro m z; rw [Nat.zero_add]; rfl
  | succ n ih =>
   intro m z
   simp only [QcJ]
   rw [show n + 1 + m = n + (m + 1) by omega, ih (m + 1) z]
   unfold bitN
   rw [Nat.pow_succ, ← Nat.mul_assoc, if_neg (by omega), Nat.mul_div_cancel _ (by omega)]
 have := key n 0 z
 simpa using this
theorem Qt2 {x b : Nat} (hb : b < 256) : QcJ 8 (x ^^^ b) = (x / 256) ^^^ QcJ 8 ((x % 256) ^^^ b) := by
 have e : x ^^^ b = (x / 256 * 2 ^ 8) ^^^ ((x % 256) ^^^ b) := by
  rw [← Nat.xor_assoc]
  congr 1
  apply Nat.eq_of_testBit_eq
  intro i
  rw [Nat.testBit_xor, Nat.testBit_mul_two_pow, show (256 : Nat) = 2 ^ 8 by decide, Nat.testBit_mod_two_pow, Nat.testBit_div_two_pow]
  by_cases c : i < 8
  ·simp [c, Nat.not_le.2 c]
  ·have : 8 ≤ i := by omega
   simp [c, this]
 rw [e, QsE, Qod]
theorem QeC {a b : Nat} (ha : a < 4294967296) (hb : b < 4294967296) : xorU a b = ((a ^^^ b : Nat) : Int) := by
 have := Qf6 ha hb
 unfold xorU
 rw [IntKind.wrap_u32]
 have e : (BitVec.ofInt IntKind.u32.bits (a : Int) ^^^ BitVec.ofInt IntKind.u32.bits (b : Int)).toNat = a ^^^ b := by
  show (BitVec.ofInt 32 (a : Int) ^^^ BitVec.ofInt 32 (b : Int)).toNat = _
  rw [BitVec.toNat_xor, BitVec.toNat_ofInt, BitVec.toNat_ofInt]
  congr 1 <;> omega
 rw [e]
 omega
theorem Qqx {a : Nat} (ha : a < 4294967296) : QaY a = (bitN a : Nat) := by
 have h1 : andU a 1 = ((a % 2 : Nat) : Int) := by
  unfold andU
  rw [IntKind.wrap_u32]
  have e : (BitVec.ofInt IntKind.u32.bits (a : Int) &&& BitVec.ofInt IntKind.u32.bits (1 : Int)).toNat = a % 2 := by
   show (BitVec.ofInt 32 (a : Int) &&& BitVec.ofInt 32 (1 : Int)).toNat = _
   rw [BitVec.toNat_and, BitVec.toNat_ofInt, BitVec.toNat_ofInt]
   have q : ((a : Int) % ((2 ^ 32 : Nat) : Int)).toNat = a := by omega
   rw [q]
   show a &&& 1 = _
   exact Nat.and_one_is_mod a
  rw [e]
  omega
 have h2 : QhF a = ((a / 2 : Nat) : Int) := by
  unfold QhF
  show (a : Int).fdiv 2 = _
  rw [Int.fdiv_eq_ediv_of_nonneg _ (by omega)]
  omega
 unfold QaY bitN
 rw [h1, h2]
 by_cases c : a % 2 = 1
 ·rw [if_pos (by omega), if_pos c]
  exact QeC (by omega) (by decide)
 ·rw [if_neg (by omega), if_neg c]
theorem Qhz {a : Nat} (ha : a < 4294967296) (n : Nat) : Qbb QaY n a = (QcJ n a : Nat) := by
 induction n with
 | zero => rfl
 | succ n ih => simp only [Qbb, QcJ]; rw [ih]; exact Qqx (Qix ha)
def tabI (i : Int) : Int := Qbb QaY 8 i
theorem Que {x : Int} (h0 : 0 ≤ x) (h1 : x < 4294967296) {b : Nat} (hb : b < 256) : xorU (x.fdiv 256) (tabI ((x.toNat % 256 ^^^ b : Nat) : Int)) = Qbb QaY 8 (xorU x b) := by
 obtain ⟨a, rfl⟩ : ∃ a : Nat, x = a := ⟨x.toNat, by omega⟩
 have ha : a < 4294967296 := by omega
 have hm : a % 256 ^^^ b < 256 := Nat.xor_lt_two_pow (n := 8) (by omega) hb
 rw [QeC ha (by omega), Qhz (Qf6 ha (by omega)), Qt2 hb]
 unfold tabI
 rw [show ((a : Int)).toNat = a from rfl, Qhz (by omega), Int.fdiv_eq_ediv_of_nonneg _ (by omega), show (a : Int) / 256 = ((a / 256 : Nat) : Int) by omega, QeC (by omega) (Qix (by omega))]
set_option maxHeartbeats 1000000 in
theorem QcE (b : ByteArray) (p n : Nat) (h1 : 1 ≤ n) (h7 : n ≤ 7) (hp : p ≤ 1000) (hb : b.size ≤ 10000000) : PS 150 [.c (.str b), .c (.int .i64 p), .c (.int .i64 n)] (.t [.inl (.int .i64 (getS b p n)), .inl (.int .i64 (getE b p n))]) := by
 refine PSpec.rm ?_
 refine ov0 hΓ Tryz.func150 50 0 [.tmp 6, .tmp 7] Tryz.ntmps150 Tryz.results150 ?_
 refine Br.no (by simp; omega) (Go1 fun _h=>?_)
 have w0 := Qa ((b.size : Int) - p) (by omega) (by omega)
 by_cases h : b.size < p + n
 ·refine Br.yes (by rw [w0]; simp; omega) (Go0 ?_)
  rw [show getS b p n = 0 from if_pos h, show getE b p n = 2 from if_pos h]
  exact RM.i0
 ·refine Br.no (by rw [w0]; simp; omega) (Go0 ?_)
  have w1 := Qa ((n : Int) - 1) (by omega) (by omega)
  refine Lp.mkK hΓ (ι := Nat) [0, 1, 6, 7] (fun k => [(9, .c (.int .i64 ((n : Int) - 1 - k))), (8, .c (.int .i64 (Qfk b p n k)))]) (fun k => []) (fun k => k ≤ n) (fun k => n - k) 0 (Nat.zero_le _) ?_ ?_
  ·exact Mv.k0
  ·intro k hk
   refine Go0 ?_
   refine Br.of (fun h2=>?_) (fun h2=>?_)<;>(try simp only [Int.toNat_natCast] at h2)<;>(conv=>whnf)
   ·have e1 : IntKind.i64.wrap ((p : Int) + ((n : Int) - 1 - k)) = ((p + (n - 1 - k) : Nat) : Int) := by rw [Qa _ (by omega) (by omega)]; omega
    have w2 := Qa ((n : Int) - 1 - k - 1) (by omega) (by omega)
    refine Go0 ?_
    rw [e1]
    refine Go0 ?_
    refine ⟨k + 1, by omega, by omega, ?_⟩
    exact Mv.k0
   ·refine Go0 ?_
    have : k = n := by omega
    subst this
    rw [show getS b p k = Qfk b p k k from if_neg h, show getE b p k = 0 from if_neg h]
    exact RM.i0
theorem Qcy : HB 150 := hB Tryz.func150
def tabC (k : Nat) : List C := (List.range 256).map fun i => .int .u32 (if i < k then tabI i else 0)
theorem WL.same {ρ : Nat → Nat} {n : Nat} : ∀ (cs : List C), (∀ x ∈ cs, x.imm = true) → WL ρ n cs cs
 | [], _ => WL.nil
 | x :: r, h => WL.cons (WC.imm (h x (List.mem_cons_self ..))) (WL.same r fun y hy => h y (List.mem_cons_of_mem _ hy))
theorem Ql1 (k : Nat) : ∀ x ∈ tabC k, x.imm = true := fun x hx => by
 unfold tabC at hx
 obtain ⟨i, -, rfl⟩ := List.mem_map.1 hx
 rfl
theorem WO.tab {ρ : Nat → Nat} {n k : Nat} : WO ρ n (.vr (tabC k)) (.vr (tabC k)) := WO.vr (WL.same _ (Ql1 k))
theorem Qjd {α : Type} : ∀ (l : List α) (k : Nat) (y : α), k < l.length → splice l k [y] = some (l.set k y)
 | [], _, _, h => absurd h (Nat.not_lt_zero _)
 | _ :: r, 0, y, _ => by
  cases r <;> rfl
 | x :: r, k + 1, y, h => by
  show (match splice r k [y] with | some l => some (x :: l) | none => none) = _
  rw [Qjd r k y (by simpa using h)]
  rfl
theorem QtO {k : Nat} (hk : k < 256) : splice (tabC k) k [.int .u32 (tabI k)] = some (tabC (k + 1)) := by
 rw [Qjd _ _ _ (by simpa [tabC] using hk)]
 congr 1
 refine List.ext_getElem (by simp [tabC]) fun i h1 h2 => ?_
 simp only [tabC, List.getElem_set, List.getElem_map, List.getElem_range]
 by_cases c : k = i
 ·subst c
  simp
 ·rw [if_neg c]
  by_cases d : i < k
  ·rw [if_pos d, if_pos (by omega)]
  ·rw [if_neg d, if_neg (by omega)]
theorem QvH {Γ : Env} {ts : Ts} {t : Nat} {a x : Operand} {i : TI} {id off : Nat} {cs cs' ys : List C} {H H' : List O} {s : S} (ht : Γ.at t = some i) (ha : bare (opnd ts a) = ([], .c (.ptr id off))) (hx : bare (opnd ts x) = ([], s)) (hs : s.cells = some ys)
  (hl : Nat.beq ys.length i.size = true) (hg : getL H id = some (.vr cs)) (hH : setL H id (.vr cs') = some H') (hsp : splice cs off ys = some cs') : eff Γ ts H (.store t a x) = some ([], .u, H') := by
 simp only [eff, ht, ha, hx, hs, hl, QeI, hg, hsp, hH, List.append_nil]
set_option maxHeartbeats 4000000 in
theorem QqO : PS 178 [] (.a (tabC 256)) := by
 refine PSpec.rm ?_
 refine ov0 hΓ Tryz.func178 26 0 [.cell 0 217] Tryz.ntmps178 Tryz.results178 ?_
 refine Lp.mkK hΓ (ι := Nat) [0, 1] (fun k => [(5, .c (.int .i64 k))]) (fun k => [.vr (tabC 0), .vr (tabC k)]) (fun k => k ≤ 256) (fun k => 256 - k) 0 (Nat.zero_le _) ?_ ?_
 ·exact Mv.mkW (WH.cons (WO.tab (k := 0)) (WH.cons (WO.tab (k := 0)) WH.nil)) wb0 leN
 ·intro k hk
  refine Go0 ?_
  refine Br.of (fun h1=>Go0 ?_) (fun h1=>Go0 ?_)
  ·have w0 := Qa (↑k + 1) (by omega) (by omega)
   have w1 : IntKind.u32.wrap (k : Int) = k := by rw [IntKind.wrap_u32]; omega
   refine Lp.mkK hΓ (ι := Nat) [0, 1, 2, 5] (fun j => [(10, .c (.int .i64 j)), (3, .c (.int .u32 (Qbb QaY j k)))]) (fun _ => [.vr (tabC 0), .vr (tabC k)]) (fun j => j ≤ 8) (fun j => 8 - j) 0 (Nat.zero_le _) ?_ ?_
   ·exact Mv.mkW (WH.cons WO.tab (WH.cons WO.tab WH.nil)) (by rw [w1]; exact wb0) leN
   ·intro j hj
    refine Go0 ?_
    have w2 := Qa (↑j + 1) (by omega) (by omega)
    refine Br.of (fun h2=>Go0 ?_) (fun h2=>Go0 ?_)
    ·refine Br.of (fun h3=>Go0 ?_) (fun h3=>Go0 ?_)
     ·refine ⟨j + 1, by omega, by omega, Mv.mkW (WH.cons WO.tab (WH.cons WO.tab WH.nil)) ?_ leN⟩
      rw [w2, show Qbb QaY (j + 1) k = xorU (QhF (Qbb QaY j k)) 3988292384 from if_pos h3]
      exact wb0
     ·refine ⟨j + 1, by omega, by omega, Mv.mkW (WH.cons WO.tab (WH.cons WO.tab WH.nil)) ?_ leN⟩
      rw [w2, show Qbb QaY (j + 1) k = QhF (Qbb QaY j k) from if_neg h3]
      exact wb0
    ·have : j = 8 := by omega
     subst this
     generalize hE : eff _ _ _ _ = E
     obtain rfl : E = some ([], .u, [.vr (tabC 0), .vr (tabC (k + 1))]) := hE.symm.trans (QvH (cs := tabC k) rfl rfl rfl rfl rfl rfl rfl (by
      rw [show 0 + ((k : Nat) : Int).toNat * 1 = k by omega]
      exact QtO (by omega)))
     refine Go0 ?_
     rw [w0]
     refine ⟨k + 1, by omega, by omega, Mv.mkW (WH.cons WO.tab (WH.cons WO.tab WH.nil)) wb0 leN⟩
  ·have : k = 256 := by omega
   subst this
   show RM 0 (.a (tabC 256)) _ _ _
   exact RM.immW rfl (WS.a (WL.same _ (Ql1 256)))
theorem Qqo : HB 178 := hB Tryz.func178
theorem Qh8 (sum : Int) (b : ByteArray) : ∀ k, 0 ≤ Q3 sum b k ∧ Q3 sum b k < 4294967296
 | 0 => Qis _
 | k + 1 => by
  have h := Qis (BitVec.ofInt IntKind.u32.bits (Q3 sum b k) ^^^ BitVec.ofInt IntKind.u32.bits (QaH b k)).toNat
  show 0 ≤ Qbb QaY 8 (xorU (Q3 sum b k) (QaH b k)) ∧ Qbb QaY 8 (xorU (Q3 sum b k) (QaH b k)) < 4294967296
  have h : 0 ≤ xorU (Q3 sum b k) (QaH b k) ∧ xorU (Q3 sum b k) (QaH b k) < 4294967296 := h
  generalize xorU (Q3 sum b k) (QaH b k) = y at *
  obtain ⟨a, rfl⟩ : ∃ a : Nat, y = a := ⟨y.toNat, by omega⟩
  have := Qix (n := 8) (x := a) (by omega)
  rw [Qhz (by omega)]
  omega
theorem Qvt {x : Int} (h0 : 0 ≤ x) {n : Nat} (hn : n < 256) : IntKind.u8.wrap (BitVec.ofInt IntKind.u8.bits (IntKind.u8.wrap x) ^^^ BitVec.ofInt IntKind.u8.bits (n : Int)).toNat = ((x.toNat % 256 ^^^ n : Nat) : Int) := by
 have hm : x.toNat % 256 ^^^ n < 256 := Nat.xor_lt_two_pow (n := 8) (by omega) hn
 have e : (BitVec.ofInt IntKind.u8.bits (IntKind.u8.wrap x) ^^^ BitVec.ofInt IntKind.u8.bits (n : Int)).toNat = x.toNat % 256 ^^^ n := by
  show (BitVec.ofInt 8 (IntKind.u8.wrap x) ^^^ BitVec.ofInt 8 (n : Int)).toNat = _
  rw [BitVec.toNat_xor, BitVec.toNat_ofInt, BitVec.toNat_ofInt, IntKind.wrap_u8]
  congr 1 <;> omega
 rw [e, IntKind.wrap_u8]
 omega
theorem QuE {m : Nat} (h : m < 256) : getL (tabC 256) m = some (.int .u32 (tabI m)) := by
 rw [Qd]
 simp [tabC, h]
theorem Qpp {α : Type} : ∀ (l : List α) (m : Nat) (c : α), getL l m = some c → cut l m 1 = some [c]
 | [], _, _, h => by cases h
 | x :: r, 0, c, h => by
  cases h
  cases r <;> rfl
 | _ :: r, m + 1, c, h => Qpp r m c h
theorem QvK {Γ : Env} {ts : Ts} {t : Nat} {a : Operand} {i : TI} {id off : Nat} {cs xs : List C} {H : List O} {s : S} (ht : Γ.at t = some i) (ha : bare (opnd ts a) = ([], .c (.ptr id off))) (hg : getL H id = some (.vr cs)) (hs : mkS i.agg xs = some s) (hc : cut cs off i.size = some xs) : val Γ ts H (.load t a) = some ([], s) := by
 simp only [val, ht, ha, Qcp, hg, hc, hs, List.append_nil]
set_option maxHeartbeats 4000000 in
theorem Qkn (sum : Int) (b : ByteArray) (hb : b.size ≤ 10000000) : PS 167 [.c (.int .u32 sum), .c (.str b)] (.c (.int .u32 (addU sum b))) := by
 refine PSpec.rm ?_
 refine ov0 hΓ Tryz.func167 30 0 [.tmp 4] Tryz.ntmps167 Tryz.results167 ?_
 refine CallN.pureA Qqo (QqO ) (Go0 ?_)
 refine Lp.mkK hΓ (ι := Nat) [1, 4, 5] (fun k => [(7, .c (.int .i64 k)), (6, .c (.int .u32 (Q3 sum b k)))]) (fun _ => [.vr (tabC 256)]) (fun k => k ≤ b.size) (fun k => b.size - k) 0 (Nat.zero_le _) ?_ ?_
 ·exact Mv.mkW (WH.cons (WO.tab (k := 256)) WH.nil) wb0 leN
 ·intro k hk
  refine Go1 fun _h=>?_
  refine Br.of (fun h1=>?_) (fun h1=>?_)<;>(try simp only [Int.toNat_natCast] at h1)<;>(conv=>whnf)
  ·have hr := Qh8 sum b k
   have hn : (b.data.toList.getD k 0).toNat < 256 := UInt8.toNat_lt _
   have ix := Qvt hr.1 hn
   have hm : (Q3 sum b k).toNat % 256 ^^^ (b.data.toList.getD k 0).toNat < 256 := Nat.xor_lt_two_pow (n := 8) (by omega) hn
   have w0 := Qa (↑k + 1) (by omega) (by omega)
   refine Go0 ?_
   rw [Int.toNat_natCast, ix]
   refine Go0 ?_
   generalize hE : val _ _ _ _ = E
   obtain rfl : E = some ([], .c (.int .u32 (tabI (((Q3 sum b k).toNat % 256 ^^^ (b.data.toList.getD k 0).toNat : Nat) : Int)))) := hE.symm.trans (QvK (cs := tabC 256) (xs := [.int .u32 (tabI (((Q3 sum b k).toNat % 256 ^^^ (b.data.toList.getD k 0).toNat : Nat) : Int))]) rfl rfl rfl rfl (by
    rw [show 0 + (((Q3 sum b k).toNat % 256 ^^^ (b.data.toList.getD k 0).toNat : Nat) : Int).toNat * 1 = (Q3 sum b k).toNat % 256 ^^^ (b.data.toList.getD k 0).toNat by omega]
    exact Qpp _ _ _ (QuE hm)))
   refine Go0 ?_
   have hby : QaH b k = ((b.data.toList.getD k 0).toNat : Int) := by
    unfold QaH
    rw [IntKind.wrap_u32]; omega
   have hst : Q3 sum b (k + 1) = xorU ((Q3 sum b k).fdiv 256) (tabI (((Q3 sum b k).toNat % 256 ^^^ (b.data.toList.getD k 0).toNat : Nat) : Int)) := by
    rw [Que hr.1 hr.2 hn]
    show Qbb QaY 8 (xorU (Q3 sum b k) (QaH b k)) = _
    rw [hby]
   rw [w0]
   refine ⟨k + 1, by omega, by omega, Mv.mkW (WH.cons WO.tab WH.nil) ?_ leN⟩
   rw [hst]
   exact wb0
  ·refine Go0 ?_
   have : k = b.size := by omega
   subst this
   exact RM.i0
theorem QkU : HB 167 := hB Tryz.func167
end Go.Proofs
end
