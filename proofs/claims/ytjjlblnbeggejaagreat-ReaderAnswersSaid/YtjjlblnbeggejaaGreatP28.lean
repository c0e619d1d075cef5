/- Contracts, lemmas; no condition. -/
import Derived.Test.YtjjlblnbeggejaaGreatP10
import Derived.Test.YtjjlblnbeggejaaGreatP27
import Derived.Test.YtjjlblnbeggejaaGreatA26
import Derived.Test.YtjjlblnbeggejaaGreatP24
import Derived.Test.YtjjlblnbeggejaaGreatP21
import Derived.Test.YtjjlblnbeggejaaGreatP15
import Derived.Test.YtjjlblnbeggejaaGreatEnv
import Derived.Test.YtjjlblnbeggejaaGreatP20
import Derived.Test.YtjjlblnbeggejaaGreatP12
set_option linter.all false
section
open Go Go.Am
namespace Go.Proofs
set_option maxRecDepth 20000
variable {b n k a x t id : Nat} {Γ : Env} {ts : Ts} {i : TI} {H : List O}
theorem Qle (d : Dev) (hd : d.zones.length ≤ 10000000) (zone : Nat) (hz : zone < d.zones.length) (hno : QF (d.zones.getD zone default).state = false) : PS 217 [d.s, .c (.int .i64 zone)] (Dev.out (QbU d zone) (Qe d zone).1) := by
 refine PSpec.rm ?_
 refine ov hΓ Tryz.func217 74 0 [.cell 4 29, .tmp 5] Tryz.ntmps217 Tryz.results217 ?_
 have hst : (d.zones.getD zone default).state ≠ 1 ∧ (d.zones.getD zone default).state ≠ 2 := by
  simp only [QF, QxM] at hno
  omega
 conv=>whnf
 refine CallN.pure Qb2 (Qb3 d ) (leA.refl rfl) rfl (Go0 ?_)
 refine Br.of (fun h1=>Go0 ?_) (fun h1=>Go0 ?_)
 ·refine Lp.mk hΓ (ι := Nat) (fun k => [(9, .c (.int .i64 k)), (2, .c (.ptr 0 0)), (4, .c (.ptr 1 0)), (6, .c (.ptr 2 0)), (1, .c (.int .i64 zone))])
   (fun _ => [.vr d.cells, .vr [.int .i64 0, .int .i64 0, .int .i64 0, .nils], .vr d.cells]) (fun k => k ≤ d.zones.length ∧ ∀ i, i < k → (d.zones.getD i default).state ≠ 1) (fun k => d.zones.length - k) 0 ⟨Qxx _, fun i hi => by omega⟩ ?_ ?_
  ·exact Mv.mk' 3 rfl ⟨O.wk.vr (Qv rfl), O.wk.vr (Qv rfl), O.wk.vr (Qv rfl), trivial⟩ ⟨wkS.imm rfl, wkS.c (wkC.ptr (by decide)), wkS.c (wkC.ptr (by decide)), wkS.c (wkC.ptr (by decide)), wkS.imm rfl, trivial⟩ (Qxx _)
  ·rintro k ⟨hk, hka⟩
   refine Go1 fun _h=>?_
   (first|refine Qu9 (fun h=>?_) (fun h=>?_)|refine Br.mk (fun h=>?_) (fun h=>?_)<;>simp [-List.length_eq_zero_iff,-List.getD_eq_getElem?_getD] at h)<;>(try simp only [Qxy] at h)<;>(conv=>whnf)
   ·refine Go0 ?_
    have w0 := Qa (↑k + 1) om om
    refine ⟨k + 1, ⟨om, fun i hi => ?_⟩, om, Mv.mk' 3 rfl ⟨O.wk.vr (Qv rfl), O.wk.vr (Qv rfl), O.wk.vr (Qv rfl), trivial⟩ ⟨wkS.c (wkC.int (by rw [w0]; rfl)), wkS.c (wkC.ptr (by decide)), wkS.c (wkC.ptr (by decide)), wkS.c (wkC.ptr (by decide)), wkS.imm rfl, trivial⟩ (Qxx _)⟩
    by_cases c : i = k
    ·subst c; simpa using h.2
    ·exact hka i om
   ·refine Go1 fun _h=>?_
    refine Br.of (fun h3=>Go0 ?_) (fun h3=>Go0 ?_)
    ·have : k = d.zones.length := by omega
     subst this
     have hr : Qe d zone = (8, d.zones) := by
      simp only [Qe]
      rw [Qxt om, Qxu (by rw [Qdk _ hka]; omega)]
     rw [show QbU d zone = d by simp only [QbU, hr]; rfl, hr]
     exact RM.imm rfl (wkS.imm rfl)
    ·have hlt : k < d.zones.length := by omega
     have hk1 : (d.zones.getD k default).state = 1 := by simpa using h om
     have hfo : Ql d.zones = k := Qdc _ _ hlt hka hk1
     have hr0 : Qe d zone = if ((QD d.zones k).getD zone default).state ≠ 3 ∧ d.maxActive ≤ Qi (QD d.zones k) then (9, QD d.zones k) else (0, QD d.zones k) := by
      simp only [Qe]
      rw [Qxt om, Qxt om, hfo]
     rw [Qmk _ _ _ hz hk1 hno] at hr0
     refine Dr.mk hΓ hMix (by kernel_rfl) (Go0 ?_)
     refine CallP.mk QlJ (Qlw (d.zones.getD k default) ) (leA.refl rfl) rfl (Go0 ?_)
     refine CallP.mk QdO (QdR d hd k om (QaM (d.zones.getD k default)) ) (leA.refl rfl) rfl (Go0 ?_)
     refine CallN.pure Qb2 (Qb3 ({ d with zones := (QD d.zones k) } : Dev) ) (leA.refl rfl) rfl (Go0 ?_)
     refine CallN.pure Qb1 (Qb6 _ ) (leA.refl rfl) rfl (Go0 ?_)
     (first|refine Qu9 (fun h5=>?_) (fun h5=>?_)|refine Br.mk (fun h5=>?_) (fun h5=>?_)<;>simp [-List.length_eq_zero_iff,-List.getD_eq_getElem?_getD] at h5)<;>(try simp only [Qxy] at h5)<;>(conv=>whnf)
     ·refine Go0 ?_
      have hr : Qe d zone = (9, (QD d.zones k)) := by
       rw [hr0]
       refine Qxt ?_
       have := hst
       simp only [QP, QxM] at h5
       omega
      rw [show QbU d zone = d by simp only [QbU, hr]; rfl, hr]
      exact RM.imm rfl (wkS.imm rfl)
     ·refine Go0 ?_
      have hr : Qe d zone = (0, (QD d.zones k)) := by
       rw [hr0]
       refine Qxu ?_
       simp only [QP, QxM] at h5
       have := hst
       omega
      rw [show QbU d zone = { d with zones := (QD d.zones k) } by simp only [QbU, hr]; rfl, hr]
      exact RM.imm rfl (wkS.imm rfl)
 ·have hr0 : Qe d zone = if (d.zones.getD zone default).state ≠ 3 ∧ d.maxActive ≤ Qi d.zones then (9, d.zones) else (0, d.zones) := by
   simp only [Qe]
   rw [Qxu om]
  refine CallN.pure Qb2 (Qb3 ({ d with zones := d.zones } : Dev) ) (leA.refl rfl) rfl (Go0 ?_)
  refine CallN.pure Qb1 (Qb6 _ ) (leA.refl rfl) rfl (Go0 ?_)
  (first|refine Qu9 (fun h5=>?_) (fun h5=>?_)|refine Br.mk (fun h5=>?_) (fun h5=>?_)<;>simp [-List.length_eq_zero_iff,-List.getD_eq_getElem?_getD] at h5)<;>(try simp only [Qxy] at h5)<;>(conv=>whnf)
  ·refine Go0 ?_
   have hr : Qe d zone = (9, d.zones) := by
    rw [hr0]
    refine Qxt ?_
    have := hst
    simp only [QP, QxM] at h5
    omega
   rw [show QbU d zone = d by simp only [QbU, hr]; rfl, hr]
   exact RM.imm rfl (wkS.imm rfl)
  ·refine Go0 ?_
   have hr : Qe d zone = (0, d.zones) := by
    rw [hr0]
    refine Qxu ?_
    simp only [QP, QxM] at h5
    have := hst
    omega
   rw [show QbU d zone = { d with zones := d.zones } by simp only [QbU, hr]; rfl, hr]
   exact RM.imm rfl (wkS.imm rfl)
theorem Qlm : HB 217 := hB Tryz.func217
set_option maxRecDepth 100000 in
theorem Qc7 (d : Dev) (hd : d.small) (zone : Int) (s : ByteArray) : PS 143 [d.s, .c (.int .i64 zone), .c (.str s)] (QwS (Qf d zone s) (QA d zone s) (Qj d zone s)) := by
 refine PSpec.rm ?_
 refine ov hΓ Tryz.func143 111 0 [.cell 6 29, .tmp 7, .tmp 8] Tryz.ntmps143 Tryz.results143 ?_
 have bad : ∀ e ts, Qj d zone s = e → e ≠ 0 → RM 0 (.t [.inr d.cells, .inl (.int .i64 0), .inl (.int .i64 e)]) ts (QwS (Qf d zone s) (QA d zone s) (Qj d zone s)) [] := by
  intro e ts h1 h2
  have h3 : ¬ Qj d zone s = 0 := by rw [h1]; exact h2
  rw [show Qf d zone s = d by simp only [Qf, Qxu h3], show QA d zone s = 0 by simp only [QA, Qxu h3], h1]
  exact RM.imm rfl (wkS.imm rfl)
 conv=>whnf
 refine CallN.pure Qcq (Qcr d ) (leA.refl rfl) rfl (Go0 ?_)
 refine Br.of (fun h1=>Go0 ?_) (fun h1=>Go0 ?_)
 ·exact bad _ _ (by simp only [Qj, Qxu h1]) h1
 ·(first|refine Qu9 (fun h2=>?_) (fun h2=>?_)|refine Br.mk (fun h2=>?_) (fun h2=>?_)<;>simp [-List.length_eq_zero_iff,-List.getD_eq_getElem?_getD] at h2)<;>(try simp only [Qxy] at h2)<;>(conv=>whnf)
  ·refine Go0 ?_
   have : decide (0 ≤ zone ∧ zone < d.zones.length) = false := by simp only [QxM]; omega
   exact bad _ _ (by simp only [Qj, Qxt h1, this]; rfl) (by decide)
  ·refine Go1 fun _h=>?_
   have hrange : decide (0 ≤ zone ∧ zone < d.zones.length) = true := by simp only [Qxw]; omega
   have hk : zone.toNat < d.zones.length := by omega
   refine Br.of (fun h3=>Go0 ?_) (fun h3=>Go0 ?_)
   ·exact bad _ _ (by simp only [Qj, Qxt h1, hrange, Qxt]; rw [Qxu om]) (by decide)
   ·have h40 : s.size = 40 := by omega
    refine Br.of (fun h5=>Go0 ?_) (fun h5=>Go0 ?_)
    ·exact bad _ _ (by simp only [Qj, Qxt h1, hrange, Qxt, Qxt h40, Qxt h5]) (by decide)
    ·refine Br.of (fun h4=>Go0 ?_) (fun h4=>Go0 ?_)
     ·exact bad _ _ (by simp only [Qj, Qxt h1, hrange, Qxt, Qxt h40, Qxu h5, Qxt h4]) (by decide)
     ·refine CallN.pure Qbm (Qbn _ ) (leA.refl rfl) rfl (Go0 ?_)
      have hm : (d.zones.getD zone.toNat default).sectors.length ≤ 10000000 := hd.s _
      have hz := hd.z
      refine Br.of (fun ho=>Go0 ?_) (fun ho=>Go0 ?_)
      ·have hE : Qj d zone s = (Qe d zone.toNat).1 := by
        simp only [Qj, Qxt h1, hrange, Qxt, Qxt h40, Qxu h5, Qxu h4]; rw [ho]; rfl
       have hL : Qal d zone.toNat = (Qe d zone.toNat).2 := by simp only [Qal]; rw [ho]; rfl
       have hlen := QgF d zone.toNat
       have hsec := QdY d zone.toNat zone.toNat
       have hm' : ((Qe d zone.toNat).2.getD zone.toNat default).sectors.length ≤ 10000000 := by rw [hsec]; exact hm
       have hcl := Qg1 d zone.toNat zone.toNat ho
       have hzz : zone = (zone.toNat : Int) := by omega
       refine CallN.pure Qlm (Qle d hd.z zone.toNat hk ho) (leA.cons rfl (wkS.imm rfl) (leA.cons rfl (wkS.c (wkC.int hzz)) leA.nil)) rfl ?_
       by_cases hr0 : (Qe d zone.toNat).1 = 0
       ·have hE0 : Qj d zone s = 0 := by rw [hE, hr0]
        have hI : QA d zone s = ((Qe d zone.toNat).2.getD zone.toNat default).sectors.length := by simp only [QA, Qxt hE0, hsec]
        rw [hr0, show QbU d zone.toNat = { d with zones := (Qe d zone.toNat).2 } by simp only [QbU, Qxt hr0]]
        refine Go0 ?_
        refine Br.no rfl (Go0 ?_)
        have hk' : zone.toNat < (Qe d zone.toNat).2.length := by omega
        have himm : ∀ i, i < 0 + ((Qe d zone.toNat).2.getD zone.toNat default).sectors.length + 1 → ∀ j, j < 1 → (appG (appG (QaE 1 []) 0 (fun i _ => .str (((Qe d zone.toNat).2.getD zone.toNat default).sectors.getD i ByteArray.empty))) (0 + ((Qe d zone.toNat).2.getD zone.toNat default).sectors.length) (QaE 1 [.str s]) i j).imm = true := by
         intro i hi j hj
         have : j = 0 := by omega
         subst this
         rw [QxX] at hi ⊢
         rw [Qee _ _ _ _ _ hi]
         rfl
        have hcel : ∀ i, i < 0 + ((Qe d zone.toNat).2.getD zone.toNat default).sectors.length + 1 → ∀ j, j < 1 → leF (appG (appG (QaE 1 []) 0 (fun i _ => .str (((Qe d zone.toNat).2.getD zone.toNat default).sectors.getD i ByteArray.empty))) (0 + ((Qe d zone.toNat).2.getD zone.toNat default).sectors.length) (QaE 1 [.str s]) i j) (.str ((((Qe d zone.toNat).2.getD zone.toNat default).sectors ++ [s]).getD i ByteArray.empty)) := by
         intro i hi j hj
         have : j = 0 := by omega
         subst this
         rw [QxX] at hi ⊢
         exact leF.of_eq (Qee _ _ _ _ _ hi)
        refine CallN.pure Qbm (Qbn _ ) (leA.refl rfl) rfl (Go0 ?_)
        refine Br.yes (by rw [hcl]; rfl) (Go0 ?_)
        refine Br.of (fun hs=>Go0 ?_) (fun hs=>Go0 ?_)
        ·try dsimp only at hs
         refine Qwt hΓ hMix [(0,3),(1,3)] (by kernel_rfl) (Go0 ?_)
         refine Dr.mv [(10, .c (.ptr 2 0)), (1, .c (.int .i64 zone)), (13, .c (.ptr 4 0)), (6, .c (.ptr 1 0))] [.vr d.cells, .vr [.int .i64 0, .int .i64 0, .int .i64 0, .nils], .vr ({ d with zones := (Qe d zone.toNat).2 } : Dev).cells, .vr ({ d with zones := (Qe d zone.toNat).2 } : Dev).cells, .vr [.int .i64 4, .int .i64 d.size, Qay (((Qe d zone.toNat).2.getD zone.toNat default).sectors ++ [s])]] ((Mv.fz 5 rfl (Qxx _) himm).trans (Mv.mk' 5 rfl ⟨O.wk.vr (Qv rfl), O.wk.vr (Qv rfl), O.wk.vr (Qv rfl), O.wk.vr (Qv rfl), O.wk.vr ⟨wkC.imm rfl, wkC.imm rfl, wkC.fz (by simp) (by simp) hcel (fun e => by cases e), trivial⟩, trivial⟩
          ⟨wkS.c (wkC.ptr (by decide)), wkS.imm rfl, wkS.c (wkC.ptr (by decide)), wkS.c (wkC.ptr (by decide)), trivial⟩ (Qxx _))) ?_
         refine Qwt hΓ hMix [(4,8),(5,8),(6,8),(7,8)] (by kernel_rfl) (Go0 ?_)
         refine CallP.mk QdO (QdR ({ d with zones := (Qe d zone.toNat).2 } : Dev) (show (Qe d zone.toNat).2.length ≤ 10000000 by omega) zone (show 0 ≤ zone ∧ zone < ((Qe d zone.toNat).2.length : Int) by omega) ⟨4, d.size, ((Qe d zone.toNat).2.getD zone.toNat default).sectors ++ [s]⟩ ) (leA.refl rfl) rfl (Go0 ?_)
         have hD : Qf d zone s = { d with zones := (Qe d zone.toNat).2.set zone.toNat ⟨4, d.size, ((Qe d zone.toNat).2.getD zone.toNat default).sectors ++ [s]⟩ } := by
          simp only [Qf, Qxt hE0, hL, grow]
          rw [Qxt om]
         rw [hD, hI, hE0]
         refine RM.imm rfl (wkS.t ⟨Qv rfl, wkC.int ?_, wkC.imm rfl, trivial⟩)
         simp only [QxL, QxR, Qx5]
         rw [Qa _ om om]; omega
        ·try dsimp only at hs
         refine Dr.mv [(10, .c (.ptr 2 0)), (1, .c (.int .i64 zone)), (13, .c (.ptr 4 0)), (6, .c (.ptr 1 0))] [.vr d.cells, .vr [.int .i64 0, .int .i64 0, .int .i64 0, .nils], .vr ({ d with zones := (Qe d zone.toNat).2 } : Dev).cells, .vr ({ d with zones := (Qe d zone.toNat).2 } : Dev).cells, .vr [.int .i64 1, .int .i64 ((Qe d zone.toNat).2.getD zone.toNat default).durable, Qay (((Qe d zone.toNat).2.getD zone.toNat default).sectors ++ [s])]] ((Mv.fz 5 rfl (Qxx _) himm).trans (Mv.mk' 5 rfl ⟨O.wk.vr (Qv rfl), O.wk.vr (Qv rfl), O.wk.vr (Qv rfl), O.wk.vr (Qv rfl), O.wk.vr ⟨wkC.imm rfl, wkC.imm rfl, wkC.fz (by simp) (by simp) hcel (fun e => by cases e), trivial⟩, trivial⟩
          ⟨wkS.c (wkC.ptr (by decide)), wkS.imm rfl, wkS.c (wkC.ptr (by decide)), wkS.c (wkC.ptr (by decide)), trivial⟩ (Qxx _))) ?_
         refine Qwt hΓ hMix [(4,8),(5,8),(6,8),(7,8)] (by kernel_rfl) (Go0 ?_)
         refine CallP.mk QdO (QdR ({ d with zones := (Qe d zone.toNat).2 } : Dev) (show (Qe d zone.toNat).2.length ≤ 10000000 by omega) zone (show 0 ≤ zone ∧ zone < ((Qe d zone.toNat).2.length : Int) by omega) ⟨1, ((Qe d zone.toNat).2.getD zone.toNat default).durable, ((Qe d zone.toNat).2.getD zone.toNat default).sectors ++ [s]⟩ ) (leA.refl rfl) rfl (Go0 ?_)
         have hD : Qf d zone s = { d with zones := (Qe d zone.toNat).2.set zone.toNat ⟨1, ((Qe d zone.toNat).2.getD zone.toNat default).durable, ((Qe d zone.toNat).2.getD zone.toNat default).sectors ++ [s]⟩ } := by
          simp only [Qf, Qxt hE0, hL, grow]
          rw [Qxu om, hcl]; rfl
         rw [hD, hI, hE0]
         refine RM.imm rfl (wkS.t ⟨Qv rfl, wkC.int ?_, wkC.imm rfl, trivial⟩)
         simp only [QxL, QxR, Qx5]
         rw [Qa _ om om]; omega
       ·rw [show QbU d zone.toNat = d by simp only [QbU, Qxu hr0]]
        refine Go0 ?_
        refine Br.of (fun h6=>?_) (fun h6=>?_)<;>(try simp only [Qxy] at h6)<;>(conv=>whnf)
        ·refine Go0 ?_
         try dsimp only at hs
         exact bad _ _ hE hr0
        ·exact absurd h6 hr0
      ·have hE0 : Qj d zone s = 0 := by
        simp only [Qj, Qxt h1, hrange, Qxt, Qxt h40, Qxu h5, Qxu h4]; rw [ho]; rfl
       have hL : Qal d zone.toNat = d.zones := by simp only [Qal]; rw [ho]; rfl
       have hI : QA d zone s = (d.zones.getD zone.toNat default).sectors.length := by simp only [QA, Qxt hE0]
       have hk' : zone.toNat < d.zones.length := by omega
       have himm : ∀ i, i < 0 + (d.zones.getD zone.toNat default).sectors.length + 1 → ∀ j, j < 1 → (appG (appG (QaE 1 []) 0 (fun i _ => .str ((d.zones.getD zone.toNat default).sectors.getD i ByteArray.empty))) (0 + (d.zones.getD zone.toNat default).sectors.length) (QaE 1 [.str s]) i j).imm = true := by
        intro i hi j hj
        have : j = 0 := by omega
        subst this
        rw [QxX] at hi ⊢
        rw [Qee _ _ _ _ _ hi]
        rfl
       have hcel : ∀ i, i < 0 + (d.zones.getD zone.toNat default).sectors.length + 1 → ∀ j, j < 1 → leF (appG (appG (QaE 1 []) 0 (fun i _ => .str ((d.zones.getD zone.toNat default).sectors.getD i ByteArray.empty))) (0 + (d.zones.getD zone.toNat default).sectors.length) (QaE 1 [.str s]) i j) (.str (((d.zones.getD zone.toNat default).sectors ++ [s]).getD i ByteArray.empty)) := by
        intro i hi j hj
        have : j = 0 := by omega
        subst this
        rw [QxX] at hi ⊢
        exact leF.of_eq (Qee _ _ _ _ _ hi)
       refine CallN.pure Qbm (Qbn _ ) (leA.refl rfl) rfl (Go0 ?_)
       refine Br.no (by rw [ho]; rfl) (Go0 ?_)
       refine Br.of (fun hs=>Go0 ?_) (fun hs=>Go0 ?_)
       ·try dsimp only at hs
        refine Qwt hΓ hMix [(0,3),(1,3)] (by kernel_rfl) (Go0 ?_)
        refine Dr.mv [(10, .c (.ptr 2 0)), (1, .c (.int .i64 zone)), (13, .c (.ptr 3 0)), (6, .c (.ptr 1 0))] [.vr d.cells, .vr [.int .i64 0, .int .i64 0, .int .i64 0, .nils], .vr ({ d with zones := d.zones } : Dev).cells, .vr [.int .i64 4, .int .i64 d.size, Qay ((d.zones.getD zone.toNat default).sectors ++ [s])]] ((Mv.fz 4 rfl (Qxx _) himm).trans (Mv.mk' 4 rfl ⟨O.wk.vr (Qv rfl), O.wk.vr (Qv rfl), O.wk.vr (Qv rfl), O.wk.vr ⟨wkC.imm rfl, wkC.imm rfl, wkC.fz (by simp) (by simp) hcel (fun e => by cases e), trivial⟩, trivial⟩
         ⟨wkS.c (wkC.ptr (by decide)), wkS.imm rfl, wkS.c (wkC.ptr (by decide)), wkS.c (wkC.ptr (by decide)), trivial⟩ (Qxx _))) ?_
        refine Qwt hΓ hMix [(4,8),(5,8),(6,8),(7,8)] (by kernel_rfl) (Go0 ?_)
        refine CallP.mk QdO (QdR ({ d with zones := d.zones } : Dev) (show d.zones.length ≤ 10000000 by omega) zone (show 0 ≤ zone ∧ zone < (d.zones.length : Int) by omega) ⟨4, d.size, (d.zones.getD zone.toNat default).sectors ++ [s]⟩ ) (leA.refl rfl) rfl (Go0 ?_)
        have hD : Qf d zone s = { d with zones := d.zones.set zone.toNat ⟨4, d.size, (d.zones.getD zone.toNat default).sectors ++ [s]⟩ } := by
         simp only [Qf, Qxt hE0, hL, grow]
         rw [Qxt om]
        rw [hD, hI, hE0]
        refine RM.imm rfl (wkS.t ⟨Qv rfl, wkC.int ?_, wkC.imm rfl, trivial⟩)
        simp only [QxL, QxR, Qx5]
        rw [Qa _ om om]; omega
       ·try dsimp only at hs
        refine Dr.mv [(10, .c (.ptr 2 0)), (1, .c (.int .i64 zone)), (13, .c (.ptr 3 0)), (6, .c (.ptr 1 0))] [.vr d.cells, .vr [.int .i64 0, .int .i64 0, .int .i64 0, .nils], .vr ({ d with zones := d.zones } : Dev).cells, .vr [.int .i64 (d.zones.getD zone.toNat default).state, .int .i64 (d.zones.getD zone.toNat default).durable, Qay ((d.zones.getD zone.toNat default).sectors ++ [s])]] ((Mv.fz 4 rfl (Qxx _) himm).trans (Mv.mk' 4 rfl ⟨O.wk.vr (Qv rfl), O.wk.vr (Qv rfl), O.wk.vr (Qv rfl), O.wk.vr ⟨wkC.imm rfl, wkC.imm rfl, wkC.fz (by simp) (by simp) hcel (fun e => by cases e), trivial⟩, trivial⟩
         ⟨wkS.c (wkC.ptr (by decide)), wkS.imm rfl, wkS.c (wkC.ptr (by decide)), wkS.c (wkC.ptr (by decide)), trivial⟩ (Qxx _))) ?_
        refine Qwt hΓ hMix [(4,8),(5,8),(6,8),(7,8)] (by kernel_rfl) (Go0 ?_)
        refine CallP.mk QdO (QdR ({ d with zones := d.zones } : Dev) (show d.zones.length ≤ 10000000 by omega) zone (show 0 ≤ zone ∧ zone < (d.zones.length : Int) by omega) ⟨(d.zones.getD zone.toNat default).state, (d.zones.getD zone.toNat default).durable, (d.zones.getD zone.toNat default).sectors ++ [s]⟩ ) (leA.refl rfl) rfl (Go0 ?_)
        have hD : Qf d zone s = { d with zones := d.zones.set zone.toNat ⟨(d.zones.getD zone.toNat default).state, (d.zones.getD zone.toNat default).durable, (d.zones.getD zone.toNat default).sectors ++ [s]⟩ } := by
         simp only [Qf, Qxt hE0, hL, grow]
         rw [Qxu om, ho]; rfl
        rw [hD, hI, hE0]
        refine RM.imm rfl (wkS.t ⟨Qv rfl, wkC.int ?_, wkC.imm rfl, trivial⟩)
        simp only [QxL, QxR, Qx5]
        rw [Qa _ om om]; omega
theorem QcT : HB 143 := hB Tryz.func143
theorem Qlh (d : Dev) (zone off : Int) : PS 99 [d.s, .c (.int .i64 zone), .c (.int .i64 off)] (.t [.inl (.str (Q5 d zone off)), .inl (.int .i64 (QdD d zone off))]) := by
 refine PSpec.rm ?_
 refine ov hΓ Tryz.func99 37 0 [.tmp 6, .tmp 7] Tryz.ntmps99 Tryz.results99 ?_
 conv=>whnf
 refine CallN.pure Qkd (QjY d zone ) (leA.refl rfl) rfl (Go0 ?_)
 refine Br.of (fun h1=>?_) (fun h1=>?_)<;>(try simp only [Qxy] at h1)<;>(conv=>whnf)
 ·refine Go0 ?_
  have h2 : QdD d zone off = QG d zone := by simp only [QdD, Qxu h1]
  have : Q5 d zone off = ByteArray.empty := by simp only [Q5, h2, Qxu h1]
  exact RM.imm rfl (wkS.t ⟨wkC.str (by rw [this]; rfl), wkC.int h2.symm, trivial⟩)
 ·obtain ⟨hok, hz0, hz1⟩ := QcA h1
  have hk : zone.toNat < d.zones.length := by omega
  have hrE : ∀ e : Int, (if decide (0 ≤ off ∧ off < (d.zones.getD zone.toNat default).sectors.length) then 0 else 10) = e → QdD d zone off = e := by
   intro e h; simp only [QdD, Qxt h1]; exact h
  refine Go0 ?_
  (first|refine Qu9 (fun h2=>?_) (fun h2=>?_)|refine Br.mk (fun h2=>?_) (fun h2=>?_)<;>simp [-List.length_eq_zero_iff,-List.getD_eq_getElem?_getD] at h2)<;>(try simp only [Qxy] at h2)<;>(conv=>whnf)
  ·refine Go0 ?_
   have : decide (0 ≤ off ∧ off < (d.zones.getD zone.toNat default).sectors.length) = false := by simp only [QxM]; omega
   have h10 := hrE 10 (by rw [this]; rfl)
   exact RM.imm rfl (wkS.t ⟨wkC.str (by simp only [Q5, h10]; rfl), wkC.int h10.symm, trivial⟩)
  ·refine Go0 ?_
   have : decide (0 ≤ off ∧ off < (d.zones.getD zone.toNat default).sectors.length) = true := by simp only [Qxw]; omega
   have h0 := hrE 0 (by rw [this]; rfl)
   exact RM.imm rfl (wkS.t ⟨wkC.str (by simp only [Q5, h0]; rfl), wkC.int h0.symm, trivial⟩)
theorem Qlt : HB 99 := hB Tryz.func99
theorem QpF (n : Int) : PS 115 [.c (.int .i64 n)] (.c (.str (Qi0 n))) := by
 refine PSpec.rm ?_
 refine ov0 hΓ Tryz.func115 30 0 [.tmp 2] Tryz.ntmps115 Tryz.results115 ?_
 refine QuY hΓ (ι := Nat) [0] (fun k => [(4, .c (.int .i64 k)), (3, .c (.sl 0 1 16 16 true))]) (fun k => [.arr 5 1 16 (genG (fun i => if i < k then Qr7 n i else 0))]) (fun k => k ≤ 16) (fun k => 16 - k) 0 (Qxx _) ?_ ?_
 ·refine Qvm ?_
  intro i hi j hj
  have hj' : j < 1 := hj
  have : j = 0 := by omega
  subst this
  exact WC.eq (by simp [Qbx, QN, lget, getL, genG, Z.toC]) rfl
 ·intro k hk
  refine Go0 ?_
  refine Br.of (fun h1=>Go0 ?_) (fun h1=>Go0 ?_)
  ·refine QuU Qia (Qh2 _ _ ) (Go0 ?_)
   refine ⟨k + 1, om, om, ?_⟩
   refine Qvm ?_
   intro i hi j hj
   refine WC.eq ((Qmt i j hj).trans ?_) rfl
   simp only [genG, Qxy]
   congr 1
   by_cases c : i = k
   ·subst c
    rw [Qxt rfl, Qxt om]; rfl
   ·rw [Qxu c]
    by_cases c2 : i < k
    ·rw [Qxt c2, Qxt om]
    ·rw [Qxu c2, Qxu om]
  ·have : k = 16 := by omega
   subst this
   refine QuU Qia (Qh2 _ _ ) (Go0 ?_)
   refine Need.mk (fun i hi => ⟨_, Qmt i 0 (by decide)⟩) (Go0 ?_)
   exact QuV
theorem Qpb : HB 115 := hB Tryz.func115
theorem Qfb (d : DiceM) (hd : d.ok) (blocks version : Int) : CS 35 [.c (.ptr 0 0), .c (.int .i64 blocks), .c (.int .i64 version)] [.vr d.cells] fun s H => s = (recR d blocks version).s ∧ H = [.vr (recD d).cells] := by
 refine CSpec.rm ?_
 refine ov0 hΓ Tryz.func35 22 1 [.cell 6 109] Tryz.ntmps35 Tryz.results35 ?_
 refine CallN.autoQ [0] QK (QJ d hd blocks) (Go0 ?_)
 refine CallN.autoQ [0] QK (QJ d.step hd.step 200) (Go0 ?_)
 refine CallN.pure Qpb (QpF _ ) (leA.refl rfl) rfl (Go0 ?_)
 refine CallN.autoQ [0] QK (QJ d.step.step hd.step.step 4) (Go0 ?_)
 refine Br.of (fun h=>Go0 ?_) (fun h=>Go0 ?_)
 ·refine ⟨_, _, QvG (H' := [.vr (recD d).cells]) (s' := (recR d blocks version).s) ?_ ?_ (QxB _), rfl, rfl⟩
  ·exact wb0
  ·rw [show recR d blocks version = ⟨2, d.next blocks, version, 0, ByteArray.empty⟩ from Qxt h]
   exact wb0
 ·refine ⟨_, _, QvG (H' := [.vr (recD d).cells]) (s' := (recR d blocks version).s) ?_ ?_ (QxB _), rfl, rfl⟩
  ·exact wb0
  ·rw [show recR d blocks version = ⟨1, d.next blocks, version, 0, Qi0 (d.step.next 200)⟩ from Qxu h]
   exact wb0
theorem Qfk : HB 35 := hB Tryz.func35
def _root_.Go.Am.Rec.cells (r : Rec) : List C := [.int .i64 r.kind, .int .i64 r.block, .int .i64 r.version, .int .i64 r.move, .str r.payload]
theorem QqE {b : ByteArray} {p : Nat} : Qdx b p n (k + 1) = orW (shW (Qdx b p n k)) (Qa8 b (p + (n - 1 - k))) := rfl
set_option maxHeartbeats 1000000 in
theorem Qq3 (b : ByteArray) (p n : Nat) (h1 : 1 ≤ n) (h7 : n ≤ 7) (hp : p ≤ 1000) (hb : b.size ≤ 10000000) : PS 291 [.c (.str b), .c (.int .i64 p), .c (.int .i64 n)] (.t [.inl (.int .i64 (getS b p n)), .inl (.int .i64 (getE b p n))]) := by
 refine PSpec.rm ?_
 refine ov0 hΓ Tryz.func291 48 0 [.tmp 6, .tmp 7] Tryz.ntmps291 Tryz.results291 ?_
 refine Br.no (by simp; omega) (Go1 fun _h=>?_)
 have w0 := Qa ((b.size : Int) - p) om om
 by_cases h : b.size < p + n
 ·refine Br.yes (by rw [w0]; simp; omega) (Go0 ?_)
  rw [show getS b p n = 0 from Qxt h, show getE b p n = 2 from Qxt h]
  exact QuV
 ·refine Br.no (by rw [w0]; simp; omega) (Go0 ?_)
  have w1 := Qa ((n : Int) - 1) om om
  refine QuY hΓ (ι := Nat) [0, 1, 6, 7] (fun k => [(9, .c (.int .i64 ((n : Int) - 1 - k))), (8, .c (.int .i64 (Qdx b p n k)))]) (fun k => []) (fun k => k ≤ n) (fun k => n - k) 0 (Qxx _) ?_ ?_
  ·exact QuW
  ·intro k hk
   refine Go0 ?_
   refine Br.of (fun h2=>?_) (fun h2=>?_)<;>(try simp only [Qxy] at h2)<;>(conv=>whnf)
   ·have e1 : IntKind.i64.wrap ((p : Int) + ((n : Int) - 1 - k)) = ((p + (n - 1 - k) : Nat) : Int) := by rw [Qa _ om om]; omega
    have w2 := Qa ((n : Int) - 1 - k - 1) om om
    refine Go0 ?_
    rw [e1]
    refine Go0 ?_
    refine ⟨k + 1, om, om, ?_⟩
    exact QuW
   ·refine Go0 ?_
    have : k = n := by omega
    subst this
    rw [show getS b p k = Qdx b p k k from Qxu h, show getE b p k = 0 from Qxu h]
    exact QuV
theorem QrU : HB 291 := hB Tryz.func291
theorem Qdj (b : ByteArray) (p n : Nat) (h1 : 1 ≤ n) (h7 : n ≤ 7) (hp : p ≤ 1000) (hb : b.size ≤ 10000000) : PS 246 [.c (.str b), .c (.int .i64 p), .c (.int .i64 n)] (.c (.int .i64 (getS b p n))) := by
 refine PSpec.rm ?_
 refine ov0 hΓ Tryz.func246 17 0 [.tmp 6] Tryz.ntmps246 Tryz.results246 ?_
 refine QuU QrU (Qq3 b p n h1 h7 hp hb ) (Go0 ?_)
 exact QuV
theorem Qdm : HB 246 := hB Tryz.func246
theorem Qoo (b : ByteArray) (k : Nat) : 0 ≤ Qa8 b k ∧ Qa8 b k < 256 := by
 have h : (b.data.toList.getD k 0).toNat < 256 := UInt8.toNat_lt _
 unfold Qa8
 rw [Qa _ om om]
 omega
theorem QsH {y : Int} (h : 0 ≤ y ∧ y < 256) : orW (shW 0) y = y := by
 obtain ⟨n, rfl⟩ := Int.eq_ofNat_of_zero_le h.1
 have e0 : shW 0 = 0 := by decide
 rw [e0]
 unfold orW
 have e1 : (BitVec.ofInt IntKind.i64.bits 0 ||| BitVec.ofInt IntKind.i64.bits (n : Int)).toNat = n := by
  show (BitVec.ofInt 64 0 ||| BitVec.ofInt 64 (n : Int)).toNat = n
  rw [show BitVec.ofInt 64 0 = 0#64 from rfl, BitVec.zero_or]
  rw [QyC]
  omega
 rw [e1]
 exact Qa _ om om
theorem Quw (s : ByteArray) (p : Nat) : 0 ≤ getS s p 1 ∧ getS s p 1 < 256 := by
 unfold getS
 split
 ·omega
 ·show 0 ≤ orW (shW 0) (Qa8 s (p + (1 - 1 - 0))) ∧ _
  have := Qoo s (p + (1 - 1 - 0))
  rw [QqE]
  show 0 ≤ orW (shW 0) (Qa8 s (p + (1 - 1 - 0))) ∧ orW (shW 0) (Qa8 s (p + (1 - 1 - 0))) < 256
  rw [QsH this]
  exact this
set_option maxHeartbeats 4000000 in
theorem QgZ (s : ByteArray) : PS 183 [.c (.str s)] (.t [.inr (decR s).cells, .inl (.int .i64 (decE s))]) := by
 refine PSpec.rm ?_
 refine ov hΓ Tryz.func183 48 0 [.cell 2 109, .tmp 3] Tryz.ntmps183 Tryz.results183 ?_
 refine Go1 fun _h=>?_
 by_cases h0 : s.size = 40
 ·refine Br.no (by simp [h0]) (Go0 ?_)
  have hb : s.size ≤ 10000000 := by omega
  refine Dr.mk hΓ hMix (by kernel_rfl) (Go0 ?_)
  refine CallP.auto Qdm (Qdj s 36 4 (by decide) (by decide) (by decide) hb ) (Go0 ?_)
  refine CallP.auto Qh0 (Qh9 (s.extract 0 36) (by rw [QyP]; omega) ) (Go0 ?_)
  have hz : s.size = 40 → (s.extract 0 36).size = 36 := fun h => by rw [QyP]; omega
  by_cases h1 : getS s 36 4 = sumW (s.extract 0 36)
  ·refine Br.no (by rw [h1]; exact bne_self_eq_false _) (Go0 ?_)
   refine QuU Qdm (Qdj s 2 1 (by decide) (by decide) (by decide) hb ) (Go0 ?_)
   refine QuU Qdm (Qdj s 4 4 (by decide) (by decide) (by decide) hb ) (Go0 ?_)
   refine QuU Qdm (Qdj s 8 6 (by decide) (by decide) (by decide) hb ) (Go0 ?_)
   refine QuU Qdm (Qdj s 14 1 (by decide) (by decide) (by decide) hb ) (Go0 ?_)
   refine QuU Qdm (Qdj s 3 1 (by decide) (by decide) (by decide) hb ) (Go0 ?_)
   have g3 := Quw s 3
   have w3 : IntKind.i64.wrap (16 + min (getS s 3 1) 20) = 16 + min (getS s 3 1) 20 := Qa _ om om
   rw [w3]
   refine Go0 ?_
   refine QuU QhD (QhM (rawR s) ) (Go0 ?_)
   by_cases h2 : Qm (rawR s) = 0 ∧ encR (rawR s) = s
   ·refine Br.no (by rw [h2.1, h2.2]; simp) (Go0 ?_)
    have e : decE s = 0 := by unfold decE; rw [Qxt h0, Qxt h1, Qxt h2]
    rw [show decR s = rawR s from Qxt e, e]
    exact QuV
   ·refine Br.yes (by
     refine QxC fun z => h2 ?_
     simp at z
     exact z) ?_
    refine Go0 ?_
    have e : decE s = 3 := by unfold decE; rw [Qxt h0, Qxt h1, Qxu h2]
    rw [show decR s = default from Qxu (by rw [e]; decide), e]
    exact QuV
  ·refine Br.yes (Qy2.2 h1) (Go0 ?_)
   have e : decE s = 4 := by unfold decE; rw [Qxt h0, Qxu h1]
   rw [show decR s = default from Qxu (by rw [e]; decide), e]
   exact QuV
 ·refine Br.yes (by simp; omega) (Go0 ?_)
  have e : decE s = 2 := Qxu h0
  rw [show decR s = default from Qxu (by rw [e]; decide), e]
  exact QuV
theorem QgV : HB 183 := hB Tryz.func183
theorem QpE (r : Rec) : PS 202 [.a r.cells] (.t [.inr (QbV r).1.cells, .inl (.bool (QbV r).2)]) := by
 refine PSpec.rm ?_
 refine ov0 hΓ Tryz.func202 24 0 [.cell 2 109, .tmp 3] Tryz.ntmps202 Tryz.results202 ?_
 refine QuU QhB (QhU r ) (Go0 ?_)
 by_cases h : Qm r = 0 ∧ QbB r = true
 ·have hk : r.kind = 1 ∨ r.kind = 2 := Qx4 h.2
  have hm := (QaY h.1).2.1
  have w := Qa (r.move + 1) om om
  refine Br.no (by rw [h.1]; simp; omega) (Go0 ?_)
  rw [show QbV r = ({ r with move := min (r.move + 1) 255 }, true) from Qxt h]
  exact QuV
 ·have hk : Qm r = 0 → ¬ (r.kind = 1 ∨ r.kind = 2) := fun a b => h ⟨a, Qxz b⟩
  refine Br.yes (by
   refine QxC fun z => ?_
   simp at z
   have := hk z.1
   omega) ?_
  refine Go0 ?_
  rw [show QbV r = (default, false) from Qxu h]
  exact QuV
theorem QpP : HB 202 := hB Tryz.func202
theorem Qod (s : ByteArray) : PS 100 [.c (.str s)] (.t [.inr (QaA s).1.cells, .inl (.bool (QaA s).2)]) := by
 refine PSpec.rm ?_
 refine ov0 hΓ Tryz.func100 25 0 [.cell 2 109, .tmp 3] Tryz.ntmps100 Tryz.results100 ?_
 refine QuU QgV (QgZ s ) (Go0 ?_)
 by_cases h : decE s = 0 ∧ QbB (decR s) = true
 ·have hk : (decR s).kind = 1 ∨ (decR s).kind = 2 := Qx4 h.2
  refine Br.no (by rw [h.1]; simp; omega) (Go0 ?_)
  rw [show QaA s = (decR s, true) from Qxt h]
  exact QuV
 ·have hk : decE s = 0 → ¬ ((decR s).kind = 1 ∨ (decR s).kind = 2) := fun a b => h ⟨a, Qxz b⟩
  refine Br.yes (by
   refine QxC fun z => ?_
   simp at z
   have := hk z.1
   omega) ?_
  refine Go0 ?_
  rw [show QaA s = (default, false) from Qxu h]
  exact QuV
theorem Qnu : HB 100 := hB Tryz.func100
theorem Qkw {s : ByteArray} (h : decE s = 0) : s.size = 40 := by
 unfold decE at h
 by_cases q : s.size = 40
 ·exact q
 ·rw [Qxu q] at h; cases h
theorem QcG (l : List ByteArray) : ∀ k, (∀ i, i < k → decE (l.getD i ByteArray.empty) = 0) → 0 ≤ QaN l k ∧ QaN l k ≤ 1099511627776 ∧ 0 ≤ Qbi l k ∧ Qbi l k ≤ 1099511627776
 | 0, _ => by simp [QaN, Qbi]
 | k + 1, h => by
  have h1 := QcG l k fun i hi => h i om
  have h2 := h k om
  have h3 : Qm (decR (l.getD k ByteArray.empty)) = 0 := by
   rw [show decR (l.getD k ByteArray.empty) = rawR (l.getD k ByteArray.empty) from Qxt h2]
   unfold decE at h2
   split at h2
   ·split at h2
    ·split at h2
     ·rename_i q; exact q.1
     ·cases h2
    ·cases h2
   ·cases h2
  have h4 := (QaY h3).2.1
  simp only [QaN, Qbi]
  omega
theorem QcY (l : List ByteArray) : ∀ k, (∀ i, i < k → decE (l.getD i ByteArray.empty) = 0) → (Q8 l k).size = 36 * k
 | 0, _ => rfl
 | k + 1, h => by
  have h1 := QcY l k fun i hi => h i om
  have h2 := Qkw (h k om)
  simp only [Q8]
  rw [QxZ, h1, QyP]
  omega
theorem Qcj {l : List ByteArray} : ∀ {k}, QY l k = 0 → ∀ i, i < k → blkE (l.getD i ByteArray.empty) = 0
 | 0, _ => fun i hi => absurd hi (QxN _)
 | k + 1, h => by
  simp only [QY] at h
  split at h
  ·rename_i h1
   exact Q0 (Qcj h1) h
  ·rename_i h1; exact absurd h h1
theorem Qhc {l : List ByteArray} {k : Nat} (h : QY l k ≠ 0) : ∀ d, QY l (k + d) = QY l k
 | 0 => rfl
 | d + 1 => by
  have h1 := Qhc h d
  show QY l ((k + d) + 1) = _
  simp only [QY]
  rw [h1, Qxu h]
theorem Qgl {l : List ByteArray} (hk : k < l.length) (h0 : l.length ≠ 0 ∧ l.length ≤ 64) (h1 : QY l k = 0) (h2 : blkE (l.getD k ByteArray.empty) ≠ 0) : QaF l = blkE (l.getD k ByteArray.empty) ∧ QU l = default := by
 have e : QY l (k + 1) = blkE (l.getD k ByteArray.empty) := Qxt h1
 have e2 := Qhc (l := l) (k := k + 1) (by rw [e]; exact h2) (l.length - (k + 1))
 rw [show k + 1 + (l.length - (k + 1)) = l.length by omega, e] at e2
 have e3 : QaF l = blkE (l.getD k ByteArray.empty) := by unfold QaF; rw [Qxu om, e2]
 exact ⟨e3, Qxu (by rw [e3]; exact h2)⟩
set_option maxHeartbeats 4000000 in
theorem QiH (l : List ByteArray) : PS 110 [.c (Qay l)] (.t [.inr (QU l).cells, .inl (.int .i64 (QaF l))]) := by
 refine PSpec.rm ?_
 refine ov hΓ Tryz.func110 84 0 [.cell 2 109, .tmp 3] Tryz.ntmps110 Tryz.results110 ?_
 refine Go1 fun _h=>?_
 by_cases h0 : l.length = 0 ∨ 64 < l.length
 ·refine Br.yes (by simp [-List.length_eq_zero_iff, -List.getD_eq_getElem?_getD]; omega) ?_
  refine Go0 ?_
  have e : QaF l = 19 := Qxt h0
  rw [show QU l = default from Qxu (by rw [e]; decide), e]
  exact QuV
 ·refine Br.no (by simp [-List.length_eq_zero_iff, -List.getD_eq_getElem?_getD]; omega) ?_
  refine Go0 ?_
  refine QuY hΓ (ι := Nat) [0, 2] (fun k => [(7, .c (.int .i64 k)), (4, .c (.int .i64 (QaN l k))), (5, .c (.int .i64 (Qbi l k))), (6, .c (.str (Q8 l k)))]) (fun k => [.vr (default : Rec).cells]) (fun k => k ≤ l.length ∧ QY l k = 0) (fun k => l.length - k) 0 ⟨Qxx _, rfl⟩ ?_ ?_
  ·exact QuW
  ·rintro k ⟨hk, hk2⟩
   refine Go1 fun _h=>?_
   refine Br.of (fun h1=>Go0 ?_) (fun h1=>Go0 ?_)
   ·have hf := Qcj hk2
    have hd : ∀ i, i < k → decE (l.getD i ByteArray.empty) = 0 := fun i hi => by
     have := hf i hi
     unfold blkE at this
     by_cases q : decE (l.getD i ByteArray.empty) = 0
     ·exact q
     ·rw [Qxu q] at this; exact this
    have hb := QcY l k hd
    have w0 := Qa (↑k + 1) om om
    refine QuU QgV (QgZ (l.getD k ByteArray.empty) ) (Go0 ?_)
    by_cases h2 : decE (l.getD k ByteArray.empty) = 0
    ·refine Br.no (by rw [h2]; rfl) (Go0 ?_)
     have hz := Qkw h2
     by_cases h3 : QbB (decR (l.getD k ByteArray.empty)) = true
     ·have hk3 : (decR (l.getD k ByteArray.empty)).kind = 1 ∨ (decR (l.getD k ByteArray.empty)).kind = 2 := Qx4 h3
      refine Br.no (by simp [-List.length_eq_zero_iff, -List.getD_eq_getElem?_getD]; omega) ?_
      refine Go0 ?_
      refine Dr.mk hΓ hMix (by kernel_rfl) (Go0 ?_)
      have e : blkE (l.getD k ByteArray.empty) = 0 := by unfold blkE; rw [Qxt h2, Qxt h3]
      refine ⟨k + 1, ⟨om, (Qxt hk2).trans e⟩, om, ?_⟩
      exact QuW
     ·have hk3 : ¬ ((decR (l.getD k ByteArray.empty)).kind = 1 ∨ (decR (l.getD k ByteArray.empty)).kind = 2) := fun z => h3 (Qxz z)
      have e : blkE (l.getD k ByteArray.empty) = 3 := by unfold blkE; rw [Qxt h2, Qxu h3]
      obtain ⟨e1, e2⟩ := Qgl om om hk2 (by rw [e]; decide)
      refine Br.yes (by simp [-List.length_eq_zero_iff, -List.getD_eq_getElem?_getD]; omega) ?_
      refine Go0 ?_
      rw [e2, e1, e]
      exact QuV
    ·have e : blkE (l.getD k ByteArray.empty) = decE (l.getD k ByteArray.empty) := by unfold blkE; rw [Qxu h2]
     obtain ⟨e1, e2⟩ := Qgl om om hk2 (by rw [e]; exact h2)
     refine Br.yes (by simpa using h2) (Go0 ?_)
     rw [e2, e1, e]
     exact QuV
   ·have : k = l.length := by omega
    subst this
    have hf := Qcj hk2
    have hd : ∀ i, i < l.length → decE (l.getD i ByteArray.empty) = 0 := fun i hi => by
     have := hf i hi
     unfold blkE at this
     by_cases q : decE (l.getD i ByteArray.empty) = 0
     ·exact q
     ·rw [Qxu q] at this; exact this
    have hb := QcY l l.length hd
    have hr := QcG l l.length hd
    refine QuU Qkn (QkW (QaN l l.length) om ) (Go0 ?_)
    refine QuU Qh0 (Qh9 (Q8 l l.length) om ) (Go0 ?_)
    have hs := Qfq 0 (Q8 l l.length)
    have hw : IntKind.i64.wrap (addU 0 (Q8 l l.length)) = addU 0 (Q8 l l.length) := Qa _ om om
    refine QuU Qkv (QkB (sumW (Q8 l l.length)) (by unfold sumW; rw [hw]; exact hs) ) (Go1 fun _h=>?_)
    have e : QaF l = 0 := by unfold QaF; rw [Qxu h0, hk2]
    have hp1 := QI (QaN l l.length) 6
    have hp2 := QI (sumW (Q8 l l.length)) 4
    refine Go0 ?_
    rw [show QU l = ⟨3, l.length, Qbi l l.length, 0, putS (QaN l l.length) 6 ++ putS (sumW (Q8 l l.length)) 4⟩ from Qxt e, e]
    exact QuV
theorem QiF : HB 110 := hB Tryz.func110
def bitN (x : Nat) : Nat := if x % 2 = 1 then (x / 2) ^^^ 3988292384 else x / 2
def Qcv : Nat → Nat → Nat
 | 0, x => x
 | n + 1, x => bitN (Qcv n x)
theorem Qgb (ha : a < 4294967296) (hb : b < 4294967296) : a ^^^ b < 4294967296 := Nat.xor_lt_two_pow (n := 32) ha hb
theorem QtW (h : x < 4294967296) : bitN x < 4294967296 := by
 unfold bitN
 split
 ·exact Qgb om (by decide)
 ·omega
theorem Qs3 (a b : Nat) : bitN (a ^^^ b) = bitN a ^^^ bitN b := by
 have h2 : (a ^^^ b) / 2 = a / 2 ^^^ b / 2 := Nat.xor_div_two
 have h3 : (a ^^^ b) % 2 = (a + b) % 2 := by
  have h4 := Nat.testBit_xor a b 0
  simp only [Nat.testBit_zero] at h4
  have h5 := QyT (a ^^^ b)
  rcases QyT a with e | e <;> rcases QyT b with f | f <;> rcases h5 with g | g <;> simp [e, f, g] at h4 <;> omega
 unfold bitN
 rw [h2, h3]
 have hc : ∀ x y p : Nat, (x ^^^ p) ^^^ (y ^^^ p) = x ^^^ y := fun x y p => by
  rw [Nat.xor_comm y p, Nat.xor_assoc, ← Nat.xor_assoc p p y, Nat.xor_self, Nat.zero_xor]
 rcases QyT a with e | e <;> rcases QyT b with f | f
 ·rw [Qxu om, Qxu om, Qxu om]
 ·rw [Qxt om, Qxu om, Qxt om, Nat.xor_assoc]
 ·rw [Qxt om, Qxt om, Qxu om, Nat.xor_assoc, Nat.xor_assoc, Nat.xor_comm 3988292384]
 ·rw [Qxu om, Qxt om, Qxt om, hc]
theorem Qru (n a b : Nat) : Qcv n (a ^^^ b) = Qcv n a ^^^ Qcv n b := by
 induction n with
 | zero => rfl
 | succ n ih => simp only [Qcv]; rw [ih, Qs3]
theorem Qij (h : x < 4294967296) : Qcv n x < 4294967296 := by
 induction n with
 | zero => exact h
 | succ n ih => exact QtW ih
theorem Qn4 (n z : Nat) : Qcv n (z * 2 ^ n) = z := by
 have key : ∀ n m z, Qcv n (z * 2 ^ (n + m)) = z * 2 ^ m := by
  intro n
  induction n with
  | zero => intro m z; rw [QxX]; rfl
  | succ n ih =>
   intro m z
   simp only [Qcv]
   rw [show n + 1 + m = n + (m + 1) by omega, ih (m + 1) z]
   unfold bitN
   rw [Nat.pow_succ, ← Nat.mul_assoc, Qxu om, Nat.mul_div_cancel _ om]
 have := key n 0 z
 simpa using this
theorem Qsq (hb : b < 256) : Qcv 8 (x ^^^ b) = (x / 256) ^^^ Qcv 8 ((x % 256) ^^^ b) := by
 have e : x ^^^ b = (x / 256 * 2 ^ 8) ^^^ ((x % 256) ^^^ b) := by
  rw [← Nat.xor_assoc]
  congr 1
  apply Nat.eq_of_testBit_eq
  intro i
  rw [Nat.testBit_xor, Nat.testBit_mul_two_pow, show (256 : Nat) = 2 ^ 8 by decide, Nat.testBit_mod_two_pow, Nat.testBit_div_two_pow]
  by_cases c : i < 8
  ·simp [c, Nat.not_le.2 c]
  ·have : 8 ≤ i := by omega
   simp [c, this]
 rw [e, Qru, Qn4]
theorem QeD (ha : a < 4294967296) (hb : b < 4294967296) : xorU a b = ((a ^^^ b : Nat) : Int) := by
 have := Qgb ha hb
 unfold xorU
 rw [IntKind.wrap_u32]
 have e : (BitVec.ofInt IntKind.u32.bits (a : Int) ^^^ BitVec.ofInt IntKind.u32.bits (b : Int)).toNat = a ^^^ b := by
  show (BitVec.ofInt 32 (a : Int) ^^^ BitVec.ofInt 32 (b : Int)).toNat = _
  rw [BitVec.toNat_xor, QyC, QyC]
  congr 1 <;> omega
 rw [e]
 omega
theorem Qpy (ha : a < 4294967296) : QaL a = (bitN a : Nat) := by
 have h1 : andU a 1 = ((a % 2 : Nat) : Int) := by
  unfold andU
  rw [IntKind.wrap_u32]
  have e : (BitVec.ofInt IntKind.u32.bits (a : Int) &&& BitVec.ofInt IntKind.u32.bits (1 : Int)).toNat = a % 2 := by
   show (BitVec.ofInt 32 (a : Int) &&& BitVec.ofInt 32 (1 : Int)).toNat = _
   rw [BitVec.toNat_and, QyC, QyC]
   have q : ((a : Int) % ((2 ^ 32 : Nat) : Int)).toNat = a := by omega
   rw [q]
   show a &&& 1 = _
   exact Nat.and_one_is_mod a
  rw [e]
  omega
 have h2 : Qho a = ((a / 2 : Nat) : Int) := by
  unfold Qho
  show (a : Int).fdiv 2 = _
  rw [Qy8 _ om]
  omega
 unfold QaL bitN
 rw [h1, h2]
 by_cases c : a % 2 = 1
 ·rw [Qxt om, Qxt c]
  exact QeD om (by decide)
 ·rw [Qxu om, Qxu c]
theorem Qhe (ha : a < 4294967296) (n : Nat) : QaX QaL n a = (Qcv n a : Nat) := by
 induction n with
 | zero => rfl
 | succ n ih => simp only [QaX, Qcv]; rw [ih]; exact Qpy (Qij ha)
def tabI (i : Int) : Int := QaX QaL 8 i
theorem Qsn {x : Int} (h0 : 0 ≤ x) (h1 : x < 4294967296) (hb : b < 256) : xorU (x.fdiv 256) (tabI ((x.toNat % 256 ^^^ b : Nat) : Int)) = QaX QaL 8 (xorU x b) := by
 obtain ⟨a, rfl⟩ : ∃ a : Nat, x = a := ⟨x.toNat, om⟩
 have ha : a < 4294967296 := by omega
 have hm : a % 256 ^^^ b < 256 := Nat.xor_lt_two_pow (n := 8) om hb
 rw [QeD ha om, Qhe (Qgb ha om), Qsq hb]
 unfold tabI
 rw [show ((a : Int)).toNat = a from rfl, Qhe om, Qy8 _ om, show (a : Int) / 256 = ((a / 256 : Nat) : Int) by omega, QeD om (Qij om)]
set_option maxHeartbeats 1000000 in
theorem Qgh (b : ByteArray) (p n : Nat) (h1 : 1 ≤ n) (h7 : n ≤ 7) (hp : p ≤ 1000) (hb : b.size ≤ 10000000) : PS 240 [.c (.str b), .c (.int .i64 p), .c (.int .i64 n)] (.t [.inl (.int .i64 (getS b p n)), .inl (.int .i64 (getE b p n))]) := by
 refine PSpec.rm ?_
 refine ov0 hΓ Tryz.func240 50 0 [.tmp 6, .tmp 7] Tryz.ntmps240 Tryz.results240 ?_
 refine Br.no (by simp; omega) (Go1 fun _h=>?_)
 have w0 := Qa ((b.size : Int) - p) om om
 by_cases h : b.size < p + n
 ·refine Br.yes (by rw [w0]; simp; omega) (Go0 ?_)
  rw [show getS b p n = 0 from Qxt h, show getE b p n = 2 from Qxt h]
  exact QuV
 ·refine Br.no (by rw [w0]; simp; omega) (Go0 ?_)
  have w1 := Qa ((n : Int) - 1) om om
  refine QuY hΓ (ι := Nat) [0, 1, 6, 7] (fun k => [(9, .c (.int .i64 ((n : Int) - 1 - k))), (8, .c (.int .i64 (Qdx b p n k)))]) (fun k => []) (fun k => k ≤ n) (fun k => n - k) 0 (Qxx _) ?_ ?_
  ·exact QuW
  ·intro k hk
   refine Go0 ?_
   refine Br.of (fun h2=>?_) (fun h2=>?_)<;>(try simp only [Qxy] at h2)<;>(conv=>whnf)
   ·have e1 : IntKind.i64.wrap ((p : Int) + ((n : Int) - 1 - k)) = ((p + (n - 1 - k) : Nat) : Int) := by rw [Qa _ om om]; omega
    have w2 := Qa ((n : Int) - 1 - k - 1) om om
    refine Go0 ?_
    rw [e1]
    refine Go0 ?_
    refine ⟨k + 1, om, om, ?_⟩
    exact QuW
   ·refine Go0 ?_
    have : k = n := by omega
    subst this
    rw [show getS b p k = Qdx b p k k from Qxu h, show getE b p k = 0 from Qxu h]
    exact QuV
theorem Qgz : HB 240 := hB Tryz.func240
def tabC (k : Nat) : List C := (List.range 256).map fun i => .int .u32 (if i < k then tabI i else 0)
theorem WL.same {ρ : Nat → Nat} {n : Nat} : ∀ (cs : List C), (∀ x ∈ cs, x.imm = true) → WL ρ n cs cs
 | [], _ => WL.nil
 | x :: r, h => WL.cons (WC.imm (h x (Qys ..))) (WL.same r fun y hy => h y (Qyi _ hy))
theorem Qnb (k : Nat) : ∀ x ∈ tabC k, x.imm = true := fun x hx => by
 unfold tabC at hx
 obtain ⟨i, -, rfl⟩ := Qyj.1 hx
 rfl
theorem Qv1 {ρ : Nat → Nat} : WO ρ n (.vr (tabC k)) (.vr (tabC k)) := WO.vr (WL.same _ (Qnb k))
theorem QiI {α : Type} : ∀ (l : List α) (k : Nat) (y : α), k < l.length → splice l k [y] = some (l.set k y)
 | [], _, _, h => absurd h (QxN _)
 | _ :: r, 0, y, _ => by
  cases r <;> rfl
 | x :: r, k + 1, y, h => by
  show (match splice r k [y] with | some l => some (x :: l) | none => none) = _
  rw [QiI r k y (by simpa using h)]
  rfl
theorem QsX (hk : k < 256) : splice (tabC k) k [.int .u32 (tabI k)] = some (tabC (k + 1)) := by
 rw [QiI _ _ _ (by simpa [tabC] using hk)]
 congr 1
 refine List.ext_getElem (by simp [tabC]) fun i h1 h2 => ?_
 simp only [tabC, List.getElem_set, Qzd, List.getElem_range]
 by_cases c : k = i
 ·subst c
  simp
 ·rw [Qxu c]
  by_cases d : i < k
  ·rw [Qxt d, Qxt om]
  ·rw [Qxu d, Qxu om]
theorem Qur {a x : Operand} {off : Nat} {cs cs' ys : List C} {H' : List O} {s : S} (ht : Γ.at t = some i) (ha : bare (opnd ts a) = ([], .c (.ptr id off))) (hx : bare (opnd ts x) = ([], s)) (hs : s.cells = some ys)
  (hl : Nat.beq ys.length i.size = true) (hg : getL H id = some (.vr cs)) (hH : setL H id (.vr cs') = some H') (hsp : splice cs off ys = some cs') : eff Γ ts H (.store t a x) = some ([], .u, H') := by
 simp only [eff, ht, ha, hx, hs, hl, Qen, hg, hsp, hH, Qy1]
set_option maxHeartbeats 4000000 in
theorem Qps : PS 292 [] (.a (tabC 256)) := by
 refine PSpec.rm ?_
 refine ov0 hΓ Tryz.func292 26 0 [.cell 0 344] Tryz.ntmps292 Tryz.results292 ?_
 refine QuY hΓ (ι := Nat) [0, 1] (fun k => [(5, .c (.int .i64 k))]) (fun k => [.vr (tabC 0), .vr (tabC k)]) (fun k => k ≤ 256) (fun k => 256 - k) 0 (Qxx _) ?_ ?_
 ·exact Mv.mkW (WH.cons (Qv1 (k := 0)) (WH.cons (Qv1 (k := 0)) WH.nil)) wb0 leN
 ·intro k hk
  refine Go0 ?_
  refine Br.of (fun h1=>Go0 ?_) (fun h1=>Go0 ?_)
  ·have w0 := Qa (↑k + 1) om om
   have w1 : IntKind.u32.wrap (k : Int) = k := by rw [IntKind.wrap_u32]; omega
   refine QuY hΓ (ι := Nat) [0, 1, 2, 5] (fun j => [(10, .c (.int .i64 j)), (3, .c (.int .u32 (QaX QaL j k)))]) (fun _ => [.vr (tabC 0), .vr (tabC k)]) (fun j => j ≤ 8) (fun j => 8 - j) 0 (Qxx _) ?_ ?_
   ·exact Mv.mkW (WH.cons Qv1 (WH.cons Qv1 WH.nil)) (by rw [w1]; exact wb0) leN
   ·intro j hj
    refine Go0 ?_
    have w2 := Qa (↑j + 1) om om
    refine Br.of (fun h2=>Go0 ?_) (fun h2=>Go0 ?_)
    ·refine Br.of (fun h3=>Go0 ?_) (fun h3=>Go0 ?_)
     ·refine ⟨j + 1, om, om, Mv.mkW (WH.cons Qv1 (WH.cons Qv1 WH.nil)) ?_ leN⟩
      rw [w2, show QaX QaL (j + 1) k = xorU (Qho (QaX QaL j k)) 3988292384 from Qxt h3]
      exact wb0
     ·refine ⟨j + 1, om, om, Mv.mkW (WH.cons Qv1 (WH.cons Qv1 WH.nil)) ?_ leN⟩
      rw [w2, show QaX QaL (j + 1) k = Qho (QaX QaL j k) from Qxu h3]
      exact wb0
    ·have : j = 8 := by omega
     subst this
     generalize hE : eff _ _ _ _ = E
     obtain rfl : E = some ([], .u, [.vr (tabC 0), .vr (tabC (k + 1))]) := hE.symm.trans (Qur (cs := tabC k) rfl rfl rfl rfl rfl rfl rfl (by
      rw [show 0 + ((k : Nat) : Int).toNat * 1 = k by omega]
      exact QsX om))
     refine Go0 ?_
     rw [w0]
     refine ⟨k + 1, om, om, Mv.mkW (WH.cons Qv1 (WH.cons Qv1 WH.nil)) wb0 leN⟩
  ·have : k = 256 := by omega
   subst this
   show RM 0 (.a (tabC 256)) _ _ _
   exact Qvj rfl (WS.a (WL.same _ (Qnb 256)))
theorem Qp7 : HB 292 := hB Tryz.func292
theorem QhL (sum : Int) (b : ByteArray) : ∀ k, 0 ≤ Q1 sum b k ∧ Q1 sum b k < 4294967296
 | 0 => Qif _
 | k + 1 => by
  have h := Qif (BitVec.ofInt IntKind.u32.bits (Q1 sum b k) ^^^ BitVec.ofInt IntKind.u32.bits (Qav b k)).toNat
  show 0 ≤ QaX QaL 8 (xorU (Q1 sum b k) (Qav b k)) ∧ QaX QaL 8 (xorU (Q1 sum b k) (Qav b k)) < 4294967296
  have h : 0 ≤ xorU (Q1 sum b k) (Qav b k) ∧ xorU (Q1 sum b k) (Qav b k) < 4294967296 := h
  generalize xorU (Q1 sum b k) (Qav b k) = y at *
  obtain ⟨a, rfl⟩ : ∃ a : Nat, y = a := ⟨y.toNat, om⟩
  have := Qij (n := 8) (x := a) om
  rw [Qhe om]
  omega
theorem Qub {x : Int} (h0 : 0 ≤ x) (hn : n < 256) : IntKind.u8.wrap (BitVec.ofInt IntKind.u8.bits (IntKind.u8.wrap x) ^^^ BitVec.ofInt IntKind.u8.bits (n : Int)).toNat = ((x.toNat % 256 ^^^ n : Nat) : Int) := by
 have hm : x.toNat % 256 ^^^ n < 256 := Nat.xor_lt_two_pow (n := 8) om hn
 have e : (BitVec.ofInt IntKind.u8.bits (IntKind.u8.wrap x) ^^^ BitVec.ofInt IntKind.u8.bits (n : Int)).toNat = x.toNat % 256 ^^^ n := by
  show (BitVec.ofInt 8 (IntKind.u8.wrap x) ^^^ BitVec.ofInt 8 (n : Int)).toNat = _
  rw [BitVec.toNat_xor, QyC, QyC, IntKind.wrap_u8]
  congr 1 <;> omega
 rw [e, IntKind.wrap_u8]
 omega
theorem QsO {m : Nat} (h : m < 256) : getL (tabC 256) m = some (.int .u32 (tabI m)) := by
 rw [Qc]
 simp [tabC, h]
theorem QoT {α : Type} : ∀ (l : List α) (m : Nat) (c : α), getL l m = some c → cut l m 1 = some [c]
 | [], _, _, h => by cases h
 | x :: r, 0, c, h => by
  cases h
  cases r <;> rfl
 | _ :: r, m + 1, c, h => QoT r m c h
theorem Qud {a : Operand} {off : Nat} {cs xs : List C} {s : S} (ht : Γ.at t = some i) (ha : bare (opnd ts a) = ([], .c (.ptr id off))) (hg : getL H id = some (.vr cs)) (hs : mkS i.agg xs = some s) (hc : cut cs off i.size = some xs) : val Γ ts H (.load t a) = some ([], s) := by
 simp only [val, ht, ha, Qb0, hg, hc, hs, Qy1]
set_option maxHeartbeats 4000000 in
theorem Qk8 (sum : Int) (b : ByteArray) (hb : b.size ≤ 10000000) : PS 249 [.c (.int .u32 sum), .c (.str b)] (.c (.int .u32 (addU sum b))) := by
 refine PSpec.rm ?_
 refine ov0 hΓ Tryz.func249 30 0 [.tmp 4] Tryz.ntmps249 Tryz.results249 ?_
 refine QuU Qp7 (Qps ) (Go0 ?_)
 refine QuY hΓ (ι := Nat) [1, 4, 5] (fun k => [(7, .c (.int .i64 k)), (6, .c (.int .u32 (Q1 sum b k)))]) (fun _ => [.vr (tabC 256)]) (fun k => k ≤ b.size) (fun k => b.size - k) 0 (Qxx _) ?_ ?_
 ·exact Mv.mkW (WH.cons (Qv1 (k := 256)) WH.nil) wb0 leN
 ·intro k hk
  refine Go1 fun _h=>?_
  refine Br.of (fun h1=>?_) (fun h1=>?_)<;>(try simp only [Qxy] at h1)<;>(conv=>whnf)
  ·have hr := QhL sum b k
   have hn : (b.data.toList.getD k 0).toNat < 256 := UInt8.toNat_lt _
   have ix := Qub hr.1 hn
   have hm : (Q1 sum b k).toNat % 256 ^^^ (b.data.toList.getD k 0).toNat < 256 := Nat.xor_lt_two_pow (n := 8) om hn
   have w0 := Qa (↑k + 1) om om
   refine Go0 ?_
   rw [Qxy, ix]
   refine Go0 ?_
   generalize hE : val _ _ _ _ = E
   obtain rfl : E = some ([], .c (.int .u32 (tabI (((Q1 sum b k).toNat % 256 ^^^ (b.data.toList.getD k 0).toNat : Nat) : Int)))) := hE.symm.trans (Qud (cs := tabC 256) (xs := [.int .u32 (tabI (((Q1 sum b k).toNat % 256 ^^^ (b.data.toList.getD k 0).toNat : Nat) : Int))]) rfl rfl rfl rfl (by
    rw [show 0 + (((Q1 sum b k).toNat % 256 ^^^ (b.data.toList.getD k 0).toNat : Nat) : Int).toNat * 1 = (Q1 sum b k).toNat % 256 ^^^ (b.data.toList.getD k 0).toNat by omega]
    exact QoT _ _ _ (QsO hm)))
   refine Go0 ?_
   have hby : Qav b k = ((b.data.toList.getD k 0).toNat : Int) := by
    unfold Qav
    rw [IntKind.wrap_u32]; omega
   have hst : Q1 sum b (k + 1) = xorU ((Q1 sum b k).fdiv 256) (tabI (((Q1 sum b k).toNat % 256 ^^^ (b.data.toList.getD k 0).toNat : Nat) : Int)) := by
    rw [Qsn hr.1 hr.2 hn]
    show QaX QaL 8 (xorU (Q1 sum b k) (Qav b k)) = _
    rw [hby]
   rw [w0]
   refine ⟨k + 1, om, om, Mv.mkW (WH.cons Qv1 WH.nil) ?_ leN⟩
   rw [hst]
   exact wb0
  ·refine Go0 ?_
   have : k = b.size := by omega
   subst this
   exact QuV
theorem QkX : HB 249 := hB Tryz.func249
end Go.Proofs
end
