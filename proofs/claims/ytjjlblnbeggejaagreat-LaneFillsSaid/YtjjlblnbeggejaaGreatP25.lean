/- Contracts, lemmas; no condition. -/
import Derived.Test.YtjjlblnbeggejaaGreatP10
import Derived.Test.YtjjlblnbeggejaaGreatP24
import Derived.Test.YtjjlblnbeggejaaGreatA26
import Derived.Test.YtjjlblnbeggejaaGreatP23
import Derived.Test.YtjjlblnbeggejaaGreatP17
set_option linter.all false
section
open Go Go.Am
namespace Go.Proofs
set_option maxRecDepth 20000
set_option maxRecDepth 100000 in
theorem Qc7 (d : Dev) (hd : d.small) (zone : Int) (s : ByteArray) : PS 143 [d.s, .c (.int .i64 zone), .c (.str s)] (Dev.out3 (Qf d zone s) (QA d zone s) (Qj d zone s)) := by
 refine PSpec.rm ?_
 refine ov hΓ Tryz.func143 111 0 [.cell 6 29, .tmp 7, .tmp 8] Tryz.ntmps143 Tryz.results143 ?_
 have bad : ∀ e ts, Qj d zone s = e → e ≠ 0 → RM 0 (.t [.inr d.cells, .inl (.int .i64 0), .inl (.int .i64 e)]) ts (Dev.out3 (Qf d zone s) (QA d zone s) (Qj d zone s)) [] := by
  intro e ts h1 h2
  have h3 : ¬ Qj d zone s = 0 := by rw [h1]; exact h2
  rw [show Qf d zone s = d by simp only [Qf, if_neg h3], show QA d zone s = 0 by simp only [QA, if_neg h3], h1]
  exact RM.imm rfl (wkS.imm rfl)
 conv=>whnf
 refine CallN.pure Qcq (Qcr d ) (leA.refl rfl) rfl (Go0 ?_)
 refine Br.of (fun h1=>Go0 ?_) (fun h1=>Go0 ?_)
 ·exact bad _ _ (by simp only [Qj, if_neg h1]) h1
 ·(first|refine Br.od (fun h2=>?_) (fun h2=>?_)|refine Br.mk (fun h2=>?_) (fun h2=>?_)<;>simp [-List.length_eq_zero_iff,-List.getD_eq_getElem?_getD] at h2)<;>(try simp only [Int.toNat_natCast] at h2)<;>(conv=>whnf)
  ·refine Go0 ?_
   have : decide (0 ≤ zone ∧ zone < d.zones.length) = false := by simp only [decide_eq_false_iff_not]; omega
   exact bad _ _ (by simp only [Qj, if_pos h1, this]; rfl) (by decide)
  ·refine Go1 fun _h=>?_
   have hrange : decide (0 ≤ zone ∧ zone < d.zones.length) = true := by simp only [decide_eq_true_eq]; omega
   have hk : zone.toNat < d.zones.length := by omega
   refine Br.of (fun h3=>Go0 ?_) (fun h3=>Go0 ?_)
   ·exact bad _ _ (by simp only [Qj, if_pos h1, hrange, if_pos]; rw [if_neg (by omega)]) (by decide)
   ·have h40 : s.size = 40 := by omega
    refine Br.of (fun h5=>Go0 ?_) (fun h5=>Go0 ?_)
    ·exact bad _ _ (by simp only [Qj, if_pos h1, hrange, if_pos, if_pos h40, if_pos h5]) (by decide)
    ·refine Br.of (fun h4=>Go0 ?_) (fun h4=>Go0 ?_)
     ·exact bad _ _ (by simp only [Qj, if_pos h1, hrange, if_pos, if_pos h40, if_neg h5, if_pos h4]) (by decide)
     ·refine CallN.pure Qbm (Qbn _ ) (leA.refl rfl) rfl (Go0 ?_)
      have hm : (d.zones.getD zone.toNat default).sectors.length ≤ 10000000 := hd.s _
      have hz := hd.z
      refine Br.of (fun ho=>Go0 ?_) (fun ho=>Go0 ?_)
      ·have hE : Qj d zone s = (Qe d zone.toNat).1 := by
        simp only [Qj, if_pos h1, hrange, if_pos, if_pos h40, if_neg h5, if_neg h4]; rw [ho]; rfl
       have hL : Qal d zone.toNat = (Qe d zone.toNat).2 := by simp only [Qal]; rw [ho]; rfl
       have hlen := QgF d zone.toNat
       have hsec := QdY d zone.toNat zone.toNat
       have hm' : ((Qe d zone.toNat).2.getD zone.toNat default).sectors.length ≤ 10000000 := by rw [hsec]; exact hm
       have hcl := Qg1 d zone.toNat zone.toNat ho
       have hzz : zone = (zone.toNat : Int) := by omega
       refine CallN.pure Qlm (Qle d hd.z zone.toNat hk ho) (leA.cons rfl (wkS.imm rfl) (leA.cons rfl (wkS.c (wkC.int hzz)) leA.nil)) rfl ?_
       by_cases hr0 : (Qe d zone.toNat).1 = 0
       ·have hE0 : Qj d zone s = 0 := by rw [hE, hr0]
        have hI : QA d zone s = ((Qe d zone.toNat).2.getD zone.toNat default).sectors.length := by simp only [QA, if_pos hE0, hsec]
        rw [hr0, show QbU d zone.toNat = { d with zones := (Qe d zone.toNat).2 } by simp only [QbU, if_pos hr0]]
        refine Go0 ?_
        refine Br.no rfl (Go0 ?_)
        have hk' : zone.toNat < (Qe d zone.toNat).2.length := by omega
        have himm : ∀ i, i < 0 + ((Qe d zone.toNat).2.getD zone.toNat default).sectors.length + 1 → ∀ j, j < 1 → (appG (appG (QaE 1 []) 0 (fun i _ => .str (((Qe d zone.toNat).2.getD zone.toNat default).sectors.getD i ByteArray.empty))) (0 + ((Qe d zone.toNat).2.getD zone.toNat default).sectors.length) (QaE 1 [.str s]) i j).imm = true := by
         intro i hi j hj
         have : j = 0 := by omega
         subst this
         rw [Nat.zero_add] at hi ⊢
         rw [Qee _ _ _ _ _ hi]
         rfl
        have hcel : ∀ i, i < 0 + ((Qe d zone.toNat).2.getD zone.toNat default).sectors.length + 1 → ∀ j, j < 1 → leF (appG (appG (QaE 1 []) 0 (fun i _ => .str (((Qe d zone.toNat).2.getD zone.toNat default).sectors.getD i ByteArray.empty))) (0 + ((Qe d zone.toNat).2.getD zone.toNat default).sectors.length) (QaE 1 [.str s]) i j) (.str ((((Qe d zone.toNat).2.getD zone.toNat default).sectors ++ [s]).getD i ByteArray.empty)) := by
         intro i hi j hj
         have : j = 0 := by omega
         subst this
         rw [Nat.zero_add] at hi ⊢
         exact leF.of_eq (Qee _ _ _ _ _ hi)
        refine CallN.pure Qbm (Qbn _ ) (leA.refl rfl) rfl (Go0 ?_)
        refine Br.yes (by rw [hcl]; rfl) (Go0 ?_)
        refine Br.of (fun hs=>Go0 ?_) (fun hs=>Go0 ?_)
        ·try dsimp only at hs
         refine Dr.mkS hΓ hMix [(0,3),(1,3)] (by kernel_rfl) (Go0 ?_)
         refine Dr.mv [(10, .c (.ptr 2 0)), (1, .c (.int .i64 zone)), (13, .c (.ptr 4 0)), (6, .c (.ptr 1 0))] [.vr d.cells, .vr [.int .i64 0, .int .i64 0, .int .i64 0, .nils], .vr ({ d with zones := (Qe d zone.toNat).2 } : Dev).cells, .vr ({ d with zones := (Qe d zone.toNat).2 } : Dev).cells, .vr [.int .i64 4, .int .i64 d.size, Qay (((Qe d zone.toNat).2.getD zone.toNat default).sectors ++ [s])]] ((Mv.fz 5 rfl (Nat.zero_le _) himm).trans (Mv.mk' 5 rfl ⟨O.wk.vr (Qv rfl), O.wk.vr (Qv rfl), O.wk.vr (Qv rfl), O.wk.vr (Qv rfl), O.wk.vr ⟨wkC.imm rfl, wkC.imm rfl, wkC.fz (by simp) (by simp) hcel (fun e => by cases e), trivial⟩, trivial⟩
          ⟨wkS.c (wkC.ptr (by decide)), wkS.imm rfl, wkS.c (wkC.ptr (by decide)), wkS.c (wkC.ptr (by decide)), trivial⟩ (Nat.zero_le _))) ?_
         refine Dr.mkS hΓ hMix [(4,8),(5,8),(6,8),(7,8)] (by kernel_rfl) (Go0 ?_)
         refine CallP.mk QdO (QdR ({ d with zones := (Qe d zone.toNat).2 } : Dev) (show (Qe d zone.toNat).2.length ≤ 10000000 by omega) zone (show 0 ≤ zone ∧ zone < ((Qe d zone.toNat).2.length : Int) by omega) ⟨4, d.size, ((Qe d zone.toNat).2.getD zone.toNat default).sectors ++ [s]⟩ ) (leA.refl rfl) rfl (Go0 ?_)
         have hD : Qf d zone s = { d with zones := (Qe d zone.toNat).2.set zone.toNat ⟨4, d.size, ((Qe d zone.toNat).2.getD zone.toNat default).sectors ++ [s]⟩ } := by
          simp only [Qf, if_pos hE0, hL, grow]
          rw [if_pos (by omega)]
         rw [hD, hI, hE0]
         refine RM.imm rfl (wkS.t ⟨Qv rfl, wkC.int ?_, wkC.imm rfl, trivial⟩)
         simp only [List.length_append, List.length_cons, List.length_nil]
         rw [Qa _ (by omega) (by omega)]; omega
        ·try dsimp only at hs
         refine Dr.mv [(10, .c (.ptr 2 0)), (1, .c (.int .i64 zone)), (13, .c (.ptr 4 0)), (6, .c (.ptr 1 0))] [.vr d.cells, .vr [.int .i64 0, .int .i64 0, .int .i64 0, .nils], .vr ({ d with zones := (Qe d zone.toNat).2 } : Dev).cells, .vr ({ d with zones := (Qe d zone.toNat).2 } : Dev).cells, .vr [.int .i64 1, .int .i64 ((Qe d zone.toNat).2.getD zone.toNat default).durable, Qay (((Qe d zone.toNat).2.getD zone.toNat default).sectors ++ [s])]] ((Mv.fz 5 rfl (Nat.zero_le _) himm).trans (Mv.mk' 5 rfl ⟨O.wk.vr (Qv rfl), O.wk.vr (Qv rfl), O.wk.vr (Qv rfl), O.wk.vr (Qv rfl), O.wk.vr ⟨wkC.imm rfl, wkC.imm rfl, wkC.fz (by simp) (by simp) hcel (fun e => by cases e), trivial⟩, trivial⟩
          ⟨wkS.c (wkC.ptr (by decide)), wkS.imm rfl, wkS.c (wkC.ptr (by decide)), wkS.c (wkC.ptr (by decide)), trivial⟩ (Nat.zero_le _))) ?_
         refine Dr.mkS hΓ hMix [(4,8),(5,8),(6,8),(7,8)] (by kernel_rfl) (Go0 ?_)
         refine CallP.mk QdO (QdR ({ d with zones := (Qe d zone.toNat).2 } : Dev) (show (Qe d zone.toNat).2.length ≤ 10000000 by omega) zone (show 0 ≤ zone ∧ zone < ((Qe d zone.toNat).2.length : Int) by omega) ⟨1, ((Qe d zone.toNat).2.getD zone.toNat default).durable, ((Qe d zone.toNat).2.getD zone.toNat default).sectors ++ [s]⟩ ) (leA.refl rfl) rfl (Go0 ?_)
         have hD : Qf d zone s = { d with zones := (Qe d zone.toNat).2.set zone.toNat ⟨1, ((Qe d zone.toNat).2.getD zone.toNat default).durable, ((Qe d zone.toNat).2.getD zone.toNat default).sectors ++ [s]⟩ } := by
          simp only [Qf, if_pos hE0, hL, grow]
          rw [if_neg (by omega), hcl]; rfl
         rw [hD, hI, hE0]
         refine RM.imm rfl (wkS.t ⟨Qv rfl, wkC.int ?_, wkC.imm rfl, trivial⟩)
         simp only [List.length_append, List.length_cons, List.length_nil]
         rw [Qa _ (by omega) (by omega)]; omega
       ·rw [show QbU d zone.toNat = d by simp only [QbU, if_neg hr0]]
        refine Go0 ?_
        refine Br.of (fun h6=>?_) (fun h6=>?_)<;>(try simp only [Int.toNat_natCast] at h6)<;>(conv=>whnf)
        ·refine Go0 ?_
         try dsimp only at hs
         exact bad _ _ hE hr0
        ·exact absurd h6 hr0
      ·have hE0 : Qj d zone s = 0 := by
        simp only [Qj, if_pos h1, hrange, if_pos, if_pos h40, if_neg h5, if_neg h4]; rw [ho]; rfl
       have hL : Qal d zone.toNat = d.zones := by simp only [Qal]; rw [ho]; rfl
       have hI : QA d zone s = (d.zones.getD zone.toNat default).sectors.length := by simp only [QA, if_pos hE0]
       have hk' : zone.toNat < d.zones.length := by omega
       have himm : ∀ i, i < 0 + (d.zones.getD zone.toNat default).sectors.length + 1 → ∀ j, j < 1 → (appG (appG (QaE 1 []) 0 (fun i _ => .str ((d.zones.getD zone.toNat default).sectors.getD i ByteArray.empty))) (0 + (d.zones.getD zone.toNat default).sectors.length) (QaE 1 [.str s]) i j).imm = true := by
        intro i hi j hj
        have : j = 0 := by omega
        subst this
        rw [Nat.zero_add] at hi ⊢
        rw [Qee _ _ _ _ _ hi]
        rfl
       have hcel : ∀ i, i < 0 + (d.zones.getD zone.toNat default).sectors.length + 1 → ∀ j, j < 1 → leF (appG (appG (QaE 1 []) 0 (fun i _ => .str ((d.zones.getD zone.toNat default).sectors.getD i ByteArray.empty))) (0 + (d.zones.getD zone.toNat default).sectors.length) (QaE 1 [.str s]) i j) (.str (((d.zones.getD zone.toNat default).sectors ++ [s]).getD i ByteArray.empty)) := by
        intro i hi j hj
        have : j = 0 := by omega
        subst this
        rw [Nat.zero_add] at hi ⊢
        exact leF.of_eq (Qee _ _ _ _ _ hi)
       refine CallN.pure Qbm (Qbn _ ) (leA.refl rfl) rfl (Go0 ?_)
       refine Br.no (by rw [ho]; rfl) (Go0 ?_)
       refine Br.of (fun hs=>Go0 ?_) (fun hs=>Go0 ?_)
       ·try dsimp only at hs
        refine Dr.mkS hΓ hMix [(0,3),(1,3)] (by kernel_rfl) (Go0 ?_)
        refine Dr.mv [(10, .c (.ptr 2 0)), (1, .c (.int .i64 zone)), (13, .c (.ptr 3 0)), (6, .c (.ptr 1 0))] [.vr d.cells, .vr [.int .i64 0, .int .i64 0, .int .i64 0, .nils], .vr ({ d with zones := d.zones } : Dev).cells, .vr [.int .i64 4, .int .i64 d.size, Qay ((d.zones.getD zone.toNat default).sectors ++ [s])]] ((Mv.fz 4 rfl (Nat.zero_le _) himm).trans (Mv.mk' 4 rfl ⟨O.wk.vr (Qv rfl), O.wk.vr (Qv rfl), O.wk.vr (Qv rfl), O.wk.vr ⟨wkC.imm rfl, wkC.imm rfl, wkC.fz (by simp) (by simp) hcel (fun e => by cases e), trivial⟩, trivial⟩
         ⟨wkS.c (wkC.ptr (by decide)), wkS.imm rfl, wkS.c (wkC.ptr (by decide)), wkS.c (wkC.ptr (by decide)), trivial⟩ (Nat.zero_le _))) ?_
        refine Dr.mkS hΓ hMix [(4,8),(5,8),(6,8),(7,8)] (by kernel_rfl) (Go0 ?_)
        refine CallP.mk QdO (QdR ({ d with zones := d.zones } : Dev) (show d.zones.length ≤ 10000000 by omega) zone (show 0 ≤ zone ∧ zone < (d.zones.length : Int) by omega) ⟨4, d.size, (d.zones.getD zone.toNat default).sectors ++ [s]⟩ ) (leA.refl rfl) rfl (Go0 ?_)
        have hD : Qf d zone s = { d with zones := d.zones.set zone.toNat ⟨4, d.size, (d.zones.getD zone.toNat default).sectors ++ [s]⟩ } := by
         simp only [Qf, if_pos hE0, hL, grow]
         rw [if_pos (by omega)]
        rw [hD, hI, hE0]
        refine RM.imm rfl (wkS.t ⟨Qv rfl, wkC.int ?_, wkC.imm rfl, trivial⟩)
        simp only [List.length_append, List.length_cons, List.length_nil]
        rw [Qa _ (by omega) (by omega)]; omega
       ·try dsimp only at hs
        refine Dr.mv [(10, .c (.ptr 2 0)), (1, .c (.int .i64 zone)), (13, .c (.ptr 3 0)), (6, .c (.ptr 1 0))] [.vr d.cells, .vr [.int .i64 0, .int .i64 0, .int .i64 0, .nils], .vr ({ d with zones := d.zones } : Dev).cells, .vr [.int .i64 (d.zones.getD zone.toNat default).state, .int .i64 (d.zones.getD zone.toNat default).durable, Qay ((d.zones.getD zone.toNat default).sectors ++ [s])]] ((Mv.fz 4 rfl (Nat.zero_le _) himm).trans (Mv.mk' 4 rfl ⟨O.wk.vr (Qv rfl), O.wk.vr (Qv rfl), O.wk.vr (Qv rfl), O.wk.vr ⟨wkC.imm rfl, wkC.imm rfl, wkC.fz (by simp) (by simp) hcel (fun e => by cases e), trivial⟩, trivial⟩
         ⟨wkS.c (wkC.ptr (by decide)), wkS.imm rfl, wkS.c (wkC.ptr (by decide)), wkS.c (wkC.ptr (by decide)), trivial⟩ (Nat.zero_le _))) ?_
        refine Dr.mkS hΓ hMix [(4,8),(5,8),(6,8),(7,8)] (by kernel_rfl) (Go0 ?_)
        refine CallP.mk QdO (QdR ({ d with zones := d.zones } : Dev) (show d.zones.length ≤ 10000000 by omega) zone (show 0 ≤ zone ∧ zone < (d.zones.length : Int) by omega) ⟨(d.zones.getD zone.toNat default).state, (d.zones.getD zone.toNat default).durable, (d.zones.getD zone.toNat default).sectors ++ [s]⟩ ) (leA.refl rfl) rfl (Go0 ?_)
        have hD : Qf d zone s = { d with zones := d.zones.set zone.toNat ⟨(d.zones.getD zone.toNat default).state, (d.zones.getD zone.toNat default).durable, (d.zones.getD zone.toNat default).sectors ++ [s]⟩ } := by
         simp only [Qf, if_pos hE0, hL, grow]
         rw [if_neg (by omega), ho]; rfl
        rw [hD, hI, hE0]
        refine RM.imm rfl (wkS.t ⟨Qv rfl, wkC.int ?_, wkC.imm rfl, trivial⟩)
        simp only [List.length_append, List.length_cons, List.length_nil]
        rw [Qa _ (by omega) (by omega)]; omega
theorem QcT : HB 143 := hB Tryz.func143
theorem Qlh (d : Dev) (zone off : Int) : PS 99 [d.s, .c (.int .i64 zone), .c (.int .i64 off)] (.t [.inl (.str (Q5 d zone off)), .inl (.int .i64 (QdD d zone off))]) := by
 refine PSpec.rm ?_
 refine ov hΓ Tryz.func99 37 0 [.tmp 6, .tmp 7] Tryz.ntmps99 Tryz.results99 ?_
 conv=>whnf
 refine CallN.pure Qkd (QjY d zone ) (leA.refl rfl) rfl (Go0 ?_)
 refine Br.of (fun h1=>?_) (fun h1=>?_)<;>(try simp only [Int.toNat_natCast] at h1)<;>(conv=>whnf)
 ·refine Go0 ?_
  have h2 : QdD d zone off = QG d zone := by simp only [QdD, if_neg h1]
  have : Q5 d zone off = ByteArray.empty := by simp only [Q5, h2, if_neg h1]
  exact RM.imm rfl (wkS.t ⟨wkC.str (by rw [this]; rfl), wkC.int h2.symm, trivial⟩)
 ·obtain ⟨hok, hz0, hz1⟩ := QcA h1
  have hk : zone.toNat < d.zones.length := by omega
  have hrE : ∀ e : Int, (if decide (0 ≤ off ∧ off < (d.zones.getD zone.toNat default).sectors.length) then 0 else 10) = e → QdD d zone off = e := by
   intro e h; simp only [QdD, if_pos h1]; exact h
  refine Go0 ?_
  (first|refine Br.od (fun h2=>?_) (fun h2=>?_)|refine Br.mk (fun h2=>?_) (fun h2=>?_)<;>simp [-List.length_eq_zero_iff,-List.getD_eq_getElem?_getD] at h2)<;>(try simp only [Int.toNat_natCast] at h2)<;>(conv=>whnf)
  ·refine Go0 ?_
   have : decide (0 ≤ off ∧ off < (d.zones.getD zone.toNat default).sectors.length) = false := by simp only [decide_eq_false_iff_not]; omega
   have h10 := hrE 10 (by rw [this]; rfl)
   exact RM.imm rfl (wkS.t ⟨wkC.str (by simp only [Q5, h10]; rfl), wkC.int h10.symm, trivial⟩)
  ·refine Go0 ?_
   have : decide (0 ≤ off ∧ off < (d.zones.getD zone.toNat default).sectors.length) = true := by simp only [decide_eq_true_eq]; omega
   have h0 := hrE 0 (by rw [this]; rfl)
   exact RM.imm rfl (wkS.t ⟨wkC.str (by simp only [Q5, h0]; rfl), wkC.int h0.symm, trivial⟩)
theorem Qlt : HB 99 := hB Tryz.func99
theorem QpF (n : Int) : PS 115 [.c (.int .i64 n)] (.c (.str (Qi0 n))) := by
 refine PSpec.rm ?_
 refine ov0 hΓ Tryz.func115 30 0 [.tmp 2] Tryz.ntmps115 Tryz.results115 ?_
 refine Lp.mkK hΓ (ι := Nat) [0] (fun k => [(4, .c (.int .i64 k)), (3, .c (.sl 0 1 16 16 true))]) (fun k => [.arr 5 1 16 (genG (fun i => if i < k then Qr7 n i else 0))]) (fun k => k ≤ 16) (fun k => 16 - k) 0 (Nat.zero_le _) ?_ ?_
 ·refine Mv.k1 ?_
  intro i hi j hj
  have hj' : j < 1 := hj
  have : j = 0 := by omega
  subst this
  exact WC.eq (by simp [Qbx, QN, lget, getL, genG, Z.toC]) rfl
 ·intro k hk
  refine Go0 ?_
  refine Br.of (fun h1=>Go0 ?_) (fun h1=>Go0 ?_)
  ·refine CallN.pureA Qia (Qh2 _ _ ) (Go0 ?_)
   refine ⟨k + 1, by omega, by omega, ?_⟩
   refine Mv.k1 ?_
   intro i hi j hj
   refine WC.eq ((Qmt i j hj).trans ?_) rfl
   simp only [genG, Int.toNat_natCast]
   congr 1
   by_cases c : i = k
   ·subst c
    rw [if_pos rfl, if_pos (by omega)]; rfl
   ·rw [if_neg c]
    by_cases c2 : i < k
    ·rw [if_pos c2, if_pos (by omega)]
    ·rw [if_neg c2, if_neg (by omega)]
  ·have : k = 16 := by omega
   subst this
   refine CallN.pureA Qia (Qh2 _ _ ) (Go0 ?_)
   refine Need.mk (fun i hi => ⟨_, Qmt i 0 (by decide)⟩) (Go0 ?_)
   exact RM.i0
theorem Qpb : HB 115 := hB Tryz.func115
theorem Qfb (d : DiceM) (hd : d.ok) (blocks version : Int) : CS 35 [.c (.ptr 0 0), .c (.int .i64 blocks), .c (.int .i64 version)] [.vr d.cells] fun s H => s = (recR d blocks version).s ∧ H = [.vr (recD d).cells] := by
 refine CSpec.rm ?_
 refine ov0 hΓ Tryz.func35 22 1 [.cell 6 109] Tryz.ntmps35 Tryz.results35 ?_
 refine CallN.autoQ [0] QK (QJ d hd blocks) (Go0 ?_)
 refine CallN.autoQ [0] QK (QJ d.step hd.step 200) (Go0 ?_)
 refine CallN.pure Qpb (QpF _ ) (leA.refl rfl) rfl (Go0 ?_)
 refine CallN.autoQ [0] QK (QJ d.step.step hd.step.step 4) (Go0 ?_)
 refine Br.of (fun h=>Go0 ?_) (fun h=>Go0 ?_)
 ·refine ⟨_, _, RM.wkW (H' := [.vr (recD d).cells]) (s' := (recR d blocks version).s) ?_ ?_ (Nat.le_refl _), rfl, rfl⟩
  ·exact wb0
  ·rw [show recR d blocks version = ⟨2, d.next blocks, version, 0, ByteArray.empty⟩ from if_pos h]
   exact wb0
 ·refine ⟨_, _, RM.wkW (H' := [.vr (recD d).cells]) (s' := (recR d blocks version).s) ?_ ?_ (Nat.le_refl _), rfl, rfl⟩
  ·exact wb0
  ·rw [show recR d blocks version = ⟨1, d.next blocks, version, 0, Qi0 (d.step.next 200)⟩ from if_neg h]
   exact wb0
theorem Qfk : HB 35 := hB Tryz.func35
def _root_.Go.Am.Rec.cells (r : Rec) : List C := [.int .i64 r.kind, .int .i64 r.block, .int .i64 r.version, .int .i64 r.move, .str r.payload]
theorem QqE {b : ByteArray} {p n k : Nat} : Qdx b p n (k + 1) = orW (shW (Qdx b p n k)) (Qa8 b (p + (n - 1 - k))) := rfl
set_option maxHeartbeats 1000000 in
theorem Qq3 (b : ByteArray) (p n : Nat) (h1 : 1 ≤ n) (h7 : n ≤ 7) (hp : p ≤ 1000) (hb : b.size ≤ 10000000) : PS 291 [.c (.str b), .c (.int .i64 p), .c (.int .i64 n)] (.t [.inl (.int .i64 (getS b p n)), .inl (.int .i64 (getE b p n))]) := by
 refine PSpec.rm ?_
 refine ov0 hΓ Tryz.func291 48 0 [.tmp 6, .tmp 7] Tryz.ntmps291 Tryz.results291 ?_
 refine Br.no (by simp; omega) (Go1 fun _h=>?_)
 have w0 := Qa ((b.size : Int) - p) (by omega) (by omega)
 by_cases h : b.size < p + n
 ·refine Br.yes (by rw [w0]; simp; omega) (Go0 ?_)
  rw [show getS b p n = 0 from if_pos h, show getE b p n = 2 from if_pos h]
  exact RM.i0
 ·refine Br.no (by rw [w0]; simp; omega) (Go0 ?_)
  have w1 := Qa ((n : Int) - 1) (by omega) (by omega)
  refine Lp.mkK hΓ (ι := Nat) [0, 1, 6, 7] (fun k => [(9, .c (.int .i64 ((n : Int) - 1 - k))), (8, .c (.int .i64 (Qdx b p n k)))]) (fun k => []) (fun k => k ≤ n) (fun k => n - k) 0 (Nat.zero_le _) ?_ ?_
  ·exact Mv.k0
  ·intro k hk
   refine Go0 ?_
   refine Br.of (fun h2=>?_) (fun h2=>?_)<;>(try simp only [Int.toNat_natCast] at h2)<;>(conv=>whnf)
   ·have e1 : IntKind.i64.wrap ((p : Int) + ((n : Int) - 1 - k)) = ((p + (n - 1 - k) : Nat) : Int) := by rw [Qa _ (by omega) (by omega)]; omega
    have w2 := Qa ((n : Int) - 1 - k - 1) (by omega) (by omega)
    refine Go0 ?_
    rw [e1]
    refine Go0 ?_
    refine ⟨k + 1, by omega, by omega, ?_⟩
    exact Mv.k0
   ·refine Go0 ?_
    have : k = n := by omega
    subst this
    rw [show getS b p k = Qdx b p k k from if_neg h, show getE b p k = 0 from if_neg h]
    exact RM.i0
theorem QrU : HB 291 := hB Tryz.func291
theorem Qdj (b : ByteArray) (p n : Nat) (h1 : 1 ≤ n) (h7 : n ≤ 7) (hp : p ≤ 1000) (hb : b.size ≤ 10000000) : PS 246 [.c (.str b), .c (.int .i64 p), .c (.int .i64 n)] (.c (.int .i64 (getS b p n))) := by
 refine PSpec.rm ?_
 refine ov0 hΓ Tryz.func246 17 0 [.tmp 6] Tryz.ntmps246 Tryz.results246 ?_
 refine CallN.pureA QrU (Qq3 b p n h1 h7 hp hb ) (Go0 ?_)
 exact RM.i0
theorem Qdm : HB 246 := hB Tryz.func246
theorem Qoo (b : ByteArray) (k : Nat) : 0 ≤ Qa8 b k ∧ Qa8 b k < 256 := by
 have h : (b.data.toList.getD k 0).toNat < 256 := UInt8.toNat_lt _
 unfold Qa8
 rw [Qa _ (by omega) (by omega)]
 omega
theorem QsH {y : Int} (h : 0 ≤ y ∧ y < 256) : orW (shW 0) y = y := by
 obtain ⟨n, rfl⟩ := Int.eq_ofNat_of_zero_le h.1
 have e0 : shW 0 = 0 := by decide
 rw [e0]
 unfold orW
 have e1 : (BitVec.ofInt IntKind.i64.bits 0 ||| BitVec.ofInt IntKind.i64.bits (n : Int)).toNat = n := by
  show (BitVec.ofInt 64 0 ||| BitVec.ofInt 64 (n : Int)).toNat = n
  rw [show BitVec.ofInt 64 0 = 0#64 from rfl, BitVec.zero_or]
  rw [BitVec.toNat_ofInt]
  omega
 rw [e1]
 exact Qa _ (by omega) (by omega)
theorem Quw (s : ByteArray) (p : Nat) : 0 ≤ getS s p 1 ∧ getS s p 1 < 256 := by
 unfold getS
 split
 ·omega
 ·show 0 ≤ orW (shW 0) (Qa8 s (p + (1 - 1 - 0))) ∧ _
  have := Qoo s (p + (1 - 1 - 0))
  rw [QqE]
  show 0 ≤ orW (shW 0) (Qa8 s (p + (1 - 1 - 0))) ∧ orW (shW 0) (Qa8 s (p + (1 - 1 - 0))) < 256
  rw [QsH this]
  exact this
set_option maxHeartbeats 4000000 in
theorem QgZ (s : ByteArray) : PS 183 [.c (.str s)] (.t [.inr (decR s).cells, .inl (.int .i64 (decE s))]) := by
 refine PSpec.rm ?_
 refine ov hΓ Tryz.func183 48 0 [.cell 2 109, .tmp 3] Tryz.ntmps183 Tryz.results183 ?_
 refine Go1 fun _h=>?_
 by_cases h0 : s.size = 40
 ·refine Br.no (by simp [h0]) (Go0 ?_)
  have hb : s.size ≤ 10000000 := by omega
  refine Dr.mk hΓ hMix (by kernel_rfl) (Go0 ?_)
  refine CallP.auto Qdm (Qdj s 36 4 (by decide) (by decide) (by decide) hb ) (Go0 ?_)
  refine CallP.auto Qh0 (Qh9 (s.extract 0 36) (by rw [ByteArray.size_extract]; omega) ) (Go0 ?_)
  have hz : s.size = 40 → (s.extract 0 36).size = 36 := fun h => by rw [ByteArray.size_extract]; omega
  by_cases h1 : getS s 36 4 = sumW (s.extract 0 36)
  ·refine Br.no (by rw [h1]; exact bne_self_eq_false _) (Go0 ?_)
   refine CallN.pureA Qdm (Qdj s 2 1 (by decide) (by decide) (by decide) hb ) (Go0 ?_)
   refine CallN.pureA Qdm (Qdj s 4 4 (by decide) (by decide) (by decide) hb ) (Go0 ?_)
   refine CallN.pureA Qdm (Qdj s 8 6 (by decide) (by decide) (by decide) hb ) (Go0 ?_)
   refine CallN.pureA Qdm (Qdj s 14 1 (by decide) (by decide) (by decide) hb ) (Go0 ?_)
   refine CallN.pureA Qdm (Qdj s 3 1 (by decide) (by decide) (by decide) hb ) (Go0 ?_)
   have g3 := Quw s 3
   have w3 : IntKind.i64.wrap (16 + min (getS s 3 1) 20) = 16 + min (getS s 3 1) 20 := Qa _ (by omega) (by omega)
   rw [w3]
   refine Go0 ?_
   refine CallN.pureA QhD (QhM (rawR s) ) (Go0 ?_)
   by_cases h2 : Qm (rawR s) = 0 ∧ encR (rawR s) = s
   ·refine Br.no (by rw [h2.1, h2.2]; simp) (Go0 ?_)
    have e : decE s = 0 := by unfold decE; rw [if_pos h0, if_pos h1, if_pos h2]
    rw [show decR s = rawR s from if_pos e, e]
    exact RM.i0
   ·refine Br.yes (by
     refine Decidable.byContradiction fun z => h2 ?_
     simp at z
     exact z) ?_
    refine Go0 ?_
    have e : decE s = 3 := by unfold decE; rw [if_pos h0, if_pos h1, if_neg h2]
    rw [show decR s = default from if_neg (by rw [e]; decide), e]
    exact RM.i0
  ·refine Br.yes (bne_iff_ne.2 h1) (Go0 ?_)
   have e : decE s = 4 := by unfold decE; rw [if_pos h0, if_neg h1]
   rw [show decR s = default from if_neg (by rw [e]; decide), e]
   exact RM.i0
 ·refine Br.yes (by simp; omega) (Go0 ?_)
  have e : decE s = 2 := if_neg h0
  rw [show decR s = default from if_neg (by rw [e]; decide), e]
  exact RM.i0
theorem QgV : HB 183 := hB Tryz.func183
theorem QpE (r : Rec) : PS 202 [.a r.cells] (.t [.inr (QbV r).1.cells, .inl (.bool (QbV r).2)]) := by
 refine PSpec.rm ?_
 refine ov0 hΓ Tryz.func202 24 0 [.cell 2 109, .tmp 3] Tryz.ntmps202 Tryz.results202 ?_
 refine CallN.pureA QhB (QhU r ) (Go0 ?_)
 by_cases h : Qm r = 0 ∧ QbB r = true
 ·have hk : r.kind = 1 ∨ r.kind = 2 := of_decide_eq_true h.2
  have hm := (QaY h.1).2.1
  have w := Qa (r.move + 1) (by omega) (by omega)
  refine Br.no (by rw [h.1]; simp; omega) (Go0 ?_)
  rw [show QbV r = ({ r with move := min (r.move + 1) 255 }, true) from if_pos h]
  exact RM.i0
 ·have hk : Qm r = 0 → ¬ (r.kind = 1 ∨ r.kind = 2) := fun a b => h ⟨a, decide_eq_true b⟩
  refine Br.yes (by
   refine Decidable.byContradiction fun z => ?_
   simp at z
   have := hk z.1
   omega) ?_
  refine Go0 ?_
  rw [show QbV r = (default, false) from if_neg h]
  exact RM.i0
theorem QpP : HB 202 := hB Tryz.func202
theorem Qod (s : ByteArray) : PS 100 [.c (.str s)] (.t [.inr (QaA s).1.cells, .inl (.bool (QaA s).2)]) := by
 refine PSpec.rm ?_
 refine ov0 hΓ Tryz.func100 25 0 [.cell 2 109, .tmp 3] Tryz.ntmps100 Tryz.results100 ?_
 refine CallN.pureA QgV (QgZ s ) (Go0 ?_)
 by_cases h : decE s = 0 ∧ QbB (decR s) = true
 ·have hk : (decR s).kind = 1 ∨ (decR s).kind = 2 := of_decide_eq_true h.2
  refine Br.no (by rw [h.1]; simp; omega) (Go0 ?_)
  rw [show QaA s = (decR s, true) from if_pos h]
  exact RM.i0
 ·have hk : decE s = 0 → ¬ ((decR s).kind = 1 ∨ (decR s).kind = 2) := fun a b => h ⟨a, decide_eq_true b⟩
  refine Br.yes (by
   refine Decidable.byContradiction fun z => ?_
   simp at z
   have := hk z.1
   omega) ?_
  refine Go0 ?_
  rw [show QaA s = (default, false) from if_neg h]
  exact RM.i0
theorem Qnu : HB 100 := hB Tryz.func100
theorem Qkw {s : ByteArray} (h : decE s = 0) : s.size = 40 := by
 unfold decE at h
 by_cases q : s.size = 40
 ·exact q
 ·rw [if_neg q] at h; cases h
theorem QcG (l : List ByteArray) : ∀ k, (∀ i, i < k → decE (l.getD i ByteArray.empty) = 0) → 0 ≤ QaN l k ∧ QaN l k ≤ 1099511627776 ∧ 0 ≤ Qbi l k ∧ Qbi l k ≤ 1099511627776
 | 0, _ => by simp [QaN, Qbi]
 | k + 1, h => by
  have h1 := QcG l k fun i hi => h i (by omega)
  have h2 := h k (by omega)
  have h3 : Qm (decR (l.getD k ByteArray.empty)) = 0 := by
   rw [show decR (l.getD k ByteArray.empty) = rawR (l.getD k ByteArray.empty) from if_pos h2]
   unfold decE at h2
   split at h2
   ·split at h2
    ·split at h2
     ·rename_i q; exact q.1
     ·cases h2
    ·cases h2
   ·cases h2
  have h4 := (QaY h3).2.1
  simp only [QaN, Qbi]
  omega
theorem QcY (l : List ByteArray) : ∀ k, (∀ i, i < k → decE (l.getD i ByteArray.empty) = 0) → (Q8 l k).size = 36 * k
 | 0, _ => rfl
 | k + 1, h => by
  have h1 := QcY l k fun i hi => h i (by omega)
  have h2 := Qkw (h k (by omega))
  simp only [Q8]
  rw [ByteArray.size_append, h1, ByteArray.size_extract]
  omega
theorem Qcj {l : List ByteArray} : ∀ {k}, QY l k = 0 → ∀ i, i < k → blkE (l.getD i ByteArray.empty) = 0
 | 0, _ => fun i hi => absurd hi (Nat.not_lt_zero _)
 | k + 1, h => by
  simp only [QY] at h
  split at h
  ·rename_i h1
   exact Q0 (Qcj h1) h
  ·rename_i h1; exact absurd h h1
theorem Qhc {l : List ByteArray} {k : Nat} (h : QY l k ≠ 0) : ∀ d, QY l (k + d) = QY l k
 | 0 => rfl
 | d + 1 => by
  have h1 := Qhc h d
  show QY l ((k + d) + 1) = _
  simp only [QY]
  rw [h1, if_neg h]
theorem Qgl {l : List ByteArray} {k : Nat} (hk : k < l.length) (h0 : l.length ≠ 0 ∧ l.length ≤ 64) (h1 : QY l k = 0) (h2 : blkE (l.getD k ByteArray.empty) ≠ 0) : QaF l = blkE (l.getD k ByteArray.empty) ∧ QU l = default := by
 have e : QY l (k + 1) = blkE (l.getD k ByteArray.empty) := if_pos h1
 have e2 := Qhc (l := l) (k := k + 1) (by rw [e]; exact h2) (l.length - (k + 1))
 rw [show k + 1 + (l.length - (k + 1)) = l.length by omega, e] at e2
 have e3 : QaF l = blkE (l.getD k ByteArray.empty) := by unfold QaF; rw [if_neg (by omega), e2]
 exact ⟨e3, if_neg (by rw [e3]; exact h2)⟩
set_option maxHeartbeats 4000000 in
theorem QiH (l : List ByteArray) : PS 110 [.c (Qay l)] (.t [.inr (QU l).cells, .inl (.int .i64 (QaF l))]) := by
 refine PSpec.rm ?_
 refine ov hΓ Tryz.func110 84 0 [.cell 2 109, .tmp 3] Tryz.ntmps110 Tryz.results110 ?_
 refine Go1 fun _h=>?_
 by_cases h0 : l.length = 0 ∨ 64 < l.length
 ·refine Br.yes (by simp [-List.length_eq_zero_iff, -List.getD_eq_getElem?_getD]; omega) ?_
  refine Go0 ?_
  have e : QaF l = 19 := if_pos h0
  rw [show QU l = default from if_neg (by rw [e]; decide), e]
  exact RM.i0
 ·refine Br.no (by simp [-List.length_eq_zero_iff, -List.getD_eq_getElem?_getD]; omega) ?_
  refine Go0 ?_
  refine Lp.mkK hΓ (ι := Nat) [0, 2] (fun k => [(7, .c (.int .i64 k)), (4, .c (.int .i64 (QaN l k))), (5, .c (.int .i64 (Qbi l k))), (6, .c (.str (Q8 l k)))]) (fun k => [.vr (default : Rec).cells]) (fun k => k ≤ l.length ∧ QY l k = 0) (fun k => l.length - k) 0 ⟨Nat.zero_le _, rfl⟩ ?_ ?_
  ·exact Mv.k0
  ·rintro k ⟨hk, hk2⟩
   refine Go1 fun _h=>?_
   refine Br.of (fun h1=>Go0 ?_) (fun h1=>Go0 ?_)
   ·have hf := Qcj hk2
    have hd : ∀ i, i < k → decE (l.getD i ByteArray.empty) = 0 := fun i hi => by
     have := hf i hi
     unfold blkE at this
     by_cases q : decE (l.getD i ByteArray.empty) = 0
     ·exact q
     ·rw [if_neg q] at this; exact this
    have hb := QcY l k hd
    have w0 := Qa (↑k + 1) (by omega) (by omega)
    refine CallN.pureA QgV (QgZ (l.getD k ByteArray.empty) ) (Go0 ?_)
    by_cases h2 : decE (l.getD k ByteArray.empty) = 0
    ·refine Br.no (by rw [h2]; rfl) (Go0 ?_)
     have hz := Qkw h2
     by_cases h3 : QbB (decR (l.getD k ByteArray.empty)) = true
     ·have hk3 : (decR (l.getD k ByteArray.empty)).kind = 1 ∨ (decR (l.getD k ByteArray.empty)).kind = 2 := of_decide_eq_true h3
      refine Br.no (by simp [-List.length_eq_zero_iff, -List.getD_eq_getElem?_getD]; omega) ?_
      refine Go0 ?_
      refine Dr.mk hΓ hMix (by kernel_rfl) (Go0 ?_)
      have e : blkE (l.getD k ByteArray.empty) = 0 := by unfold blkE; rw [if_pos h2, if_pos h3]
      refine ⟨k + 1, ⟨by omega, (if_pos hk2).trans e⟩, by omega, ?_⟩
      exact Mv.k0
     ·have hk3 : ¬ ((decR (l.getD k ByteArray.empty)).kind = 1 ∨ (decR (l.getD k ByteArray.empty)).kind = 2) := fun z => h3 (decide_eq_true z)
      have e : blkE (l.getD k ByteArray.empty) = 3 := by unfold blkE; rw [if_pos h2, if_neg h3]
      obtain ⟨e1, e2⟩ := Qgl (by omega) (by omega) hk2 (by rw [e]; decide)
      refine Br.yes (by simp [-List.length_eq_zero_iff, -List.getD_eq_getElem?_getD]; omega) ?_
      refine Go0 ?_
      rw [e2, e1, e]
      exact RM.i0
    ·have e : blkE (l.getD k ByteArray.empty) = decE (l.getD k ByteArray.empty) := by unfold blkE; rw [if_neg h2]
     obtain ⟨e1, e2⟩ := Qgl (by omega) (by omega) hk2 (by rw [e]; exact h2)
     refine Br.yes (by simpa using h2) (Go0 ?_)
     rw [e2, e1, e]
     exact RM.i0
   ·have : k = l.length := by omega
    subst this
    have hf := Qcj hk2
    have hd : ∀ i, i < l.length → decE (l.getD i ByteArray.empty) = 0 := fun i hi => by
     have := hf i hi
     unfold blkE at this
     by_cases q : decE (l.getD i ByteArray.empty) = 0
     ·exact q
     ·rw [if_neg q] at this; exact this
    have hb := QcY l l.length hd
    have hr := QcG l l.length hd
    refine CallN.pureA Qkn (QkW (QaN l l.length) (by omega) ) (Go0 ?_)
    refine CallN.pureA Qh0 (Qh9 (Q8 l l.length) (by omega) ) (Go0 ?_)
    have hs := Qfq 0 (Q8 l l.length)
    have hw : IntKind.i64.wrap (addU 0 (Q8 l l.length)) = addU 0 (Q8 l l.length) := Qa _ (by omega) (by omega)
    refine CallN.pureA Qkv (QkB (sumW (Q8 l l.length)) (by unfold sumW; rw [hw]; exact hs) ) (Go1 fun _h=>?_)
    have e : QaF l = 0 := by unfold QaF; rw [if_neg h0, hk2]
    have hp1 := QI (QaN l l.length) 6
    have hp2 := QI (sumW (Q8 l l.length)) 4
    refine Go0 ?_
    rw [show QU l = ⟨3, l.length, Qbi l l.length, 0, putS (QaN l l.length) 6 ++ putS (sumW (Q8 l l.length)) 4⟩ from if_pos e, e]
    exact RM.i0
theorem QiF : HB 110 := hB Tryz.func110
end Go.Proofs
end

section
open Go Go.Am
namespace Go.Proofs
set_option maxRecDepth 20000
structure Grows (d d' : Dev) : Prop where
 len : d'.zones.length = d.zones.length
 secs : ∀ i : Nat, ∃ t, (d'.zones.getD i default).sectors = (d.zones.getD i default).sectors ++ t
theorem QeZ (d : Dev) (z : Int) (s : ByteArray) : Grows d (Qf d z s) := by
 refine ⟨Qa7 d z s, fun k => ?_⟩
 unfold Qf
 by_cases h : Qj d z s = 0
 ·rw [if_pos h]
  have hz := (QcA (QgW h).1).2
  have hl := Qkq d z.toNat
  have hg := Qkj d z.toNat
  dsimp only
  rw [QbA (by omega)]
  by_cases c : k = z.toNat
  ·rw [if_pos c, QdT, hg]; subst c; exact ⟨_, rfl⟩
  ·rw [if_neg c, hg]; exact ⟨[], (List.append_nil _).symm⟩
 ·rw [if_neg h]; exact ⟨[], (List.append_nil _).symm⟩
def Held (d : Dev) (e : Ent) : Prop := e.kind = 1 → ∃ r, Qm r = 0 ∧ r.kind = 1 ∧ r.block = e.block ∧ r.version = e.version ∧ (0 ≤ e.zone ∧ e.zone < d.zones.length) ∧ (0 ≤ e.offset ∧ e.offset < (zAt d e.zone).sectors.length) ∧ (zAt d e.zone).sectors.getD e.offset.toNat ByteArray.empty = encR r
theorem Held.grows {d d' : Dev} {e : Ent} (h : Held d e) (g : Grows d d') : Held d' e := fun hk => by
 obtain ⟨r, h1, h2, h3, h4, h5, h6, h7⟩ := h hk
 obtain ⟨t, ht⟩ := g.secs e.zone.toNat
 refine ⟨r, h1, h2, h3, h4, by rw [g.len]; exact h5, ?_, ?_⟩
 ·unfold zAt at h6 ⊢
  rw [ht, List.length_append]; omega
 ·unfold zAt at h6 h7 ⊢
  have hlt : e.offset.toNat < (d.zones.getD e.zone.toNat default).sectors.length := by omega
  rw [ht, ← h7]
  simp only [List.getD] at hlt ⊢
  rw [List.getElem?_append_left hlt]
theorem Held.sync {d : Dev} {e : Ent} (hd : d.ok) (h : Held d e) : Held (Qbo d) e := h.grows (by
 unfold Qbo
 rw [if_pos (check_ok.2 hd)]
 exact ⟨by simp, fun i => ⟨[], by rw [List.append_nil]; dsimp only; rw [Qms]; rfl⟩⟩)
def AllH (p : Ent → Prop) (m : List (List Ent)) : Prop := ∀ l ∈ m, ∀ e ∈ l, p e
theorem AllH.get {p : Ent → Prop} {m : List (List Ent)} (h : AllH p m) (i : Nat) : ∀ e ∈ m.getD i default, p e := by
 by_cases c : i < m.length
 ·rw [Qu _ _ c]; exact h _ (List.getElem_mem c)
 ·rw [show m.getD i default = [] by simp [List.getD, Nat.le_of_not_lt c]; rfl]
  exact fun e he => by cases he
theorem AllH.set {p : Ent → Prop} {m : List (List Ent)} (h : AllH p m) (i : Nat) {l : List Ent} (hl : ∀ e ∈ l, p e) : AllH p (m.set i l) := fun l' hl' => by
 rcases List.mem_or_eq_of_mem_set hl' with q | q
 ·exact h l' q
 ·rw [q]; exact hl
theorem AllH.mono {p q : Ent → Prop} {m : List (List Ent)} (h : AllH p m) (hq : ∀ e, p e → q e) : AllH q m := fun l hl e he => hq e (h l hl e he)
theorem AllH.inst {p : Ent → Prop} {m : List (List Ent)} (h : AllH p m) {x : Ent} (hx : p x) : AllH p (Qax m x).1 := by
 unfold Qax
 split
 ·split
  ·refine h.set _ fun e he => ?_
   unfold QaP at he
   split at he
   ·split at he
    ·split at he
     ·exact h.get _ e he
     ·rcases Qf2 he with q | q
      ·rw [q]; exact hx
      ·exact h.get _ e q
    ·exact h.get _ e he
   ·cases he
  ·exact h
 ·exact h
theorem AllH.find {p : Ent → Prop} {m : List (List Ent)} (h : AllH p m) {b : Int} (hf : (QfX m b).2 = true) : p (QfX m b).1 ∧ (QfX m b).1.block = b := by
 unfold QfX at hf ⊢
 split at hf
 ·rename_i q
  rw [if_pos q]
  unfold QO at hf ⊢
  split at hf
  ·rename_i w
   rw [if_pos w]
   have hh := w.2
   unfold hasM at hh
   rw [decide_eq_true_eq] at hh
   exact ⟨h.get (QE m b) _ (by rw [Qu _ _ hh.1]; exact List.getElem_mem hh.1), hh.2⟩
  ·cases hf
 ·cases hf
theorem AllH.rel {p : Ent → Prop} {m : List (List Ent)} (h : AllH p m) {b v fz fo tz t2 move : Int} (hp : ∀ e, p e → e.zone = fz → e.offset = fo → p { e with zone := tz, offset := t2, move := move }) : AllH p (relM m b v fz fo tz t2 move).1 := by
 unfold relM
 split
 ·split
  ·rename_i q w
   refine h.set _ fun e he => ?_
   unfold relE at he w
   split at he
   ·rename_i z
    rw [if_pos z] at w
    split at he
    ·rename_i y
     rcases List.mem_or_eq_of_mem_set he with u | u
     ·exact h.get _ e u
     ·rw [u]
      have hf : (QfX m b).2 = true := by unfold QfX; rw [if_pos q]; exact y.1
      have := (h.find hf).1
      unfold QfX at this
      rw [if_pos q] at this
      exact hp _ this y.2.2.1 y.2.2.2.1
    ·exact h.get _ e he
   ·cases he
  ·exact h
 ·exact h
structure Lk (s : St) (ks : List Int) : Prop where
 dev : DevQ s.dev ks
 free : ∀ z ∈ s.free, (zAt s.dev z).state = 0
 ents : AllH (Held s.dev) s.map
 pend : ∀ i, s.pend.getD i default = 0
 pins : ∀ i, i < s.pins.length → s.pins.getD i default = -1
abbrev Lq (s : St) : Prop := Lk s [s.host, s.lane]
variable {s : St} {ks : List Int} {z : Int}
theorem QnZ (s : St) (e : Ent) : (s.install e).dev = s.dev ∧ (s.install e).free = s.free ∧ (s.install e).pend = s.pend ∧ (s.install e).pins = s.pins ∧ (s.install e).host = s.host ∧ (s.install e).lane = s.lane ∧ ((s.install e).map = s.map ∨ (s.install e).map = (Qax s.map e).1) := by
 unfold St.install
 split
 ·exact ⟨rfl, rfl, rfl, rfl, rfl, rfl, .inr rfl⟩
 ·exact ⟨rfl, rfl, rfl, rfl, rfl, rfl, .inl rfl⟩
theorem QcR {d : Dev} {z y : Int} {x : Zone} (h0 : 0 ≤ z) (h1 : z < d.zones.length) : zAt { d with zones := d.zones.set z.toNat x } y = if y.toNat = z.toNat then x else zAt d y := by
 unfold zAt
 dsimp only
 rw [QbA (by omega)]
structure Wz (s : St) (ks : List Int) (z : Int) (k : Nat) : Prop where
 mem : z ∈ ks
 ge : 0 ≤ z
 lt : z < s.dev.zones.length
 nfree : z ∉ s.free
 len : (zAt s.dev z).sectors.length = k
 st : (zAt s.dev z).state ≠ 4
theorem Lk.app (h : Lk s ks) (hk : ks.length ≤ 3) {k : Nat} (w : Wz s ks z k) (hn : ∀ y ∈ s.free, 0 ≤ y) {x : ByteArray} (hx : x.size = 40) (hb : (k : Int) + 1 = s.dev.size ∨ blkE x = 0) :
  Qj s.dev z x = 0 ∧ QA s.dev z x = k ∧ (k : Int) < s.dev.size ∧ DevQ (Qf s.dev z x) ks ∧ (∀ y ∈ s.free, (zAt (Qf s.dev z x) y).state = 0) ∧ (zAt (Qf s.dev z x) z).sectors = (zAt s.dev z).sectors ++ [x] ∧ (zAt (Qf s.dev z x) z).state = (if (k : Int) + 1 = s.dev.size then 4 else 1) ∧ (Qf s.dev z x).size = s.dev.size := by
 obtain ⟨e1, e2, e3, e4⟩ := h.dev.app hk w.mem w.ge w.lt w.st hx
 have h2 := h.dev.app2 hk w.mem w.ge w.lt w.st hx (by rw [w.len]; exact hb)
 have hst : (zAt s.dev z).state = 0 ∨ (zAt s.dev z).state = 1 := by
  rcases h.dev.st z.toNat (by have := w.lt; have := w.ge; omega) with q | q | q
  ·exact .inl q
  ·exact .inr q
  ·exact absurd q w.st
 rw [w.len] at e3 e4
 refine ⟨e1, e3, e4, h2, fun y hy => ?_, ?_, ?_, by rw [e2]⟩
 ·rw [e2, QcR w.ge w.lt, if_neg]
  ·exact h.free y hy
  ·intro q
   have := hn y hy
   have := w.ge
   exact w.nfree ((show y = z by omega) ▸ hy)
 ·rw [e2, QcR w.ge w.lt, if_pos rfl, QdT]
 ·rw [e2, QcR w.ge w.lt, if_pos rfl, Qhr hst, w.len]
theorem Lk.add (h : Lk s ks) (hk : ks.length ≤ 3) {k : Nat} (w : Wz s ks z k) (hn : ∀ y ∈ s.free, 0 ≤ y) {r : Rec} (hr : Qm r = 0) (hb : QbB r = true) :
  Lk (s.add z r) ks ∧ ((k : Int) + 1 < s.dev.size → Wz (s.add z r) ks z (k + 1)) ∧ (s.add z r).host = s.host ∧ (s.add z r).lane = s.lane ∧ (s.add z r).free = s.free ∧ (s.add z r).dev = Qf s.dev z (encR r) := by
 obtain ⟨e1, e2, e3, e4, e5, e6, e7, e8⟩ := h.app hk w hn (Qai hr) (.inr (QjM hr hb).1)
 have hg := QeZ s.dev z (encR r)
 unfold St.add
 rw [if_pos e1]
 obtain ⟨i1, i2, i3, i4, i5, i6, i7⟩ := QnZ (s.put z r) (recE r z (QA s.dev z (encR r)))
 have hdev : (s.put z r).dev = Qf s.dev z (encR r) := rfl
 have hm : AllH (Held (Qf s.dev z (encR r))) s.map := h.ents.mono fun e he => he.grows hg
 have hlt := w.lt
 have hge := w.ge
 refine ⟨⟨by rw [i1]; exact e4, by rw [i1, i2]; exact e5, ?_, by rw [i3]; exact h.pend, by rw [i4]; exact h.pins⟩, fun hlt2 => ⟨w.mem, w.ge, by rw [i1, hdev, Qa7]; exact hlt, by rw [i2]; exact w.nfree, by rw [i1, hdev, e6, List.length_append, w.len]; rfl, by rw [i1, hdev, e7, if_neg (by omega)]; decide⟩, i5, i6, i2, by rw [i1, hdev]⟩
 rw [i1, hdev]
 rcases i7 with q | q
 ·rw [q]; exact hm
 ·rw [q]
  refine AllH.inst (m := (s.put z r).map) hm fun hkk => ⟨r, hr, hkk, rfl, rfl, ⟨hge, by rw [Qa7]; exact hlt⟩, ?_, ?_⟩
  ·show 0 ≤ QA s.dev z (encR r) ∧ QA s.dev z (encR r) < ((zAt (Qf s.dev z (encR r)) z).sectors.length : Int)
   rw [e2, e6, List.length_append, w.len]
   simp only [List.length_cons, List.length_nil]
   omega
  ·show (zAt (Qf s.dev z (encR r)) z).sectors.getD (QA s.dev z (encR r)).toNat ByteArray.empty = encR r
   rw [e2, e6]
   simp only [List.getD]
   rw [Int.toNat_natCast, List.getElem?_append_right (by rw [w.len]; exact Nat.le_refl _), w.len, Nat.sub_self]
   rfl
theorem Qgn {l : List ByteArray} (h : ∀ x ∈ l, blkE x = 0) : ∀ k, k ≤ l.length → QY l k = 0
 | 0, _ => rfl
 | k + 1, hk => by
  simp only [QY]
  rw [if_pos (Qgn h k (by omega))]
  have : l.getD k ByteArray.empty = l[k] := by simp [List.getD, show k < l.length by omega]
  rw [this]
  exact h _ (List.getElem_mem _)
theorem QsA {s : ByteArray} (h : blkE s = 0) : decE s = 0 := by
 unfold blkE at h
 by_cases q : decE s = 0
 ·exact q
 ·rw [if_neg q] at h; exact h
theorem Qg7 {l : List ByteArray} (h : ∀ x ∈ l, blkE x = 0) (h1 : 1 ≤ l.length) (h2 : l.length ≤ 64) : QaF l = 0 ∧ Qm (QU l) = 0 := by
 have e : QaF l = 0 := by
  unfold QaF
  rw [if_neg (by omega)]
  exact Qgn h _ (Nat.le_refl _)
 have hr := QcG l l.length fun i hi => QsA (by
  have : l.getD i ByteArray.empty = l[i] := by simp [List.getD, hi]
  rw [this]; exact h _ (List.getElem_mem _))
 refine ⟨e, ?_⟩
 unfold QU
 rw [if_pos e]
 unfold Qm
 dsimp only
 rw [if_pos (decide_eq_true (by omega)), if_pos (decide_eq_true (by omega)), if_pos (decide_eq_true ?_)]
 refine ⟨by rw [ByteArray.size_append, QI, QI]; decide, fun q => by omega, fun q => by omega⟩
theorem Lk.weak {ks' : List Int} (h : Lk s ks) (hk : ∀ i ∈ ks, 0 ≤ i → (zAt s.dev i).state = 1 → i ∈ ks') : Lk s ks' :=
 ⟨h.dev.mono fun i _ hs hm => hk _ hm (by omega) (by unfold zAt; rw [Int.toNat_natCast]; exact hs), h.free, h.ents, h.pend, h.pins⟩
theorem Lk.sealed (h : Lk s ks) (hk : ks.length ≤ 3) {k : Nat} (w : Wz s ks z k) (hn : ∀ y ∈ s.free, 0 ≤ y) (he : (k : Int) + 1 = s.dev.size) : Lk (s.seal z) ks ∧ (zAt (s.seal z).dev z).state = 4 := by
 have hs := h.dev.size
 have hlt : z.toNat < s.dev.zones.length := by have := w.lt; have := w.ge; omega
 have hm := Qg7 (h.dev.secs z.toNat hlt w.st) (by have := w.len; unfold zAt at this; omega) (by have := w.len; unfold zAt at this; omega)
 obtain ⟨e1, e2, e3, e4, e5, e6, e7, e8⟩ := h.app hk w hn (Qai hm.2) (.inl he)
 refine ⟨⟨e4, e5, h.ents.mono fun e he => he.grows (QeZ _ _ _), h.pend, h.pins⟩, ?_⟩
 rw [if_pos he] at e7
 exact e7
end Go.Proofs
end
