/- Contracts, lemmas; no condition. -/
import Derived.Test.YtmollgldghpbkaaGreatG8V
set_option linter.all false
open Go Go.Am
namespace Go.Proofs
set_option maxRecDepth 20000
set_option maxHeartbeats 8000000 in
theorem Qme (s : St) (hs : s.small) (q : Int) : CS 36 [.a (s.cellsK 0), .c (.int .i64 q)] [s.wobj] (fun r H => if begA s q = true then r = .t [.inr ((Qn false s q).1.cellsK 1), .inl (.bool true)] ∧ H = [s.wobj, (Qn false s q).1.wobj] else r = .t [.inr ((Qn false s q).1.cellsK 0), .inl (.bool (Qn false s q).2)] ∧ H = [s.wobj]) := by
 refine CSpec.rm ?_
 have hrl := hs.rings
 have hwl := hs.works
 refine ov0 hΓ Tryz.func36 90 1 [.cell 4 58, .tmp 5] Tryz.ntmps36 Tryz.results36 ?_
 refine CallN.reads QdG (Qds s hs) (BwA.cons (BwS.a (BwL.wk (a := 0) rfl rfl (fun _ _ _ _ => rfl))) BwA.nil) rfl (Go0 ?_)
 by_cases hv : Qz s = true
 ·have hp := (validS_V.1 hv).parts
  have hlen : s.rings.length = s.works.length := by have := hp.rings; have := hp.works; omega
  by_cases hq : 0 ≤ q ∧ q < s.works.length
  ·have hq0 := hq.1
   have hq1 := hq.2
   have hq2 : q < s.rings.length := by omega
   have hq1' : q.toNat < s.works.length := by omega
   have hq2' : q.toNat < s.rings.length := by omega
   refine Go0 ?_
   refine Frc.mk (.c (.int .i64 (s.works.getD q.toNat default).state)) rfl (Go0 ?_)
   by_cases hst : (s.works.getD q.toNat default).state = 0
   ·have hc : Qz s = true ∧ 0 ≤ q ∧ q < s.works.length ∧ (s.works.getD q.toNat default).state = 0 := ⟨hv, hq0, hq1, hst⟩
    refine Br.no (Bool.eq_false_iff.2 fun ebye => by simp [-List.getD_eq_getElem?_getD, -Int.default_eq_zero, hv,hq0,hq2,hst] at ebye <;> grind) ?_; conv=>whnf
    refine Go0 ?_
    refine CallN.pureA Qoo (Qo2 (s.rings.getD q.toNat default) (hs.items _) ) (Go0 ?_)
    generalize ht : Qah (s.rings.getD q.toNat default) = t
    obtain ⟨r, x, ok⟩ := t
    cases ok with
    | false =>
     have hA : begA s q = false := Qg fun z => by have := (begA_iff.1 z).2.1; rw [ht] at this; cases this
     refine Br.yes rfl (Go0 ?_)
     rw [show Qn false s q = (s, false) by unfold Qn; rw [if_pos hc, ht]; rfl]
     refine ⟨_, _, ?_, (if_neg (show ¬ begA s q = true by rw [hA]; decide)).mpr ⟨rfl, rfl⟩⟩
     exact RM.w0
    | true =>
     obtain ⟨ser, kind, block, data⟩ := x
     refine Br.no rfl (Go0 ?_)
     have hln : 0 + s.rings.length = (s.setRing q.toNat r).rings.length := by simp [St.setRing]
     have hfz : ∀ (ρ : Nat → Nat) (m : Nat) (g : Nat → Nat → C) (x : Bool), (∀ i j, j < 2 → g i j = rngG (s.setRing q.toNat r).rings i j) → WC ρ m (fzC 5 (0 + s.rings.length) g (.sl 5 2 (0 + s.rings.length) (0 + s.rings.length) x)) (rngC (s.setRing q.toNat r).rings) := fun ρ m g x hg => WC.fz rfl hln (fun i _ j hj => leF.of_eq (hg i j hj)) (fun e => by cases e)
     by_cases k1 : kind = 1
     ·refine Br.yes (by simpa using k1) (Go0 ?_)
      refine Go0 ?_
      refine CallN.pureA Qep (Qew s.cfg ⟨ser, kind, block, data⟩ ) (Go0 ?_)
      by_cases he : cmdE s.cfg ⟨ser, kind, block, data⟩ = 0
      ·have hb : Qn false s q = ((s.setRing q.toNat r).setWork q.toNat ⟨1, ⟨ser, kind, block, data⟩, default, ByteArray.empty⟩, true) := by
        unfold Qn; rw [if_pos hc, ht]; dsimp only; rw [if_pos rfl, if_pos he, show QaZ kind = 1 by unfold QaZ; simp [k1]]
       refine Br.no (by rw [he]; rfl) (Go0 ?_)
       refine CallN.fzK 5 [1, 2, 4, 7, 9, 10] [] [s.wobj, .vr (s.setRing q.toNat r).cellsK0, .vr (default : St).cells, .vr r.cells, .vr (Req.cells ⟨ser, kind, block, data⟩), .dead, .vr (Wrk.cells ⟨1, ⟨ser, kind, block, data⟩, default, ByteArray.empty⟩)] [.a (s.setRing q.toNat r).cellsK0, .c (.int .i64 q), .a (Wrk.cells ⟨1, ⟨ser, kind, block, data⟩, default, ByteArray.empty⟩)] rfl leN (fun i _ j hj => (congrArg C.imm (QZ hq2' rfl i j hj)).trans (QB _ _)) (by (first|refine wb1 ?_|refine wb2 ?_ ?_|refine wb3 ?_ ?_ ?_|refine wb4 ?_ ?_ ?_ ?_) <;> first | exact hfz _ _ _ _ fun i j hj => QZ hq2' rfl i j hj | exact fun i _ j _ => WC.fzI (Qj _ _)) wb0 (by (first|refine wb1 ?_|refine wb2 ?_ ?_|refine wb3 ?_ ?_ ?_|refine wb4 ?_ ?_ ?_ ?_) <;> first | exact hfz _ _ _ _ fun i j hj => QZ hq2' rfl i j hj | exact fun i _ j _ => WC.fzI (Qj _ _)) leN ?_
       refine CallN.autoI [0] Qaz (Qay (s.setRing q.toNat r) q ⟨1, ⟨ser, kind, block, data⟩, default, ByteArray.empty⟩ hs.works hc.2.1 hc.2.2.1) plh (Go0 ?_)
       have hA : begA s q = true := begA_iff.2 ⟨hc, by rw [ht], by rw [ht]; exact he⟩
       rw [hb]
       refine ⟨_, _, ?_, (if_pos hA).mpr ⟨rfl, rfl⟩⟩
       exact RM.renN [0, 7] (by decide) (show ∀ i, i < 1 → rho [0, 7] i = i by decide) leN wb0 wb0
      ·have hb : Qn false s q = ((s.setRing q.toNat r).addEv (QN true q ⟨ser, kind, block, data⟩ (cmdE s.cfg ⟨ser, kind, block, data⟩) ByteArray.empty), true) := by
        unfold Qn; rw [if_pos hc, ht]; simp only [if_true, if_neg he]; rfl
       have hA : begA s q = false := Qg fun z => by have := (begA_iff.1 z).2.2; rw [ht] at this; exact he this
       refine Br.yes (by simpa using he) (Go0 ?_)
       refine CallN.fzK 5 [1, 2, 4, 7, 9, 10] [] [s.wobj, .vr (s.setRing q.toNat r).cellsK0, .vr (default : St).cells, .vr r.cells, .vr (Req.cells ⟨ser, kind, block, data⟩), .dead, .vr (Wrk.cells ⟨1, ⟨ser, kind, block, data⟩, default, ByteArray.empty⟩)] [.a (s.setRing q.toNat r).cellsK0, .a (QN true q ⟨ser, kind, block, data⟩ (cmdE s.cfg ⟨ser, kind, block, data⟩) ByteArray.empty).cells] rfl leN (fun i _ j hj => (congrArg C.imm (QZ hq2' rfl i j hj)).trans (QB _ _)) (by (first|refine wb1 ?_|refine wb2 ?_ ?_|refine wb3 ?_ ?_ ?_|refine wb4 ?_ ?_ ?_ ?_) <;> first | exact hfz _ _ _ _ fun i j hj => QZ hq2' rfl i j hj | exact fun i _ j _ => WC.fzI (Qj _ _)) wb0 (by (first|refine wb1 ?_|refine wb2 ?_ ?_|refine wb3 ?_ ?_ ?_|refine wb4 ?_ ?_ ?_ ?_) <;> first | exact hfz _ _ _ _ fun i j hj => QZ hq2' rfl i j hj | exact fun i _ j _ => WC.fzI (Qj _ _)) leN ?_
       refine CallN.autoI [0] QbC (QbD (s.setRing q.toNat r) (QN true q ⟨ser, kind, block, data⟩ (cmdE s.cfg ⟨ser, kind, block, data⟩) ByteArray.empty) hs.evs) plh (Go0 ?_)
       rw [hb]
       refine ⟨_, _, ?_, (if_neg (show ¬ begA s q = true by rw [hA]; decide)).mpr ⟨rfl, rfl⟩⟩
       exact RM.w0
     ·by_cases k4 : kind = 4
      ·refine Br.no (by simpa using k1) (Go0 ?_)
       refine Br.yes (by simpa using k4) (Go0 ?_)
       have k41 : ¬ (4 : Int) = 1 := by decide
       refine Go0 ?_
       refine CallN.pureA Qep (Qew s.cfg ⟨ser, kind, block, data⟩ ) (Go0 ?_)
       by_cases he : cmdE s.cfg ⟨ser, kind, block, data⟩ = 0
       ·have hb : Qn false s q = ((s.setRing q.toNat r).setWork q.toNat ⟨10, ⟨ser, kind, block, data⟩, default, ByteArray.empty⟩, true) := by
         unfold Qn; rw [if_pos hc, ht]; dsimp only; rw [if_pos rfl, if_pos he, show QaZ kind = 10 by unfold QaZ; simp [k4, k41]]
        refine Br.no (by rw [he]; rfl) (Go0 ?_)
        refine CallN.fzK 5 [1, 2, 4, 7, 9, 10] [] [s.wobj, .vr (s.setRing q.toNat r).cellsK0, .vr (default : St).cells, .vr r.cells, .vr (Req.cells ⟨ser, kind, block, data⟩), .dead, .vr (Wrk.cells ⟨10, ⟨ser, kind, block, data⟩, default, ByteArray.empty⟩)] [.a (s.setRing q.toNat r).cellsK0, .c (.int .i64 q), .a (Wrk.cells ⟨10, ⟨ser, kind, block, data⟩, default, ByteArray.empty⟩)] rfl leN (fun i _ j hj => (congrArg C.imm (QZ hq2' rfl i j hj)).trans (QB _ _)) (by (first|refine wb1 ?_|refine wb2 ?_ ?_|refine wb3 ?_ ?_ ?_|refine wb4 ?_ ?_ ?_ ?_) <;> first | exact hfz _ _ _ _ fun i j hj => QZ hq2' rfl i j hj | exact fun i _ j _ => WC.fzI (Qj _ _)) wb0 (by (first|refine wb1 ?_|refine wb2 ?_ ?_|refine wb3 ?_ ?_ ?_|refine wb4 ?_ ?_ ?_ ?_) <;> first | exact hfz _ _ _ _ fun i j hj => QZ hq2' rfl i j hj | exact fun i _ j _ => WC.fzI (Qj _ _)) leN ?_
        refine CallN.autoI [0] Qaz (Qay (s.setRing q.toNat r) q ⟨10, ⟨ser, kind, block, data⟩, default, ByteArray.empty⟩ hs.works hc.2.1 hc.2.2.1) plh (Go0 ?_)
        have hA : begA s q = true := begA_iff.2 ⟨hc, by rw [ht], by rw [ht]; exact he⟩
        rw [hb]
        refine ⟨_, _, ?_, (if_pos hA).mpr ⟨rfl, rfl⟩⟩
        exact RM.renN [0, 7] (by decide) (show ∀ i, i < 1 → rho [0, 7] i = i by decide) leN wb0 wb0
       ·have hb : Qn false s q = ((s.setRing q.toNat r).addEv (QN true q ⟨ser, kind, block, data⟩ (cmdE s.cfg ⟨ser, kind, block, data⟩) ByteArray.empty), true) := by
         unfold Qn; rw [if_pos hc, ht]; simp only [if_true, if_neg he]; rfl
        have hA : begA s q = false := Qg fun z => by have := (begA_iff.1 z).2.2; rw [ht] at this; exact he this
        refine Br.yes (by simpa using he) (Go0 ?_)
        refine CallN.fzK 5 [1, 2, 4, 7, 9, 10] [] [s.wobj, .vr (s.setRing q.toNat r).cellsK0, .vr (default : St).cells, .vr r.cells, .vr (Req.cells ⟨ser, kind, block, data⟩), .dead, .vr (Wrk.cells ⟨10, ⟨ser, kind, block, data⟩, default, ByteArray.empty⟩)] [.a (s.setRing q.toNat r).cellsK0, .a (QN true q ⟨ser, kind, block, data⟩ (cmdE s.cfg ⟨ser, kind, block, data⟩) ByteArray.empty).cells] rfl leN (fun i _ j hj => (congrArg C.imm (QZ hq2' rfl i j hj)).trans (QB _ _)) (by (first|refine wb1 ?_|refine wb2 ?_ ?_|refine wb3 ?_ ?_ ?_|refine wb4 ?_ ?_ ?_ ?_) <;> first | exact hfz _ _ _ _ fun i j hj => QZ hq2' rfl i j hj | exact fun i _ j _ => WC.fzI (Qj _ _)) wb0 (by (first|refine wb1 ?_|refine wb2 ?_ ?_|refine wb3 ?_ ?_ ?_|refine wb4 ?_ ?_ ?_ ?_) <;> first | exact hfz _ _ _ _ fun i j hj => QZ hq2' rfl i j hj | exact fun i _ j _ => WC.fzI (Qj _ _)) leN ?_
        refine CallN.autoI [0] QbC (QbD (s.setRing q.toNat r) (QN true q ⟨ser, kind, block, data⟩ (cmdE s.cfg ⟨ser, kind, block, data⟩) ByteArray.empty) hs.evs) plh (Go0 ?_)
        rw [hb]
        refine ⟨_, _, ?_, (if_neg (show ¬ begA s q = true by rw [hA]; decide)).mpr ⟨rfl, rfl⟩⟩
        exact RM.w0
      ·refine Br.no (by simpa using k1) (Go0 ?_)
       refine Br.no (by simpa using k4) (Go0 ?_)
       refine Go0 ?_
       refine CallN.pureA Qep (Qew s.cfg ⟨ser, kind, block, data⟩ ) (Go0 ?_)
       by_cases he : cmdE s.cfg ⟨ser, kind, block, data⟩ = 0
       ·have hb : Qn false s q = ((s.setRing q.toNat r).setWork q.toNat ⟨5, ⟨ser, kind, block, data⟩, default, ByteArray.empty⟩, true) := by
         unfold Qn; rw [if_pos hc, ht]; dsimp only; rw [if_pos rfl, if_pos he, show QaZ kind = 5 by unfold QaZ; simp [k1, k4]]
        refine Br.no (by rw [he]; rfl) (Go0 ?_)
        refine CallN.fzK 5 [1, 2, 4, 7, 9, 10] [] [s.wobj, .vr (s.setRing q.toNat r).cellsK0, .vr (default : St).cells, .vr r.cells, .vr (Req.cells ⟨ser, kind, block, data⟩), .dead, .vr (Wrk.cells ⟨5, ⟨ser, kind, block, data⟩, default, ByteArray.empty⟩)] [.a (s.setRing q.toNat r).cellsK0, .c (.int .i64 q), .a (Wrk.cells ⟨5, ⟨ser, kind, block, data⟩, default, ByteArray.empty⟩)] rfl leN (fun i _ j hj => (congrArg C.imm (QZ hq2' rfl i j hj)).trans (QB _ _)) (by (first|refine wb1 ?_|refine wb2 ?_ ?_|refine wb3 ?_ ?_ ?_|refine wb4 ?_ ?_ ?_ ?_) <;> first | exact hfz _ _ _ _ fun i j hj => QZ hq2' rfl i j hj | exact fun i _ j _ => WC.fzI (Qj _ _)) wb0 (by (first|refine wb1 ?_|refine wb2 ?_ ?_|refine wb3 ?_ ?_ ?_|refine wb4 ?_ ?_ ?_ ?_) <;> first | exact hfz _ _ _ _ fun i j hj => QZ hq2' rfl i j hj | exact fun i _ j _ => WC.fzI (Qj _ _)) leN ?_
        refine CallN.autoI [0] Qaz (Qay (s.setRing q.toNat r) q ⟨5, ⟨ser, kind, block, data⟩, default, ByteArray.empty⟩ hs.works hc.2.1 hc.2.2.1) plh (Go0 ?_)
        have hA : begA s q = true := begA_iff.2 ⟨hc, by rw [ht], by rw [ht]; exact he⟩
        rw [hb]
        refine ⟨_, _, ?_, (if_pos hA).mpr ⟨rfl, rfl⟩⟩
        exact RM.renN [0, 7] (by decide) (show ∀ i, i < 1 → rho [0, 7] i = i by decide) leN wb0 wb0
       ·have hb : Qn false s q = ((s.setRing q.toNat r).addEv (QN true q ⟨ser, kind, block, data⟩ (cmdE s.cfg ⟨ser, kind, block, data⟩) ByteArray.empty), true) := by
         unfold Qn; rw [if_pos hc, ht]; simp only [if_true, if_neg he]; rfl
        have hA : begA s q = false := Qg fun z => by have := (begA_iff.1 z).2.2; rw [ht] at this; exact he this
        refine Br.yes (by simpa using he) (Go0 ?_)
        refine CallN.fzK 5 [1, 2, 4, 7, 9, 10] [] [s.wobj, .vr (s.setRing q.toNat r).cellsK0, .vr (default : St).cells, .vr r.cells, .vr (Req.cells ⟨ser, kind, block, data⟩), .dead, .vr (Wrk.cells ⟨5, ⟨ser, kind, block, data⟩, default, ByteArray.empty⟩)] [.a (s.setRing q.toNat r).cellsK0, .a (QN true q ⟨ser, kind, block, data⟩ (cmdE s.cfg ⟨ser, kind, block, data⟩) ByteArray.empty).cells] rfl leN (fun i _ j hj => (congrArg C.imm (QZ hq2' rfl i j hj)).trans (QB _ _)) (by (first|refine wb1 ?_|refine wb2 ?_ ?_|refine wb3 ?_ ?_ ?_|refine wb4 ?_ ?_ ?_ ?_) <;> first | exact hfz _ _ _ _ fun i j hj => QZ hq2' rfl i j hj | exact fun i _ j _ => WC.fzI (Qj _ _)) wb0 (by (first|refine wb1 ?_|refine wb2 ?_ ?_|refine wb3 ?_ ?_ ?_|refine wb4 ?_ ?_ ?_ ?_) <;> first | exact hfz _ _ _ _ fun i j hj => QZ hq2' rfl i j hj | exact fun i _ j _ => WC.fzI (Qj _ _)) leN ?_
        refine CallN.autoI [0] QbC (QbD (s.setRing q.toNat r) (QN true q ⟨ser, kind, block, data⟩ (cmdE s.cfg ⟨ser, kind, block, data⟩) ByteArray.empty) hs.evs) plh (Go0 ?_)
        rw [hb]
        refine ⟨_, _, ?_, (if_neg (show ¬ begA s q = true by rw [hA]; decide)).mpr ⟨rfl, rfl⟩⟩
        exact RM.w0
   ·have hA : begA s q = false := Qg fun z => hst (begA_iff.1 z).1.2.2.2
    refine Br.yes (Decidable.byContradiction fun ebye => hst (by simp [-List.getD_eq_getElem?_getD, -Int.default_eq_zero] at ebye <;> grind)) ?_; conv=>whnf
    refine Go0 ?_
    rw [show Qn false s q = (s, false) from if_neg fun z => hst z.2.2.2]
    refine ⟨_, _, ?_, (if_neg (show ¬ begA s q = true by rw [hA]; decide)).mpr ⟨rfl, rfl⟩⟩
    exact RM.w0
  ·have hA : begA s q = false := Qg fun z => hq ⟨(begA_iff.1 z).1.2.1, (begA_iff.1 z).1.2.2.1⟩
   have hq' : ¬ (0 ≤ q ∧ q < s.rings.length) := by omega
   refine Go0 ?_
   refine Frc.mk (.c (.int .i64 (s.works.getD q.toNat default).state)) rfl (Go0 ?_)
   refine Br.yes (Decidable.byContradiction fun ebye => hq' (by simp [-List.getD_eq_getElem?_getD, -Int.default_eq_zero] at ebye <;> grind)) ?_; conv=>whnf
   refine Go0 ?_
   rw [show Qn false s q = (s, false) from if_neg fun z => hq ⟨z.2.1, z.2.2.1⟩]
   refine ⟨_, _, ?_, (if_neg (show ¬ begA s q = true by rw [hA]; decide)).mpr ⟨rfl, rfl⟩⟩
   exact RM.w0
 ·have hA : begA s q = false := Qg fun z => hv (begA_iff.1 z).1.1
  refine Go0 ?_
  refine Frc.mk (.c (.int .i64 (s.works.getD q.toNat default).state)) rfl (Go0 ?_)
  refine Br.yes (Decidable.byContradiction fun ebye => hv (by simp [-List.getD_eq_getElem?_getD, -Int.default_eq_zero] at ebye <;> grind)) ?_; conv=>whnf
  refine Go0 ?_
  rw [show Qn false s q = (s, false) from if_neg fun z => hv z.1]
  refine ⟨_, _, ?_, (if_neg (show ¬ begA s q = true by rw [hA]; decide)).mpr ⟨rfl, rfl⟩⟩
  exact RM.w0
theorem Qg3 : HB 36 := hB Tryz.func36
end Go.Proofs
