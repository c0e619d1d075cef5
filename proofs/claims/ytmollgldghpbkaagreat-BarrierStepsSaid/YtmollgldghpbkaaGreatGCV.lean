/- Contracts, lemmas; no condition. -/
import Derived.Test.YtmollgldghpbkaaGreatGBV
import Derived.Test.YtmollgldghpbkaaGreatStAV
import Derived.Test.YtmollgldghpbkaaGreatEvAV
import Derived.Test.YtmollgldghpbkaaGreatAmFV
set_option linter.all false
section
open Go Go.Am
namespace Go.Proofs
set_option maxRecDepth 20000
def St.cellsK (s : St) (id : Nat) : List C := s.cellsW (rngC s.rings) (.sl id 12 s.works.length s.works.length false) (evC s.evs)
abbrev St.cellsK0 (s : St) : List C := s.cellsK 0
def St.wobj (s : St) : O := .arr 68 12 s.works.length (wrkG s.works)
theorem BwL.wk {H : List O} {s : St} {a e n : Nat} {g : Nat → Nat → C} {x : Bool} (ha : getL H a = some (.arr e 12 n g)) (hn : n = s.works.length) (hg : ∀ i, i < n → ∀ j, j < 12 → g i j = wrkG s.works i j) :
  BwL H (s.cellsW (rngC s.rings) (.sl a 12 n n x) (evC s.evs)) s.cells := by
 subst hn
 have rb : Bw H (.sl a 12 s.works.length s.works.length x) (wrkC s.works) := Bw.sl ha rfl (fun i hi j hj => by rw [hg i hi j hj]; exact Bw.same (Qj _ _)) (fun e => by cases e)
 unfold St.cells St.cellsW St.cellsX St.cellsZ
 repeat' (first | exact BwL.nil | refine BwL.cons ?_ ?_ | exact rb | exact Bw.same rfl)
theorem FwL.evs {H : List O} {s : St} {fr mp rg wk fr' mp' rg' wk' : C} {id e n : Nat} {g : Nat → Nat → C} {x : Bool} {l : List Evt} (hid : getL H id = some (.arr e 8 n g)) (hn : n = l.length) (hg : ∀ i, i < n → ∀ j, j < 8 → g i j = evG l i j) (h1 : Fw H fr fr') (h2 : Fw H mp mp') (h3 : Fw H rg rg') (h4 : Fw H wk wk') :
  FwL H (s.cellsZ fr mp rg wk (.sl id 8 n n x)) ({ s with evs := l }.cellsZ fr' mp' rg' wk' (evC l)) := by
 have h5 : Fw H (.sl id 8 n n x) (evC l) := Fw.slP hid rfl hn hg (fun i j => QaP _ _)
 unfold St.cellsZ
 repeat' (first | exact FwL.nil | refine FwL.cons ?_ ?_ | exact h1 | exact h2 | exact h3 | exact h4 | exact h5 | exact Fw.same rfl)
theorem Qv5 (s : St) (x : Evt) (he : s.evs.length ≤ 1000000) : PS 86 [.a s.cells, .a x.cells] (.a (s.addEv x).cells) := by
 refine PSpec.rm ?_
 refine ov0 hΓ Tryz.func86 14 0 [.cell 4 58] Tryz.ntmps86 Tryz.results86 ?_
 refine Dr.mkE hΓ hMix [4294967296] [(4, 3), (5, 3)] (by kernel_rfl) (Go0 ?_)
 exact RM.allA (FwL.evs (s := s) (l := s.evs ++ [x]) rfl (by simp) (fun i hi j hj => Qnw (x := x) (by simp) om hj) (Fw.same rfl) (Fw.same rfl) (Fw.same rfl) (Fw.same rfl))
theorem Qv6 : HB 86 := hB Tryz.func86
theorem QbD (s : St) (x : Evt) (he : s.evs.length ≤ 1000000) : CS 86 [.a (s.cellsK 0), .a x.cells] [s.wobj] fun r H => r = .a ((s.addEv x).cellsK 0) ∧ H = [s.wobj] := by
 refine CSpec.rm ?_
 refine ov0 hΓ Tryz.func86 14 1 [.cell 4 58] Tryz.ntmps86 Tryz.results86 ?_
 refine Dr.mkE hΓ hMix [4294967296] [(4, 3), (5, 3)] (by kernel_rfl) (Go0 ?_)
 refine ⟨_, _, ?_, rfl, rfl⟩
 refine RM.fz 4 rfl leN (fun i hi j hj => ?_) ?_
 ·exact (congrArg C.imm (Qnw (x := x) (l := s.evs) (by simp) om hj)).trans (QaP _ _)
 ·refine RM.w2 ?_ ?_
  ·exact fun i _ j _ => WC.fzI (Qj _ _)
  ·exact WC.fz rfl (by simp [St.addEv]) (fun i hi j hj => leF.of_eq (Qnw (x := x) (by simp) om hj)) (fun e => by cases e)
theorem QbC : HB 86 := hB Tryz.func86
theorem QoZ (s : St) (hs : s.small) : PS 13 [.a s.cells] (.c (Qi (if Qz s = true then Qcu s.evs else []))) := by
 refine PSpec.rm ?_
 refine ov0 hΓ Tryz.func13 9 0 [.tmp 2] Tryz.ntmps13 Tryz.results13 ?_
 refine CallN.pureA QdG (Qds s hs ) (Go0 ?_)
 by_cases h : Qz s = true
 ·refine Br.no (by rw [h]; rfl) (Go0 ?_)
  refine CallN.pureA QkB (Qkh s.evs hs.evs ) (Go0 ?_)
  rw [if_pos h]
  exact RM.i0
 ·refine Br.yes (by rw [Qg h]; rfl) (Go0 ?_)
  rw [if_neg h]
  exact RM.i0
theorem QoV : HB 13 := hB Tryz.func13
theorem FwL.wks {H : List O} {s : St} {fr mp rg ev fr' mp' rg' ev' : C} {id e n : Nat} {g : Nat → Nat → C} {x : Bool} {l : List Wrk} (hid : getL H id = some (.arr e 12 n g)) (hn : n = l.length) (hg : ∀ i, i < n → ∀ j, j < 12 → g i j = wrkG l i j) (h1 : Fw H fr fr') (h2 : Fw H mp mp') (h3 : Fw H rg rg') (h4 : Fw H ev ev') :
  FwL H (s.cellsZ fr mp rg (.sl id 12 n n x) ev) ({ s with works := l }.cellsZ fr' mp' rg' (wrkC l) ev') := by
 have h5 : Fw H (.sl id 12 n n x) (wrkC l) := Fw.slP hid rfl hn hg (fun i j => Qj _ _)
 unfold St.cellsZ
 repeat' (first | exact FwL.nil | refine FwL.cons ?_ ?_ | exact h1 | exact h2 | exact h3 | exact h4 | exact h5 | exact Fw.same rfl)
theorem Qwf (s : St) (q : Int) (w : Wrk) (hs : s.works.length ≤ 1000000) (h0 : 0 ≤ q) (h1 : q < s.works.length) : PS 89 [.a s.cells, .c (.int .i64 q), .a w.cells] (.a (s.setWork q.toNat w).cells) := by
 have hi : q.toNat < s.works.length := by omega
 refine PSpec.rm ?_
 refine ov0 hΓ Tryz.func89 18 0 [.cell 6 58] Tryz.ntmps89 Tryz.results89 ?_
 exact RM.allA (FwL.wks (s := s) (l := s.works.set q.toNat w) rfl (by simp) (fun i _ j hj => Qb0 (w := w) hi rfl i j hj) (Fw.same rfl) (Fw.same rfl) (Fw.same rfl) (Fw.same rfl))
theorem Qwe : HB 89 := hB Tryz.func89
theorem Qay (s : St) (q : Int) (w : Wrk) (hs : s.works.length ≤ 1000000) (h0 : 0 ≤ q) (h1 : q < s.works.length) : CS 89 [.a (s.cellsK 0), .c (.int .i64 q), .a w.cells] [s.wobj] fun r H => r = .a ((s.setWork q.toNat w).cellsK 1) ∧ H = [s.wobj, (s.setWork q.toNat w).wobj] := by
 have hi : q.toNat < s.works.length := by omega
 refine CSpec.rm ?_
 refine ov0 hΓ Tryz.func89 18 1 [.cell 6 58] Tryz.ntmps89 Tryz.results89 ?_
 refine ⟨_, _, ?_, rfl, rfl⟩
 have hl : 0 + s.works.length = (s.setWork q.toNat w).works.length := by simp [St.setWork]
 refine RM.renN [0, 4] (by decide) (show ∀ i, i < 1 → rho [0, 4] i = i by decide) leN ?_ ?_ <;> (first|exact wb0|refine wb1 ?_|refine wb2 ?_ ?_|refine wb3 ?_ ?_ ?_|refine wb4 ?_ ?_ ?_ ?_)
 ·exact fun i _ j hj => WC.eq (Qb0 (w := w) hi rfl i j hj) (Qj _ _)
theorem Qaz : HB 89 := hB Tryz.func89
theorem Qro (l : List Evt) : (Qcu l).length ≤ l.length := QdI l _
set_option maxHeartbeats 8000000 in
theorem Qwx (s : St) (hs : s.small) (q : Int) (x : Req) : PS 35 [.a s.cells, .c (.int .i64 q), .a [.int .i64 x.kind, .int .i64 x.block, .str x.data]] (.t [.inr (QI s q x).1.cells, .inl (.int .i64 (QI s q x).2)]) := by
 refine PSpec.rm ?_
 have he1 := hs.evs
 have he2 := Qro s.evs
 have hrl := hs.rings
 refine ov0 hΓ Tryz.func35 93 0 [.cell 6 58, .tmp 7] Tryz.ntmps35 Tryz.results35 ?_
 refine CallN.pureA QdG (Qds s hs ) (Go0 ?_)
 by_cases hv : Qz s = true
 ·refine Br.no (by rw [hv]; rfl) (Go0 ?_)
  have hp := validS_V.1 hv
  by_cases hq : 0 ≤ q ∧ q < s.rings.length
  ·have hq2 : q.toNat < s.rings.length := by omega
   refine Br.no (Bool.eq_false_iff.2 fun ebye => by simp [-List.getD_eq_getElem?_getD, -Int.default_eq_zero, hq.1,hq.2] at ebye <;> grind) ?_; conv=>whnf
   refine Go0 ?_
   refine Dr.mk hΓ hMix (by kernel_rfl) (Go0 ?_)
   refine CallP.auto QoV (QoZ s hs ) (Go0 ?_)
   rw [if_pos hv]
   have w0 : IntKind.i64.wrap (↑s.evs.length + ↑(Qcu s.evs).length) = ↑s.evs.length + ↑(Qcu s.evs).length := Qa _ om om
   have hser := hp.parts.serial
   by_cases hl : 398 < s.evs.length + (Qcu s.evs).length ∨ 1099511627776 ≤ s.serial
   ·refine Br.yes (by rw [w0]; simp; omega) (Go0 ?_)
    rw [show QI s q x = (s, 19) by unfold QI; rw [if_pos hv, if_pos hq, if_pos hl]]
    exact RM.i0
   ·refine Br.no (by rw [w0]; simp; omega) (Go0 ?_)
    have w1 := Qa (s.serial + 1) om om
    have hb : QI s q x = (let y : Req := { x with serial := s.serial }
    if s.closed = true then
     (({ s with serial := s.serial + 1 }.addEv (QN false q y 0 ByteArray.empty)).addEv (QN true q y 12 ByteArray.empty), 0)
    else
     let r := QU (s.rings.getD q.toNat default) y
     if r.2 ≠ 0 then (s, r.2)
     else ({ (s.setRing q.toNat r.1) with serial := s.serial + 1 }.addEv (QN false q y 0 ByteArray.empty), 0)) := by unfold QI; rw [if_pos hv, if_pos hq, if_neg hl]
    by_cases hcl : s.closed = true
    ·refine Br.no (by rw [hcl]; rfl) (Go0 ?_)
     rw [w1]
     refine CallN.pureA Qv6 (Qv5 { s with serial := s.serial + 1 } (QN false q { x with serial := s.serial } 0 ByteArray.empty) hs.evs ) (Go0 ?_)
     refine Br.yes hcl (Go0 ?_)
     refine CallN.pureA Qv6 (Qv5 (St.addEv { s with serial := s.serial + 1 } (QN false q { x with serial := s.serial } 0 ByteArray.empty)) (QN true q { x with serial := s.serial } 12 ByteArray.empty) (by simp [St.addEv]; omega) ) (Go0 ?_)
     rw [hb, if_pos hcl]
     exact RM.i0
    ·refine Br.yes (by rw [Qg hcl]; rfl) (Go0 ?_)
     refine Dr.mkE hΓ hMix [] [(11, 13)] (by kernel_rfl) (Go0 ?_)
     refine CallP.auto Qrw (QrM (s.rings.getD q.toNat default) { x with serial := s.serial } (hs.items _) ) (Go0 ?_)
     generalize ht : QU (s.rings.getD q.toNat default) { x with serial := s.serial } = t
     obtain ⟨r, e⟩ := t
     by_cases he : e = 0
     ·subst he
      refine Br.no rfl (Go0 ?_)
      rw [w1]
      have hln : 0 + s.rings.length = (s.setRing q.toNat r).rings.length := by simp [St.setRing]
      have hfz : ∀ (ρ : Nat → Nat) (m : Nat) (g : Nat → Nat → C) (x : Bool), (∀ i j, j < 2 → g i j = rngG (s.setRing q.toNat r).rings i j) → WC ρ m (fzC 4 (0 + s.rings.length) g (.sl 4 2 (0 + s.rings.length) (0 + s.rings.length) x)) (rngC (s.setRing q.toNat r).rings) := fun ρ m g x hg => WC.fz rfl hln (fun i _ j hj => leF.of_eq (hg i j hj)) (fun e => by cases e)
      refine CallN.fzK 4 [1, 3, 5, 6, 8] [] [.vr ({ (s.setRing q.toNat r) with serial := s.serial + 1 } : St).cells, .vr [.int .i64 x.kind, .int .i64 x.block, .str x.data], .vr (default : St).cells, .vr r.cells, .dead] [.a ({ (s.setRing q.toNat r) with serial := s.serial + 1 } : St).cells, .a (QN false q { x with serial := s.serial } 0 ByteArray.empty).cells] rfl leN (fun i _ j hj => (congrArg C.imm (QZ hq2 rfl i j hj)).trans (QB _ _)) (by (first|refine wb1 ?_|refine wb2 ?_ ?_|refine wb3 ?_ ?_ ?_|refine wb4 ?_ ?_ ?_ ?_) <;> first | exact hfz _ _ _ _ fun i j hj => QZ hq2 rfl i j hj | exact fun i _ j _ => WC.fzI (Qj _ _)) wb0 (by (first|refine wb1 ?_|refine wb2 ?_ ?_|refine wb3 ?_ ?_ ?_|refine wb4 ?_ ?_ ?_ ?_) <;> first | exact hfz _ _ _ _ fun i j hj => QZ hq2 rfl i j hj | exact fun i _ j _ => WC.fzI (Qj _ _)) leN ?_
      refine CallN.pureA Qv6 (Qv5 { (s.setRing q.toNat r) with serial := s.serial + 1 } (QN false q { x with serial := s.serial } 0 ByteArray.empty) hs.evs ) (Go0 ?_)
      refine Br.no (Qg hcl) (Go0 ?_)
      rw [hb, if_neg hcl]
      simp only [ht]
      rw [if_neg (by simp)]
      exact RM.i0
     ·refine Br.yes (by simpa using he) (Go0 ?_)
      rw [hb, if_neg hcl]
      simp only [ht]
      rw [if_pos he]
      exact RM.i0
  ·refine Br.yes (Decidable.byContradiction fun ebye => hq (by simp [-List.getD_eq_getElem?_getD, -Int.default_eq_zero] at ebye <;> grind)) ?_; conv=>whnf
   refine Go0 ?_
   rw [show QI s q x = (s, 1) by unfold QI; rw [if_pos hv, if_neg hq]]
   exact RM.i0
 ·refine Br.yes (by rw [Qg hv]; rfl) (Go0 ?_)
  rw [show QI s q x = (s, 6) from if_neg hv]
  exact RM.i0
theorem Qwv : HB 35 := hB Tryz.func35
set_option maxHeartbeats 8000000 in
theorem QkC (s : St) (hs : s.small) (q : Int) (x : Req) : CS 35 [.a (s.cellsK 0), .c (.int .i64 q), .a [.int .i64 x.kind, .int .i64 x.block, .str x.data]] [s.wobj] (fun r H => r = .t [.inr ((QI s q x).1.cellsK 0), .inl (.int .i64 (QI s q x).2)] ∧ H = [s.wobj]) := by
 refine CSpec.rm ?_
 have he1 := hs.evs
 have he2 := Qro s.evs
 have hrl := hs.rings
 refine ov0 hΓ Tryz.func35 93 1 [.cell 6 58, .tmp 7] Tryz.ntmps35 Tryz.results35 ?_
 refine CallN.reads QdG (Qds s hs) (BwA.cons (BwS.a (BwL.wk (a := 0) rfl rfl (fun _ _ _ _ => rfl))) BwA.nil) rfl (Go0 ?_)
 by_cases hv : Qz s = true
 ·refine Br.no (by rw [hv]; rfl) (Go0 ?_)
  have hp := validS_V.1 hv
  by_cases hq : 0 ≤ q ∧ q < s.rings.length
  ·have hq2 : q.toNat < s.rings.length := by omega
   refine Br.no (Bool.eq_false_iff.2 fun ebye => by simp [-List.getD_eq_getElem?_getD, -Int.default_eq_zero, hq.1,hq.2] at ebye <;> grind) ?_; conv=>whnf
   refine Go0 ?_
   refine Dr.mkE hΓ hMix [13] [(0, 4), (1, 4), (2, 4)] (by kernel_rfl) (Go0 ?_)
   refine CallE.reads QoV (PSpec.len (QoZ s hs)) (BwA.cons (BwS.a (BwL.wk (a := 0) rfl rfl (fun _ _ _ _ => rfl))) BwA.nil) rfl (Go0 ?_)
   rw [if_pos hv]
   have w0 : IntKind.i64.wrap (↑s.evs.length + ↑(Qcu s.evs).length) = ↑s.evs.length + ↑(Qcu s.evs).length := Qa _ om om
   have hser := hp.parts.serial
   by_cases hl : 398 < s.evs.length + (Qcu s.evs).length ∨ 1099511627776 ≤ s.serial
   ·refine Br.yes (by rw [w0]; simp; omega) (Go0 ?_)
    rw [show QI s q x = (s, 19) by unfold QI; rw [if_pos hv, if_pos hq, if_pos hl]]
    refine ⟨_, _, ?_, rfl, rfl⟩
    exact RM.w0
   ·refine Br.no (by rw [w0]; simp; omega) (Go0 ?_)
    have w1 := Qa (s.serial + 1) om om
    have hb : QI s q x = (let y : Req := { x with serial := s.serial }
    if s.closed = true then
     (({ s with serial := s.serial + 1 }.addEv (QN false q y 0 ByteArray.empty)).addEv (QN true q y 12 ByteArray.empty), 0)
    else
     let r := QU (s.rings.getD q.toNat default) y
     if r.2 ≠ 0 then (s, r.2)
     else ({ (s.setRing q.toNat r.1) with serial := s.serial + 1 }.addEv (QN false q y 0 ByteArray.empty), 0)) := by unfold QI; rw [if_pos hv, if_pos hq, if_neg hl]
    by_cases hcl : s.closed = true
    ·refine Br.no (by rw [hcl]; rfl) (Go0 ?_)
     rw [w1]
     refine CallN.autoI [0] QbC (QbD { s with serial := s.serial + 1 } (QN false q { x with serial := s.serial } 0 ByteArray.empty) hs.evs) plh (Go0 ?_)
     refine Br.yes hcl (Go0 ?_)
     refine CallN.autoI [0] QbC (QbD (St.addEv { s with serial := s.serial + 1 } (QN false q { x with serial := s.serial } 0 ByteArray.empty)) (QN true q { x with serial := s.serial } 12 ByteArray.empty) (by simp [St.addEv]; omega)) plh (Go0 ?_)
     rw [hb, if_pos hcl]
     refine ⟨_, _, ?_, rfl, rfl⟩
     exact RM.w0
    ·refine Br.yes (by rw [Qg hcl]; rfl) (Go0 ?_)
     refine Dr.mkE hΓ hMix [] [(11, 13)] (by kernel_rfl) (Go0 ?_)
     refine CallP.auto Qrw (QrM (s.rings.getD q.toNat default) { x with serial := s.serial } (hs.items _) ) (Go0 ?_)
     generalize ht : QU (s.rings.getD q.toNat default) { x with serial := s.serial } = t
     obtain ⟨r, e⟩ := t
     by_cases he : e = 0
     ·subst he
      refine Br.no rfl (Go0 ?_)
      rw [w1]
      have hln : 0 + s.rings.length = (s.setRing q.toNat r).rings.length := by simp [St.setRing]
      have hfz : ∀ (ρ : Nat → Nat) (m : Nat) (g : Nat → Nat → C) (x : Bool), (∀ i j, j < 2 → g i j = rngG (s.setRing q.toNat r).rings i j) → WC ρ m (fzC 5 (0 + s.rings.length) g (.sl 5 2 (0 + s.rings.length) (0 + s.rings.length) x)) (rngC (s.setRing q.toNat r).rings) := fun ρ m g x hg => WC.fz rfl hln (fun i _ j hj => leF.of_eq (hg i j hj)) (fun e => by cases e)
      refine CallN.fzK 5 [1, 3, 5, 6, 8] [] [s.wobj, .vr ({ (s.setRing q.toNat r) with serial := s.serial + 1 } : St).cellsK0, .vr [.int .i64 x.kind, .int .i64 x.block, .str x.data], .vr (default : St).cells, .vr r.cells, .dead] [.a ({ (s.setRing q.toNat r) with serial := s.serial + 1 } : St).cellsK0, .a (QN false q { x with serial := s.serial } 0 ByteArray.empty).cells] rfl leN (fun i _ j hj => (congrArg C.imm (QZ hq2 rfl i j hj)).trans (QB _ _)) (by (first|refine wb1 ?_|refine wb2 ?_ ?_|refine wb3 ?_ ?_ ?_|refine wb4 ?_ ?_ ?_ ?_) <;> first | exact hfz _ _ _ _ fun i j hj => QZ hq2 rfl i j hj | exact fun i _ j _ => WC.fzI (Qj _ _)) wb0 (by (first|refine wb1 ?_|refine wb2 ?_ ?_|refine wb3 ?_ ?_ ?_|refine wb4 ?_ ?_ ?_ ?_) <;> first | exact hfz _ _ _ _ fun i j hj => QZ hq2 rfl i j hj | exact fun i _ j _ => WC.fzI (Qj _ _)) leN ?_
      refine CallN.autoI [0] QbC (QbD { (s.setRing q.toNat r) with serial := s.serial + 1 } (QN false q { x with serial := s.serial } 0 ByteArray.empty) hs.evs) plh (Go0 ?_)
      refine Br.no (Qg hcl) (Go0 ?_)
      rw [hb, if_neg hcl]
      simp only [ht]
      rw [if_neg (by simp)]
      refine ⟨_, _, ?_, rfl, rfl⟩
      exact RM.w0
     ·refine Br.yes (by simpa using he) (Go0 ?_)
      rw [hb, if_neg hcl]
      simp only [ht]
      rw [if_pos he]
      refine ⟨_, _, ?_, rfl, rfl⟩
      exact RM.w0
  ·refine Br.yes (Decidable.byContradiction fun ebye => hq (by simp [-List.getD_eq_getElem?_getD, -Int.default_eq_zero] at ebye <;> grind)) ?_; conv=>whnf
   refine Go0 ?_
   rw [show QI s q x = (s, 1) by unfold QI; rw [if_pos hv, if_neg hq]]
   refine ⟨_, _, ?_, rfl, rfl⟩
   exact RM.w0
 ·refine Br.yes (by rw [Qg hv]; rfl) (Go0 ?_)
  rw [show QI s q x = (s, 6) from if_neg hv]
  refine ⟨_, _, ?_, rfl, rfl⟩
  exact RM.w0
theorem Qkq : HB 35 := hB Tryz.func35
end Go.Proofs
end
