/- Contracts, lemmas; no condition. -/
import Derived.Test.YtmollgldghpbkaaGreatEvAV
import Derived.Test.YtmollgldghpbkaaGreatModBV
set_option linter.all false
section
open Go Go.Am
namespace Go.Proofs
set_option maxRecDepth 20000
theorem Qlh (n : Int) : PS 63 [.c (.int .i64 n)] (.c (.str (QdH n))) := by
 refine PSpec.rm ?_
 refine ov0 hΓ Tryz.func63 30 0 [.tmp 2] Tryz.ntmps63 Tryz.results63 ?_
 refine Lp.mkK hΓ (ι := Nat) [0] (fun k => [(4, .c (.int .i64 k)), (3, .c (.sl 0 1 16 16 true))]) (fun k => [.arr 5 1 16 (genG (fun i => if i < k then QnY n i else 0))]) (fun k => k ≤ 16) (fun k => 16 - k) 0 (Nat.zero_le _) ?_ ?_
 ·refine Mv.k1 ?_
  intro i hi j hj
  have hj' : j < 1 := hj
  have : j = 0 := by omega
  subst this
  exact WC.eq (by simp [Qbo, QW, lget, getL, genG, Z.toC]) rfl
 ·intro k hk
  refine Go0 ?_
  refine Br.of (fun h1=>Go0 ?_) (fun h1=>Go0 ?_)
  ·refine CallN.pureA QeW (QeY _ _ ) (Go0 ?_)
   refine ⟨k + 1, om, om, ?_⟩
   refine Mv.k1 ?_
   intro i hi j hj
   refine WC.eq ((QgE i j hj).trans ?_) rfl
   simp only [genG, Int.toNat_natCast]
   congr 1
   by_cases c : i = k
   ·subst c
    rw [if_pos rfl, if_pos om]; rfl
   ·rw [if_neg c]
    by_cases c2 : i < k
    ·rw [if_pos c2, if_pos om]
    ·rw [if_neg c2, if_neg om]
  ·have : k = 16 := by omega
   subst this
   refine CallN.pureA QeW (QeY _ _ ) (Go0 ?_)
   refine Need.mk (fun i hi => ⟨_, QgE i 0 (by decide)⟩) (Go0 ?_)
   exact RM.i0
theorem Qly : HB 63 := hB Tryz.func63
def QaU (d : DiceM) (blocks : Int) : DiceM := if 1 + d.next 4 = 2 then d.step.step.step else d.step.step
def cmdM (d : DiceM) (blocks : Int) : Req :=
 ⟨0, 1 + d.next 4,
  if (QaU d blocks).next 20 = 18 then blocks else if 1 + d.next 4 = 4 then 0 else d.step.next blocks,
  if (QaU d blocks).next 20 = 19 then ⟨#[97, 98, 99]⟩ else if 1 + d.next 4 = 2 then QdH (d.step.step.next 60) else ByteArray.empty⟩
def cmdD (d : DiceM) (blocks : Int) : DiceM := (QaU d blocks).step
theorem QuB {d : DiceM} {b : Int} (h : d.ok) : (QaU d b).ok := by unfold QaU; split; exact h.step.step.step; exact h.step.step
theorem QpE {d : DiceM} {b : Int} (h : d.ok) : (cmdD d b).ok := (QuB h).step
set_option maxHeartbeats 4000000 in
theorem Qny (d : DiceM) (hd : d.ok) (blocks : Int) : CS 25 [.c (.ptr 0 0), .c (.int .i64 blocks)] [.vr d.cells] fun s H => s = .a [.int .i64 (cmdM d blocks).kind, .int .i64 (cmdM d blocks).block, .str (cmdM d blocks).data] ∧ H = [.vr (cmdD d blocks).cells] := by
 have h4 := d.next_range (n := 4) om om
 have w0 : IntKind.i64.wrap (1 + d.next 4) = 1 + d.next 4 := Qa _ om om
 refine CSpec.rm ?_
 refine ov0 hΓ Tryz.func25 34 1 [.cell 4 64] Tryz.ntmps25 Tryz.results25 ?_
 refine CallN.autoQ [0] Ql (Qm d hd 4) (Go0 ?_)
 refine CallN.autoQ [0] Ql (Qm d.step hd.step blocks) (Go0 ?_)
 rw [w0]
 by_cases h2 : 1 + d.next 4 = 2
 ·have h4' : ¬ 1 + d.next 4 = 4 := by omega
  refine Br.yes (by simp [h2]) (Go0 ?_)
  refine CallN.autoQ [0] Ql (Qm d.step.step hd.step.step 60) (Go0 ?_)
  refine CallN.pureA Qly (Qlh (d.step.step.next 60) ) (Go0 ?_)
  refine CallN.autoQ [0] Ql (Qm d.step.step.step hd.step.step.step 20) (Go0 ?_)
  by_cases h18 : DiceM.next d.step.step.step 20 = 18
  ·refine Br.yes (by simp [h18]) (Go0 ?_)
   refine ⟨_, _, ?_, rfl, rfl⟩
   have e1 : cmdM d blocks = ⟨0, 1 + d.next 4, blocks, (QdH (d.step.step.next 60))⟩ := by simp [cmdM, QaU, h2, h4', h18]
   have e2 : cmdD d blocks = DiceM.step d.step.step.step := by simp [cmdD, QaU, h2]
   rw [e1, e2]
   exact RM.w0
  ·refine Br.no (by simp [h18]) (Go0 ?_)
   by_cases h19 : DiceM.next d.step.step.step 20 = 19
   ·refine Br.yes (by simp [h19]) (Go0 ?_)
    refine ⟨_, _, ?_, rfl, rfl⟩
    have e1 : cmdM d blocks = ⟨0, 1 + d.next 4, (d.step.next blocks), ⟨#[97, 98, 99]⟩⟩ := by simp [cmdM, QaU, h2, h4', h19]
    have e2 : cmdD d blocks = DiceM.step d.step.step.step := by simp [cmdD, QaU, h2]
    rw [e1, e2]
    exact RM.w0
   ·refine Br.no (by simp [h19]) (Go0 ?_)
    refine ⟨_, _, ?_, rfl, rfl⟩
    have e1 : cmdM d blocks = ⟨0, 1 + d.next 4, (d.step.next blocks), (QdH (d.step.step.next 60))⟩ := by simp [cmdM, QaU, h2, h4', h18, h19]
    have e2 : cmdD d blocks = DiceM.step d.step.step.step := by simp [cmdD, QaU, h2]
    rw [e1, e2]
    exact RM.w0
 ·refine Br.no (by simp [h2]) (Go0 ?_)
  by_cases h4' : 1 + d.next 4 = 4
  ·refine Br.yes (by simp [h4']) (Go0 ?_)
   refine CallN.autoQ [0] Ql (Qm d.step.step hd.step.step 20) (Go0 ?_)
   by_cases h18 : DiceM.next d.step.step 20 = 18
   ·refine Br.yes (by simp [h18]) (Go0 ?_)
    refine ⟨_, _, ?_, rfl, rfl⟩
    have e1 : cmdM d blocks = ⟨0, 1 + d.next 4, blocks, ByteArray.empty⟩ := by simp [cmdM, QaU, h2, h4', h18]
    have e2 : cmdD d blocks = DiceM.step d.step.step := by simp [cmdD, QaU, h2]
    rw [e1, e2]
    exact RM.w0
   ·refine Br.no (by simp [h18]) (Go0 ?_)
    by_cases h19 : DiceM.next d.step.step 20 = 19
    ·refine Br.yes (by simp [h19]) (Go0 ?_)
     refine ⟨_, _, ?_, rfl, rfl⟩
     have e1 : cmdM d blocks = ⟨0, 1 + d.next 4, 0, ⟨#[97, 98, 99]⟩⟩ := by simp [cmdM, QaU, h2, h4', h19]
     have e2 : cmdD d blocks = DiceM.step d.step.step := by simp [cmdD, QaU, h2]
     rw [e1, e2]
     exact RM.w0
    ·refine Br.no (by simp [h19]) (Go0 ?_)
     refine ⟨_, _, ?_, rfl, rfl⟩
     have e1 : cmdM d blocks = ⟨0, 1 + d.next 4, 0, ByteArray.empty⟩ := by simp [cmdM, QaU, h2, h4', h18, h19]
     have e2 : cmdD d blocks = DiceM.step d.step.step := by simp [cmdD, QaU, h2]
     rw [e1, e2]
     exact RM.w0
  ·refine Br.no (by simp [h4']) (Go0 ?_)
   refine CallN.autoQ [0] Ql (Qm d.step.step hd.step.step 20) (Go0 ?_)
   by_cases h18 : DiceM.next d.step.step 20 = 18
   ·refine Br.yes (by simp [h18]) (Go0 ?_)
    refine ⟨_, _, ?_, rfl, rfl⟩
    have e1 : cmdM d blocks = ⟨0, 1 + d.next 4, blocks, ByteArray.empty⟩ := by simp [cmdM, QaU, h2, h4', h18]
    have e2 : cmdD d blocks = DiceM.step d.step.step := by simp [cmdD, QaU, h2]
    rw [e1, e2]
    exact RM.w0
   ·refine Br.no (by simp [h18]) (Go0 ?_)
    by_cases h19 : DiceM.next d.step.step 20 = 19
    ·refine Br.yes (by simp [h19]) (Go0 ?_)
     refine ⟨_, _, ?_, rfl, rfl⟩
     have e1 : cmdM d blocks = ⟨0, 1 + d.next 4, (d.step.next blocks), ⟨#[97, 98, 99]⟩⟩ := by simp [cmdM, QaU, h2, h4', h19]
     have e2 : cmdD d blocks = DiceM.step d.step.step := by simp [cmdD, QaU, h2]
     rw [e1, e2]
     exact RM.w0
    ·refine Br.no (by simp [h19]) (Go0 ?_)
     refine ⟨_, _, ?_, rfl, rfl⟩
     have e1 : cmdM d blocks = ⟨0, 1 + d.next 4, (d.step.next blocks), ByteArray.empty⟩ := by simp [cmdM, QaU, h2, h4', h18, h19]
     have e2 : cmdD d blocks = DiceM.step d.step.step := by simp [cmdD, QaU, h2]
     rw [e1, e2]
     exact RM.w0
theorem QmM : HB 25 := hB Tryz.func25
structure Ev (s0 s : St) (d : DiceM) (k : Nat) : Prop where
 val : Val s
 hist : Hist s
 up : Up s0 s (2 * k)
 sm : s.small
 all : Qu s.map = true → AllS s.map (allM s.map)
 ok : d.ok
theorem Ev.next {s0 s t : St} {d d' : DiceM} {k n : Nat} (h : Ev s0 s d k) (hv : Val t) (hh : Hist t) (hu : Up s t n) (hn : n ≤ 2) (hd : d'.ok) (h0 : s0.evs.length = 0) (hk : k < 100) : Ev s0 t d' (k + 1) := by
 have h1 := h.up.evs
 have h2 := hu.evs
 have h3 := h.up.trans hu
 refine ⟨hv, hh, ⟨h3.eq, h3.rings, h3.works, om⟩, hu.small h.sm hv om, ?_, hd⟩
 rw [hu.map]
 exact h.all
end Go.Proofs
end
