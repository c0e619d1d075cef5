/- Contracts, lemmas; no condition. -/
import Derived.Test.YtmollgldghpbkaaGreatKsV
set_option linter.all false
open Go Go.Am
namespace Go.Proofs
theorem QnP (x : Dev) (hx : x.small) (what at_ by_ : Int) : PS 43 [x.s, .c (.int .i64 what), .c (.int .i64 at_), .c (.int .i64 by_)] (oddD x what at_ by_).s := by
 refine PSpec.rm ?_
 refine ov hΓ Tryz.func43 98 0 [.cell 8 29] Tryz.ntmps43 Tryz.results43 ?_
 have hz := hx.z
 refine Go0 ?_
 have z0 : ∀ (i j : Nat), appG (QaC 3 (repL 0 [.int .i64 0, .int .i64 0, .nils])) 0 (QaK x.zones) i j = QaK x.zones i j := fun i j => Qlx (f := Zone.cell) j
 refine Br.of (fun h=>Go0 ?_) (fun h=>Go0 ?_)
 ·rw [show oddD x what at_ by_ = x from if_pos om]
  refine RM.rg 2 (g' := QaK x.zones) rfl (fun i _ j _ => z0 i j) rfl ?_
  refine RM.fz 2 rfl (Nat.zero_le _) (fun _ _ _ _ => (by first | exact rfl | exact QaP _ _ | exact QbI _ _ _ | exact QiA _ _ _)) ?_; refine RM.wkW ?_ ?_ (Nat.zero_le _) <;> (first|exact wb0|refine wb1 ?_|refine wb2 ?_ ?_|refine wb3 ?_ ?_ ?_|refine wb4 ?_ ?_ ?_ ?_)
 ·refine Dr.mvK [4, 8, 1, 2, 3] [] [.vr [.int .i64 x.size, .int .i64 x.maxOpen, .int .i64 x.maxActive, .sl 2 3 x.zones.length x.zones.length false], .vr dev0.cells, .arr 117 3 x.zones.length (QaK x.zones)] ?_ ?_
  ·refine Mv.k1 ?_
   intro i hi j hj
   exact WC.eq (z0 i j) (QbI _ _ _)
  have hm := Qq5 (x := at_) (n := x.zones.length) om om
  have hk : (modI at_ x.zones.length).toNat < x.zones.length := by omega
  have h9 := Qq5 (x := what) (n := 9) om om
  have hN : ¬ x.zones.length = 0 := by omega
  have e : oddD x what at_ by_ = (if modI what 9 = 0 then _ else _) := if_neg hN
  rw [e]
  refine Dr.mk hΓ hMix (by kernel_rfl) (Go0 ?_)
  refine CallP.auto QeW (QeY at_ x.zones.length ) (Go0 ?_)
  refine CallN.pureA QeW (QeY what 9 ) (Go0 ?_)
  refine Br.of (fun m0=>Go0 ?_) (fun m0=>Go0 ?_)
  ·rw [if_pos m0]
   refine CallN.pureA QeW (QeY by_ 8 ) (Go0 ?_)
   refine RM.rg 2 (g' := QaK _) rfl (fun i _ j hj => QmK hk _ i j hj) rfl ?_
   refine RM.fz 2 rfl (Nat.zero_le _) (fun _ _ _ _ => (by first | exact rfl | exact QaP _ _ | exact QbI _ _ _ | exact QiA _ _ _)) ?_; refine RM.wkW ?_ ?_ (Nat.zero_le _) <;> (first|exact wb0|refine wb1 ?_|refine wb2 ?_ ?_|refine wb3 ?_ ?_ ?_|refine wb4 ?_ ?_ ?_ ?_)
  ·rw [if_neg m0]
   refine Br.of (fun m1=>Go0 ?_) (fun m1=>Go0 ?_)
   ·rw [if_pos m1]
    refine Dr.mk hΓ hMix (by kernel_rfl) (Go0 ?_)
    refine Frc.mk (.c (.int .i64 (x.zones.getD (modI at_ x.zones.length).toNat default).durable)) rfl (Go0 ?_)
    refine CallP.auto QeW (QeY by_ 5 ) (Go0 ?_)
    refine RM.rg 2 (g' := QaK _) rfl (fun i _ j hj => Qqk hk _ i j hj) rfl ?_
    refine RM.fz 2 rfl (Nat.zero_le _) (fun _ _ _ _ => (by first | exact rfl | exact QaP _ _ | exact QbI _ _ _ | exact QiA _ _ _)) ?_; refine RM.wkW ?_ ?_ (Nat.zero_le _) <;> (first|exact wb0|refine wb1 ?_|refine wb2 ?_ ?_|refine wb3 ?_ ?_ ?_|refine wb4 ?_ ?_ ?_ ?_)
   ·rw [if_neg m1]
    refine Br.of (fun m2=>Go0 ?_) (fun m2=>Go0 ?_)
    ·rw [if_pos m2]
     refine Frc.mk (.c (QbW (x.zones.getD (modI at_ x.zones.length).toNat default).sectors)) rfl ?_
     conv=>whnf
     have hs := hx.s (modI at_ x.zones.length).toNat
     refine Go0 ?_
     have hgs : ∀ a, a < 0 + (x.zones.getD (modI at_ x.zones.length).toNat default).sectors.length + 1 → appG (appG (QaC 1 (repL 0 [.str ByteArray.empty])) 0 fun i _ => .str ((x.zones.getD (modI at_ x.zones.length).toNat default).sectors.getD i ByteArray.empty)) (0 + (x.zones.getD (modI at_ x.zones.length).toNat default).sectors.length) (QaC 1 [.str ⟨#[120]⟩]) a 0 = .str (((x.zones.getD (modI at_ x.zones.length).toNat default).sectors ++ ([⟨#[120]⟩] : List ByteArray)).getD a ByteArray.empty) := by
      intro a ha
      rw [Nat.zero_add] at ha ⊢
      exact Qeq _ _ _ _ _ ha
     have key := Qn0 (L := x.zones) (id := 3) (x := false) hk (by simp) hgs
     refine RM.fz 3 rfl (Nat.zero_le _) (fun i hi j hj => ?_) ?_
     ·have : j = 0 := by have hj' : j < 1 := hj; omega
      subst this
      exact (congrArg C.imm (hgs i hi)).trans rfl
     refine RM.fz 2 rfl (Nat.zero_le _) (fun i _ j hj => (key i j hj).2) ?_
     refine RM.w1 ?_
     exact WC.fz rfl (by simp) (fun i _ j hj => (key i j hj).1) (fun e => by cases e)
    ·rw [if_neg m2]
     refine Br.of (fun m3=>Go0 ?_) (fun m3=>Go0 ?_)
     ·rw [if_pos m3]
      refine Dr.mk hΓ hMix (by kernel_rfl) (Go0 ?_)
      refine CallP.auto QeW (QeY by_ 5 ) (Go0 ?_)
      refine RM.fz 2 rfl (Nat.zero_le _) (fun _ _ _ _ => (by first | exact rfl | exact QaP _ _ | exact QbI _ _ _ | exact QiA _ _ _)) ?_; refine RM.wkW ?_ ?_ (Nat.zero_le _) <;> (first|exact wb0|refine wb1 ?_|refine wb2 ?_ ?_|refine wb3 ?_ ?_ ?_|refine wb4 ?_ ?_ ?_ ?_)
     ·rw [if_neg m3]
      refine Br.of (fun m4=>Go0 ?_) (fun m4=>Go0 ?_)
      ·rw [if_pos m4]
       refine CallN.pureA QeW (QeY by_ 5 ) (Go0 ?_)
       refine RM.fz 2 rfl (Nat.zero_le _) (fun _ _ _ _ => (by first | exact rfl | exact QaP _ _ | exact QbI _ _ _ | exact QiA _ _ _)) ?_; refine RM.wkW ?_ ?_ (Nat.zero_le _) <;> (first|exact wb0|refine wb1 ?_|refine wb2 ?_ ?_|refine wb3 ?_ ?_ ?_|refine wb4 ?_ ?_ ?_ ?_)
      ·rw [if_neg m4]
       refine Br.of (fun m5=>Go0 ?_) (fun m5=>Go0 ?_)
       ·rw [if_pos m5]
        refine CallN.pureA QeW (QeY by_ 6 ) (Go0 ?_)
        refine RM.fz 2 rfl (Nat.zero_le _) (fun _ _ _ _ => (by first | exact rfl | exact QaP _ _ | exact QbI _ _ _ | exact QiA _ _ _)) ?_; refine RM.wkW ?_ ?_ (Nat.zero_le _) <;> (first|exact wb0|refine wb1 ?_|refine wb2 ?_ ?_|refine wb3 ?_ ?_ ?_|refine wb4 ?_ ?_ ?_ ?_)
       ·rw [if_neg m5]
        refine Br.of (fun m6=>Go0 ?_) (fun m6=>Go0 ?_)
        ·rw [if_pos m6]
         exact RM.i0
        ·rw [if_neg m6]
         refine Br.of (fun m7=>Go0 ?_) (fun m7=>Go0 ?_)
         ·rw [if_pos m7]
          have key : ∀ i j, j < 3 → leF (updG (updG (updG (QaK x.zones) (modI at_ x.zones.length).toNat 0 [.int .i64 5]) (modI at_ x.zones.length).toNat 2 [.nils]) (modI at_ x.zones.length).toNat 1 [.int .i64 0] i j) (QaK (x.zones.set (modI at_ x.zones.length).toNat ⟨5, 0, []⟩) i j) ∧
            (updG (updG (updG (QaK x.zones) (modI at_ x.zones.length).toNat 0 [.int .i64 5]) (modI at_ x.zones.length).toNat 2 [.nils]) (modI at_ x.zones.length).toNat 1 [.int .i64 0] i j).imm = true := by
           intro i j hj
           rw [QpU _ _ _ _ _ hk, Qcb, Qcb, Qcb]
           by_cases c : i = (modI at_ x.zones.length).toNat
           ·match j, hj with
            | 0, _ => simp only [c]; exact ⟨leF.refl, rfl⟩
            | 1, _ => simp only [c]; exact ⟨leF.refl, rfl⟩
            | 2, _ => simp only [c]; exact ⟨leF.nil rfl, rfl⟩
           ·simp only [c, false_and, if_false]
            exact ⟨leF.refl, QbI _ _ _⟩
          refine RM.fz 2 rfl (Nat.zero_le _) (fun i _ j hj => (key i j hj).2) ?_
          refine RM.w1 ?_
          exact WC.fz rfl (by simp) (fun i _ j hj => (key i j hj).1) (fun e => by cases e)
         ·rw [if_neg m7]
          refine RM.fz 2 rfl (Nat.zero_le _) (fun _ _ _ _ => (by first | exact rfl | exact QaP _ _ | exact QbI _ _ _ | exact QiA _ _ _)) ?_; refine RM.wkW ?_ ?_ (Nat.zero_le _) <;> (first|exact wb0|refine wb1 ?_|refine wb2 ?_ ?_|refine wb3 ?_ ?_ ?_|refine wb4 ?_ ?_ ?_ ?_)
theorem QnL : HB 43 := hB Tryz.func43
end Go.Proofs
