/- Part of the proofs of laws of this seat: contracts and plain lemmas; no condition is added to a statement. -/
import Derived.Test.YtmollgldghpbkaaGreatCtA
import Derived.Test.YtmollgldghpbkaaGreatZR
set_option linter.unusedSimpArgs false
set_option linter.unusedVariables false
section
open Go Go.Am
namespace Go.Proofs
set_option maxRecDepth 20000
theorem intsRep (v : Int) (n : Nat) (i : Nat) (hi : i < n) (j : Nat) : intsG .i64 (List.replicate n v) i j = .int .i64 v := by
  simp [intsG, rowG, intC, List.getD, hi]
theorem zeroInts {n : Nat} {i : Nat} (hi : i < n) {j : Nat} (hj : j < 1) {z : List C} (hz : z = [.int .i64 0]) : zeroG z i j = intsG .i64 (List.replicate n 0) i j := by
  rw [intsRep 0 n i hi j]
  subst hz
  have : j = 0 := by omega
  subst this
  rfl
theorem repLen {α : Type} (x : α) (n : Int) : n.toNat = (List.replicate n.toNat x).length := by simp
theorem repNil {n : Nat} {i : Nat} : ((List.replicate n ([] : List Ent)).getD i default).length = 0 := by
  by_cases h : i < n
  · simp [List.getD, h]
  · simp [List.getD, h, Nat.le_of_not_lt h]; rfl
theorem l2pnew_spec (n : Int) (h1 : 1 ≤ n) (h2 : n ≤ 8) : PSpec Tryz.prog 54 [.c (.int .i64 n)] (.t [.inr [shardsC (List.replicate n.toNat [])], .inl (.int .i64 0)]) := by
  refine PSpec.rm ?_
  refine CSpec.of_vc hΓ Tryz.func54 rfl 14 0 [.cell 2 32, .tmp 3] Tryz.ntmps54 rfl (by rw [Tryz.results54]) rfl ?_
  conv => whnf
  repeat' ((first | refine Need.auto ?_ | refine Have.mk (fun _h => ?_)); conv => whnf)
  (first | refine Br.lt (fun h => ?_) (fun h => ?_) | refine Br.le (fun h => ?_) (fun h => ?_) | refine Br.gt (fun h => ?_) (fun h => ?_) | refine Br.ge (fun h => ?_) (fun h => ?_) | refine Br.eq (fun h => ?_) (fun h => ?_) | refine Br.ne (fun h => ?_) (fun h => ?_) | refine Br.not (fun h => ?_) (fun h => ?_) | (refine Br.mk (fun h => ?_) (fun h => ?_) <;> simp [-List.length_eq_zero_iff, -List.getD_eq_getElem?_getD] at h)) <;> (try simp only [Int.toNat_natCast] at h) <;> (conv => whnf)
  · omega
  · repeat' ((first | refine Need.auto ?_ | refine Have.mk (fun _h => ?_)); conv => whnf)
    refine RM.fz 1 rfl (Nat.zero_le _) (fun i _ j hj => ?_) ?_
    · have hj' : j < 1 := hj
      have : j = 0 := by omega
      subst this
      rfl
    refine RM.wkW ?_ ?_ (Nat.zero_le _)
    · exact WH.nil
    · refine WS.t (WTL.consL (WL.cons (WC.fz rfl (repLen _ _) (fun i _ j hj => ?_) (fun e => by cases e)) WL.nil) (WTL.consC (WC.imm rfl) WTL.nil))
      have hj' : j < 1 := hj
      have : j = 0 := by omega
      subst this
      exact leF.nil repNil
theorem l2pnew_body : HasBody Tryz.prog 54 := ⟨⟨Tryz.f54, Tryz.func54, rfl, by kernel_rfl⟩⟩
theorem livenew_spec (n : Int) (h1 : 1 ≤ n) (h2 : n ≤ 32) : PSpec Tryz.prog 55 [.c (.int .i64 n)] (.t [.inr [intsC (List.replicate n.toNat 0), intsC (List.replicate n.toNat 0)], .inl (.int .i64 0)]) := by
  refine PSpec.rm ?_
  refine CSpec.of_vc hΓ Tryz.func55 rfl 16 0 [.cell 2 34, .tmp 3] Tryz.ntmps55 rfl (by rw [Tryz.results55]) rfl ?_
  conv => whnf
  repeat' ((first | refine Need.auto ?_ | refine Have.mk (fun _h => ?_)); conv => whnf)
  (first | refine Br.lt (fun h => ?_) (fun h => ?_) | refine Br.le (fun h => ?_) (fun h => ?_) | refine Br.gt (fun h => ?_) (fun h => ?_) | refine Br.ge (fun h => ?_) (fun h => ?_) | refine Br.eq (fun h => ?_) (fun h => ?_) | refine Br.ne (fun h => ?_) (fun h => ?_) | refine Br.not (fun h => ?_) (fun h => ?_) | (refine Br.mk (fun h => ?_) (fun h => ?_) <;> simp [-List.length_eq_zero_iff, -List.getD_eq_getElem?_getD] at h)) <;> (try simp only [Int.toNat_natCast] at h) <;> (conv => whnf)
  · omega
  · repeat' ((first | refine Need.auto ?_ | refine Have.mk (fun _h => ?_)); conv => whnf)
    refine Dr.mkE hΓ hMix [4294967296] [] (by kernel_rfl) ?_; conv => whnf
    repeat' ((first | refine Need.auto ?_ | refine Have.mk (fun _h => ?_)); conv => whnf)
    refine RM.immW rfl ?_
    refine WS.t (WTL.consL (WL.cons (WC.leF rfl (leF.isl (repLen _ _) (fun i hi j hj => leF.of_eq (zeroInts hi hj rfl)) (fun e => by cases e))) (WL.cons (WC.leF rfl (leF.isl (repLen _ _) (fun i hi j hj => leF.of_eq (zeroInts hi hj rfl)) (fun e => by cases e))) WL.nil)) (WTL.consC (WC.imm rfl) WTL.nil))
theorem livenew_body : HasBody Tryz.prog 55 := ⟨⟨Tryz.f55, Tryz.func55, rfl, by kernel_rfl⟩⟩
def minG (k : Nat) : Nat → Nat → C := fun i _ => .int .i64 (if i < k then -1 else 0)
theorem min_zero {i j : Nat} {z : List C} (hz : z = [.int .i64 0]) (hj : j < 1) : zeroG z i j = minG 0 i j := by
  subst hz
  have : j = 0 := by omega
  subst this
  rfl
theorem min_set {k : Nat} {i j : Nat} (hj : j < 1) : updG (minG k) k 0 [.int .i64 (-1)] i j = minG (k + 1) i j := by
  rw [updG_one]
  unfold minG
  by_cases c : i = k
  · subst c
    rw [if_pos ⟨rfl, by omega⟩, if_pos (by omega)]
  · rw [if_neg (fun e => c e.1)]
    by_cases h : i < k
    · rw [if_pos h, if_pos (by omega)]
    · rw [if_neg h, if_neg (by omega)]
theorem min_all {n : Nat} {i j : Nat} (hi : i < n) : minG n i j = intsG .i64 (List.replicate n (-1)) i j := by
  rw [intsRep (-1) n i hi j]
  unfold minG
  rw [if_pos hi]
theorem locksnew_spec (n : Int) (h1 : 1 ≤ n) (h2 : n ≤ 8) : PSpec Tryz.prog 56 [.c (.int .i64 n)] (.t [.inr [intsC (List.replicate n.toNat (-1))], .inl (.int .i64 0)]) := by
  refine PSpec.rm ?_
  refine CSpec.of_vc hΓ Tryz.func56 rfl 26 0 [.cell 2 36, .tmp 3] Tryz.ntmps56 rfl (by rw [Tryz.results56]) rfl ?_
  conv => whnf
  repeat' ((first | refine Need.auto ?_ | refine Have.mk (fun _h => ?_)); conv => whnf)
  (first | refine Br.lt (fun h => ?_) (fun h => ?_) | refine Br.le (fun h => ?_) (fun h => ?_) | refine Br.gt (fun h => ?_) (fun h => ?_) | refine Br.ge (fun h => ?_) (fun h => ?_) | refine Br.eq (fun h => ?_) (fun h => ?_) | refine Br.ne (fun h => ?_) (fun h => ?_) | refine Br.not (fun h => ?_) (fun h => ?_) | (refine Br.mk (fun h => ?_) (fun h => ?_) <;> simp [-List.length_eq_zero_iff, -List.getD_eq_getElem?_getD] at h)) <;> (try simp only [Int.toNat_natCast] at h) <;> (conv => whnf)
  · omega
  · repeat' ((first | refine Need.auto ?_ | refine Have.mk (fun _h => ?_)); conv => whnf)
    refine Lp.mkK hΓ (ι := Nat) [16, 2, 4] (fun i => [(17, .c (.int .i64 i))]) (fun k => [.vr [.nils], .arr 3 1 n.toNat (minG k), .vr [.sl 1 1 n.toNat n.toNat true]]) (fun i => i ≤ n.toNat) (fun i => n.toNat - i) 0 (Nat.zero_le _) ?_ ?_
    · refine Mv.mkW ?_ ?_ (Nat.le_of_ble_eq_true rfl) <;> (repeat' (first | exact WA.nil | refine WA.cons rfl ?_ ?_ | exact WB.nil | refine WB.cons ?_ ?_ | exact WT.nil | refine WT.cons ?_ ?_ | exact WH.nil | refine WH.cons ?_ ?_ | exact WR.nil | refine WR.cons rfl ?_ ?_ | refine WO.vr ?_ | exact WO.dead | exact WO.mpS | refine WO.mpA ?_ | exact WO.arrPA (fun i j => plainRow _ _ _) | refine WO.arrA ?_ | exact WS.u | refine WS.c ?_ | refine WS.a ?_ | refine WS.t ?_ | exact WL.nil | refine WL.cons ?_ ?_ | exact WTL.nil | refine WTL.consC ?_ ?_ | refine WTL.consL ?_ ?_ | exact WC.nils | exact WC.nil rfl | exact WC.nilp | refine WC.fzA | exact WC.ptr rfl (Nat.le_of_ble_eq_true rfl) | exact WC.mpr rfl (Nat.le_of_ble_eq_true rfl) | refine WC.slA | refine WC.intA | refine WC.int ?_ | refine WC.boolA | refine WC.bool ?_ | refine WC.strA | refine WC.str ?_ | exact WC.imm rfl))
      exact fun i _ j hj => WC.eq (min_zero rfl hj) rfl
    · intro k hk
      conv => whnf
      repeat' ((first | refine Need.auto ?_ | refine Have.mk (fun _h => ?_)); conv => whnf)
      (first | refine Br.lt (fun h3 => ?_) (fun h3 => ?_) | refine Br.le (fun h3 => ?_) (fun h3 => ?_) | refine Br.gt (fun h3 => ?_) (fun h3 => ?_) | refine Br.ge (fun h3 => ?_) (fun h3 => ?_) | refine Br.eq (fun h3 => ?_) (fun h3 => ?_) | refine Br.ne (fun h3 => ?_) (fun h3 => ?_) | refine Br.not (fun h3 => ?_) (fun h3 => ?_) | refine Br.mk (fun h3 => ?_) (fun h3 => ?_)) <;> (try simp only [Int.toNat_natCast] at h3) <;> (conv => whnf)
      · repeat' ((first | refine Need.auto ?_ | refine Have.mk (fun _h => ?_)); conv => whnf)
        have w0 := wrap_id (↑k + 1) (by omega) (by omega)
        refine ⟨k + 1, by omega, by omega, ?_⟩
        refine Mv.mkW ?_ ?_ (Nat.le_of_ble_eq_true rfl) <;> (repeat' (first | exact WA.nil | refine WA.cons rfl ?_ ?_ | exact WB.nil | refine WB.cons ?_ ?_ | exact WT.nil | refine WT.cons ?_ ?_ | exact WH.nil | refine WH.cons ?_ ?_ | exact WR.nil | refine WR.cons rfl ?_ ?_ | refine WO.vr ?_ | exact WO.dead | exact WO.mpS | refine WO.mpA ?_ | exact WO.arrPA (fun i j => plainRow _ _ _) | refine WO.arrA ?_ | exact WS.u | refine WS.c ?_ | refine WS.a ?_ | refine WS.t ?_ | exact WL.nil | refine WL.cons ?_ ?_ | exact WTL.nil | refine WTL.consC ?_ ?_ | refine WTL.consL ?_ ?_ | exact WC.nils | exact WC.nil rfl | exact WC.nilp | refine WC.fzA | exact WC.ptr rfl (Nat.le_of_ble_eq_true rfl) | exact WC.mpr rfl (Nat.le_of_ble_eq_true rfl) | refine WC.slA | refine WC.intA | refine WC.int ?_ | refine WC.boolA | refine WC.bool ?_ | refine WC.strA | refine WC.str ?_ | exact WC.imm rfl))
        exact fun i _ j hj => WC.eq (min_set hj) rfl
      · repeat' ((first | refine Need.auto ?_ | refine Have.mk (fun _h => ?_)); conv => whnf)
        have : k = n.toNat := by omega
        subst this
        refine RM.rg 1 (g' := intsG .i64 (List.replicate n.toNat (-1))) rfl (fun i hi j hj => min_all hi) rfl ?_
        refine RM.fz 1 rfl (Nat.zero_le _) (fun _ _ _ _ => rfl) ?_
        refine RM.wkW ?_ ?_ (Nat.zero_le _)
        · exact WH.nil
        · refine WS.t (WTL.consL (WL.cons (WC.fz rfl (repLen _ _) (fun i hi j hj => leF.refl) (fun e => by cases e)) WL.nil) (WTL.consC (WC.imm rfl) WTL.nil))
theorem locksnew_body : HasBody Tryz.prog 56 := ⟨⟨Tryz.f56, Tryz.func56, rfl, by kernel_rfl⟩⟩
theorem intsSnoc {l : List Int} {x : Int} {t : List C} {n i j : Nat} (hn : n = l.length) (hi : i < l.length + 1) (hj : j < 1) : appG (intsG .i64 l) n (flatG 1 (C.int .i64 x :: t)) i j = intsG .i64 (l ++ [x]) i j :=
  rowG_snoc (f := intC .i64) hn (fun j hj => by
    have : j = 0 := by omega
    subst this; rfl) hi hj
theorem repSnoc {k : Nat} {x : Int} {t : List C} {i j : Nat} (hi : i < k + 1) (hj : j < 1) : appG (intsG .i64 (List.replicate k x)) k (flatG 1 (C.int .i64 x :: t)) i j = intsG .i64 (List.replicate (k + 1) x) i j := by
  rw [intsSnoc (by simp) (by simpa using hi) hj, List.replicate_succ']
theorem epochnew_spec (n : Int) (h1 : 1 ≤ n) (h2 : n ≤ 4) : PSpec Tryz.prog 57 [.c (.int .i64 n)] (.t [.inr [.int .i64 0, intsC (List.replicate n.toNat (-1)), retC []], .inl (.int .i64 0)]) := by
  refine PSpec.rm ?_
  refine CSpec.of_vc hΓ Tryz.func57 rfl 23 0 [.cell 2 39, .tmp 3] Tryz.ntmps57 rfl (by rw [Tryz.results57]) rfl ?_
  conv => whnf
  repeat' ((first | refine Need.auto ?_ | refine Have.mk (fun _h => ?_)); conv => whnf)
  (first | refine Br.lt (fun h => ?_) (fun h => ?_) | refine Br.le (fun h => ?_) (fun h => ?_) | refine Br.gt (fun h => ?_) (fun h => ?_) | refine Br.ge (fun h => ?_) (fun h => ?_) | refine Br.eq (fun h => ?_) (fun h => ?_) | refine Br.ne (fun h => ?_) (fun h => ?_) | refine Br.not (fun h => ?_) (fun h => ?_) | (refine Br.mk (fun h => ?_) (fun h => ?_) <;> simp [-List.length_eq_zero_iff, -List.getD_eq_getElem?_getD] at h)) <;> (try simp only [Int.toNat_natCast] at h) <;> (conv => whnf)
  · omega
  · repeat' ((first | refine Need.auto ?_ | refine Have.mk (fun _h => ?_)); conv => whnf)
    refine Lp.mkK hΓ (ι := Nat) [2, 4, 13] (fun i => [(14, .c (.int .i64 i))]) (fun k => [.vr [.int .i64 0, .nils, .nils], .vr [.int .i64 0, .sl 2 1 k k false, .nils], .arr 3 1 k (intsG .i64 (List.replicate k (-1)))]) (fun i => i ≤ n.toNat) (fun i => n.toNat - i) 0 (Nat.zero_le _) ?_ ?_
    · refine (Mv.reserveO 1 1 3 1 (intsG .i64 []) rfl rfl rfl rfl).trans ?_
      refine Mv.mkW ?_ ?_ (Nat.le_of_ble_eq_true rfl) <;> (repeat' (first | exact WA.nil | refine WA.cons rfl ?_ ?_ | exact WB.nil | refine WB.cons ?_ ?_ | exact WT.nil | refine WT.cons ?_ ?_ | exact WH.nil | refine WH.cons ?_ ?_ | exact WR.nil | refine WR.cons rfl ?_ ?_ | refine WO.vr ?_ | exact WO.dead | exact WO.mpS | refine WO.mpA ?_ | exact WO.arrPA (fun i j => plainRow _ _ _) | refine WO.arrA ?_ | exact WS.u | refine WS.c ?_ | refine WS.a ?_ | refine WS.t ?_ | exact WL.nil | refine WL.cons ?_ ?_ | exact WTL.nil | refine WTL.consC ?_ ?_ | refine WTL.consL ?_ ?_ | exact WC.nils | exact WC.nil rfl | exact WC.nilp | refine WC.fzA | exact WC.ptr rfl (Nat.le_of_ble_eq_true rfl) | exact WC.mpr rfl (Nat.le_of_ble_eq_true rfl) | refine WC.slA | refine WC.intA | refine WC.int ?_ | refine WC.boolA | refine WC.bool ?_ | refine WC.strA | refine WC.str ?_ | exact WC.imm rfl))
      intro i hi; omega
    · intro k hk
      conv => whnf
      repeat' ((first | refine Need.auto ?_ | refine Have.mk (fun _h => ?_)); conv => whnf)
      (first | refine Br.lt (fun h3 => ?_) (fun h3 => ?_) | refine Br.le (fun h3 => ?_) (fun h3 => ?_) | refine Br.gt (fun h3 => ?_) (fun h3 => ?_) | refine Br.ge (fun h3 => ?_) (fun h3 => ?_) | refine Br.eq (fun h3 => ?_) (fun h3 => ?_) | refine Br.ne (fun h3 => ?_) (fun h3 => ?_) | refine Br.not (fun h3 => ?_) (fun h3 => ?_) | refine Br.mk (fun h3 => ?_) (fun h3 => ?_)) <;> (try simp only [Int.toNat_natCast] at h3) <;> (conv => whnf)
      · repeat' ((first | refine Need.auto ?_ | refine Have.mk (fun _h => ?_)); conv => whnf)
        have w0 := wrap_id (↑k + 1) (by omega) (by omega)
        refine ⟨k + 1, by omega, by omega, ?_⟩
        refine Mv.mkW ?_ ?_ (Nat.le_of_ble_eq_true rfl) <;> (repeat' (first | exact WA.nil | refine WA.cons rfl ?_ ?_ | exact WB.nil | refine WB.cons ?_ ?_ | exact WT.nil | refine WT.cons ?_ ?_ | exact WH.nil | refine WH.cons ?_ ?_ | exact WR.nil | refine WR.cons rfl ?_ ?_ | refine WO.vr ?_ | exact WO.dead | exact WO.mpS | refine WO.mpA ?_ | exact WO.arrPA (fun i j => plainRow _ _ _) | refine WO.arrA ?_ | exact WS.u | refine WS.c ?_ | refine WS.a ?_ | refine WS.t ?_ | exact WL.nil | refine WL.cons ?_ ?_ | exact WTL.nil | refine WTL.consC ?_ ?_ | refine WTL.consL ?_ ?_ | exact WC.nils | exact WC.nil rfl | exact WC.nilp | refine WC.fzA | exact WC.ptr rfl (Nat.le_of_ble_eq_true rfl) | exact WC.mpr rfl (Nat.le_of_ble_eq_true rfl) | refine WC.slA | refine WC.intA | refine WC.int ?_ | refine WC.boolA | refine WC.bool ?_ | refine WC.strA | refine WC.str ?_ | exact WC.imm rfl))
        exact fun i hi j hj => WC.eq (repSnoc hi hj) rfl
      · repeat' ((first | refine Need.auto ?_ | refine Have.mk (fun _h => ?_)); conv => whnf)
        have : k = n.toNat := by omega
        subst this
        refine RM.fz 2 rfl (Nat.zero_le _) (fun _ _ _ _ => rfl) ?_
        refine RM.wkW ?_ ?_ (Nat.zero_le _)
        · exact WH.nil
        · refine WS.t (WTL.consL (WL.cons (WC.imm rfl) (WL.cons (WC.fz rfl (repLen _ _) (fun i hi j hj => leF.refl) (fun e => by cases e)) (WL.cons (WC.nil rfl) WL.nil))) (WTL.consC (WC.imm rfl) WTL.nil))
theorem epochnew_body : HasBody Tryz.prog 57 := ⟨⟨Tryz.f57, Tryz.func57, rfl, by kernel_rfl⟩⟩
end Go.Proofs
end

section
open Go Go.Am
namespace Go.Proofs
set_option maxRecDepth 20000
theorem ringOk_new (n : Int) (h1 : 1 ≤ n) (h2 : n ≤ 8) : ringOk ⟨n, []⟩ = true := by
  unfold ringOk
  simp
  omega
def ringTo (l : List Req) (k : Nat) : Prop := ∀ i, i < k → 0 ≤ (l.getD i default).serial ∧ (0 < i → (l.getD (i - 1) default).serial < (l.getD i default).serial)
def lastM (l : List Req) (k : Nat) : Int := if k = 0 then -1 else (l.getD (k - 1) default).serial
theorem ringOk_iff {r : Rng} : ringOk r = true ↔ (1 ≤ r.depth ∧ r.depth ≤ 8 ∧ (r.items.length : Int) ≤ r.depth) ∧ ringTo r.items r.items.length := by
  unfold ringOk ringTo
  rw [Bool.and_eq_true, decide_eq_true_eq, decide_eq_true_eq]
theorem bool_no {b : Bool} (h : ¬ b = true) : b = false := by cases b; rfl; exact absurd rfl h
theorem lastM_lt {l : List Req} {k : Nat} (h : ringTo l k) : -1 ≤ lastM l k := by
  unfold lastM
  split
  · omega
  · have := (h (k - 1) (by omega)).1; omega
theorem ringTo_step {l : List Req} {k : Nat} (h : ringTo l k) (hk : lastM l k < (l.getD k default).serial) : ringTo l (k + 1) := by
  refine all_step h ⟨?_, fun h0 => ?_⟩
  · have := lastM_lt h; omega
  · unfold lastM at hk
    rw [if_neg (by omega)] at hk
    exact hk
theorem ringTo_no {l : List Req} {k : Nat} (hk : k < l.length) (h : (l.getD k default).serial ≤ lastM l k) : ¬ ringTo l l.length := fun e => by
  have := e k hk
  unfold lastM at h
  split at h
  · omega
  · have := this.2 (by omega); omega
theorem ringvalid_spec (r : Rng) (hr : r.items.length ≤ 1000000) : PSpec Tryz.prog 137 [.a r.cells] (.c (.bool (ringOk r))) := by
  refine PSpec.rm ?_
  refine CSpec.of_vc hΓ Tryz.func137 rfl 36 0 [.tmp 2] Tryz.ntmps137 rfl (by rw [Tryz.results137]) rfl ?_
  conv => whnf
  repeat' ((first | refine Need.auto ?_ | refine Have.mk (fun _h => ?_)); conv => whnf)
  (first | refine Br.lt (fun h => ?_) (fun h => ?_) | refine Br.le (fun h => ?_) (fun h => ?_) | refine Br.gt (fun h => ?_) (fun h => ?_) | refine Br.ge (fun h => ?_) (fun h => ?_) | refine Br.eq (fun h => ?_) (fun h => ?_) | refine Br.ne (fun h => ?_) (fun h => ?_) | refine Br.not (fun h => ?_) (fun h => ?_) | (refine Br.mk (fun h => ?_) (fun h => ?_) <;> simp [-List.length_eq_zero_iff, -List.getD_eq_getElem?_getD] at h)) <;> (try simp only [Int.toNat_natCast] at h) <;> (conv => whnf)
  · rw [bool_no (fun e => by have := (ringOk_iff.1 e).1; omega : ¬ ringOk r = true)]
    refine RM.immW rfl ?_; (repeat' (first | exact WA.nil | refine WA.cons rfl ?_ ?_ | exact WB.nil | refine WB.cons ?_ ?_ | exact WT.nil | refine WT.cons ?_ ?_ | exact WH.nil | refine WH.cons ?_ ?_ | exact WR.nil | refine WR.cons rfl ?_ ?_ | refine WO.vr ?_ | exact WO.dead | exact WO.mpS | refine WO.mpA ?_ | exact WO.arrPA (fun i j => plainRow _ _ _) | refine WO.arrA ?_ | exact WS.u | refine WS.c ?_ | refine WS.a ?_ | refine WS.t ?_ | exact WL.nil | refine WL.cons ?_ ?_ | exact WTL.nil | refine WTL.consC ?_ ?_ | refine WTL.consL ?_ ?_ | exact WC.nils | exact WC.nil rfl | exact WC.nilp | refine WC.fzA | exact WC.ptr rfl (Nat.le_of_ble_eq_true rfl) | exact WC.mpr rfl (Nat.le_of_ble_eq_true rfl) | refine WC.slA | refine WC.intA | refine WC.int ?_ | refine WC.boolA | refine WC.bool ?_ | refine WC.strA | refine WC.str ?_ | exact WC.imm rfl))
  · repeat' ((first | refine Need.auto ?_ | refine Have.mk (fun _h => ?_)); conv => whnf)
    refine Lp.mkK hΓ (ι := Nat) [23, 24] (fun k => [(25, .c (.int .i64 k)), (3, .c (.int .i64 (lastM r.items k)))]) (fun _ => [.vr r.cells]) (fun k => k ≤ r.items.length ∧ ringTo r.items k) (fun k => r.items.length - k) 0 ⟨Nat.zero_le _, fun i hi => absurd hi (Nat.not_lt_zero _)⟩ ?_ ?_
    · refine Mv.mkW ?_ ?_ (Nat.le_of_ble_eq_true rfl) <;> (repeat' (first | exact WA.nil | refine WA.cons rfl ?_ ?_ | exact WB.nil | refine WB.cons ?_ ?_ | exact WT.nil | refine WT.cons ?_ ?_ | exact WH.nil | refine WH.cons ?_ ?_ | exact WR.nil | refine WR.cons rfl ?_ ?_ | refine WO.vr ?_ | exact WO.dead | exact WO.mpS | refine WO.mpA ?_ | exact WO.arrPA (fun i j => plainRow _ _ _) | refine WO.arrA ?_ | exact WS.u | refine WS.c ?_ | refine WS.a ?_ | refine WS.t ?_ | exact WL.nil | refine WL.cons ?_ ?_ | exact WTL.nil | refine WTL.consC ?_ ?_ | refine WTL.consL ?_ ?_ | exact WC.nils | exact WC.nil rfl | exact WC.nilp | refine WC.fzA | exact WC.ptr rfl (Nat.le_of_ble_eq_true rfl) | exact WC.mpr rfl (Nat.le_of_ble_eq_true rfl) | refine WC.slA | refine WC.intA | refine WC.int ?_ | refine WC.boolA | refine WC.bool ?_ | refine WC.strA | refine WC.str ?_ | exact WC.imm rfl))
    · rintro k ⟨hk, hk2⟩
      conv => whnf
      repeat' ((first | refine Need.auto ?_ | refine Have.mk (fun _h => ?_)); conv => whnf)
      (first | refine Br.lt (fun h2 => ?_) (fun h2 => ?_) | refine Br.le (fun h2 => ?_) (fun h2 => ?_) | refine Br.gt (fun h2 => ?_) (fun h2 => ?_) | refine Br.ge (fun h2 => ?_) (fun h2 => ?_) | refine Br.eq (fun h2 => ?_) (fun h2 => ?_) | refine Br.ne (fun h2 => ?_) (fun h2 => ?_) | refine Br.not (fun h2 => ?_) (fun h2 => ?_) | refine Br.mk (fun h2 => ?_) (fun h2 => ?_)) <;> (try simp only [Int.toNat_natCast] at h2) <;> (conv => whnf)
      · repeat' ((first | refine Need.auto ?_ | refine Have.mk (fun _h => ?_)); conv => whnf)
        (first | refine Br.lt (fun h3 => ?_) (fun h3 => ?_) | refine Br.le (fun h3 => ?_) (fun h3 => ?_) | refine Br.gt (fun h3 => ?_) (fun h3 => ?_) | refine Br.ge (fun h3 => ?_) (fun h3 => ?_) | refine Br.eq (fun h3 => ?_) (fun h3 => ?_) | refine Br.ne (fun h3 => ?_) (fun h3 => ?_) | refine Br.not (fun h3 => ?_) (fun h3 => ?_) | refine Br.mk (fun h3 => ?_) (fun h3 => ?_)) <;> (try simp only [Int.toNat_natCast] at h3) <;> (conv => whnf)
        · repeat' ((first | refine Need.auto ?_ | refine Have.mk (fun _h => ?_)); conv => whnf)
          rw [bool_no (fun e => ringTo_no (by omega) h3 (ringOk_iff.1 e).2 : ¬ ringOk r = true)]
          refine RM.immW rfl ?_; (repeat' (first | exact WA.nil | refine WA.cons rfl ?_ ?_ | exact WB.nil | refine WB.cons ?_ ?_ | exact WT.nil | refine WT.cons ?_ ?_ | exact WH.nil | refine WH.cons ?_ ?_ | exact WR.nil | refine WR.cons rfl ?_ ?_ | refine WO.vr ?_ | exact WO.dead | exact WO.mpS | refine WO.mpA ?_ | exact WO.arrPA (fun i j => plainRow _ _ _) | refine WO.arrA ?_ | exact WS.u | refine WS.c ?_ | refine WS.a ?_ | refine WS.t ?_ | exact WL.nil | refine WL.cons ?_ ?_ | exact WTL.nil | refine WTL.consC ?_ ?_ | refine WTL.consL ?_ ?_ | exact WC.nils | exact WC.nil rfl | exact WC.nilp | refine WC.fzA | exact WC.ptr rfl (Nat.le_of_ble_eq_true rfl) | exact WC.mpr rfl (Nat.le_of_ble_eq_true rfl) | refine WC.slA | refine WC.intA | refine WC.int ?_ | refine WC.boolA | refine WC.bool ?_ | refine WC.strA | refine WC.str ?_ | exact WC.imm rfl))
        · repeat' ((first | refine Need.auto ?_ | refine Have.mk (fun _h => ?_)); conv => whnf)
          have w0 := wrap_id (↑k + 1) (by omega) (by omega)
          refine ⟨k + 1, ⟨by omega, ringTo_step hk2 (by omega)⟩, by omega, ?_⟩
          refine Mv.mkW ?_ ?_ (Nat.le_of_ble_eq_true rfl) <;> (repeat' (first | exact WA.nil | refine WA.cons rfl ?_ ?_ | exact WB.nil | refine WB.cons ?_ ?_ | exact WT.nil | refine WT.cons ?_ ?_ | exact WH.nil | refine WH.cons ?_ ?_ | exact WR.nil | refine WR.cons rfl ?_ ?_ | refine WO.vr ?_ | exact WO.dead | exact WO.mpS | refine WO.mpA ?_ | exact WO.arrPA (fun i j => plainRow _ _ _) | refine WO.arrA ?_ | exact WS.u | refine WS.c ?_ | refine WS.a ?_ | refine WS.t ?_ | exact WL.nil | refine WL.cons ?_ ?_ | exact WTL.nil | refine WTL.consC ?_ ?_ | refine WTL.consL ?_ ?_ | exact WC.nils | exact WC.nil rfl | exact WC.nilp | refine WC.fzA | exact WC.ptr rfl (Nat.le_of_ble_eq_true rfl) | exact WC.mpr rfl (Nat.le_of_ble_eq_true rfl) | refine WC.slA | refine WC.intA | refine WC.int ?_ | refine WC.boolA | refine WC.bool ?_ | refine WC.strA | refine WC.str ?_ | exact WC.imm rfl))
      · repeat' ((first | refine Need.auto ?_ | refine Have.mk (fun _h => ?_)); conv => whnf)
        have : k = r.items.length := by omega
        subst this
        rw [ringOk_iff.2 ⟨by omega, hk2⟩]
        refine RM.immW rfl ?_; (repeat' (first | exact WA.nil | refine WA.cons rfl ?_ ?_ | exact WB.nil | refine WB.cons ?_ ?_ | exact WT.nil | refine WT.cons ?_ ?_ | exact WH.nil | refine WH.cons ?_ ?_ | exact WR.nil | refine WR.cons rfl ?_ ?_ | refine WO.vr ?_ | exact WO.dead | exact WO.mpS | refine WO.mpA ?_ | exact WO.arrPA (fun i j => plainRow _ _ _) | refine WO.arrA ?_ | exact WS.u | refine WS.c ?_ | refine WS.a ?_ | refine WS.t ?_ | exact WL.nil | refine WL.cons ?_ ?_ | exact WTL.nil | refine WTL.consC ?_ ?_ | refine WTL.consL ?_ ?_ | exact WC.nils | exact WC.nil rfl | exact WC.nilp | refine WC.fzA | exact WC.ptr rfl (Nat.le_of_ble_eq_true rfl) | exact WC.mpr rfl (Nat.le_of_ble_eq_true rfl) | refine WC.slA | refine WC.intA | refine WC.int ?_ | refine WC.boolA | refine WC.bool ?_ | refine WC.strA | refine WC.str ?_ | exact WC.imm rfl))
theorem ringvalid_body : HasBody Tryz.prog 137 := ⟨⟨Tryz.f137, Tryz.func137, rfl, by kernel_rfl⟩⟩
theorem ringnew_spec (n : Int) (h1 : 1 ≤ n) (h2 : n ≤ 8) : PSpec Tryz.prog 58 [.c (.int .i64 n)] (.t [.inr [.int .i64 n, reqC []], .inl (.int .i64 0)]) := by
  refine PSpec.rm ?_
  refine CSpec.of_vc hΓ Tryz.func58 rfl 12 0 [.cell 2 98, .tmp 3] Tryz.ntmps58 rfl (by rw [Tryz.results58]) rfl ?_
  conv => whnf
  repeat' ((first | refine Need.auto ?_ | refine Have.mk (fun _h => ?_)); conv => whnf)
  refine CallN.pureA ringvalid_body (ringvalid_spec ⟨n, []⟩ (by simp) ) ?_
  conv => whnf
  repeat' ((first | refine Need.auto ?_ | refine Have.mk (fun _h => ?_)); conv => whnf)
  refine Br.no (by rw [ringOk_new n h1 h2]; rfl) ?_
  conv => whnf
  repeat' ((first | refine Need.auto ?_ | refine Have.mk (fun _h => ?_)); conv => whnf)
  refine RM.immW rfl ?_; (repeat' (first | exact WA.nil | refine WA.cons rfl ?_ ?_ | exact WB.nil | refine WB.cons ?_ ?_ | exact WT.nil | refine WT.cons ?_ ?_ | exact WH.nil | refine WH.cons ?_ ?_ | exact WR.nil | refine WR.cons rfl ?_ ?_ | refine WO.vr ?_ | exact WO.dead | exact WO.mpS | refine WO.mpA ?_ | exact WO.arrPA (fun i j => plainRow _ _ _) | refine WO.arrA ?_ | exact WS.u | refine WS.c ?_ | refine WS.a ?_ | refine WS.t ?_ | exact WL.nil | refine WL.cons ?_ ?_ | exact WTL.nil | refine WTL.consC ?_ ?_ | refine WTL.consL ?_ ?_ | exact WC.nils | exact WC.nil rfl | exact WC.nilp | refine WC.fzA | exact WC.ptr rfl (Nat.le_of_ble_eq_true rfl) | exact WC.mpr rfl (Nat.le_of_ble_eq_true rfl) | refine WC.slA | refine WC.intA | refine WC.int ?_ | refine WC.boolA | refine WC.bool ?_ | refine WC.strA | refine WC.str ?_ | exact WC.imm rfl))
theorem ringnew_body : HasBody Tryz.prog 58 := ⟨⟨Tryz.f58, Tryz.func58, rfl, by kernel_rfl⟩⟩
end Go.Proofs
end

section
open Go Go.Am
namespace Go.Proofs
set_option maxRecDepth 20000
def freeTo (c : Conf) (k : Nat) : List Int := (List.range k).map fun i => 2 * slotN c + (i : Nat)
theorem freeTo_len (c : Conf) (k : Nat) : (freeTo c k).length = k := by simp [freeTo]
theorem freeTo_succ (c : Conf) (k : Nat) : freeTo c (k + 1) = freeTo c k ++ [2 * slotN c + (k : Nat)] := by simp [freeTo, List.range_succ]
def newSt (c : Conf) : St := ⟨c, newD c.zones c.size 3 3, List.replicate c.shards.toNat [], List.replicate c.zones.toNat 0, List.replicate c.zones.toNat 0, List.replicate c.shards.toNat (-1), 0, List.replicate c.queues.toNat (-1), [], freeTo c (dataN c).toNat, -1, -1,
  List.replicate c.queues.toNat ⟨c.depth, []⟩, List.replicate c.queues.toNat default, default, default, 1, 0, 0, -1, false, false, []⟩
def newSE (c : Conf) : St := if confE c = 0 then newSt c else default
theorem newE_ok {c : Conf} (h : confE c = 0) : newE c.zones c.size 3 3 = 0 := by
  obtain ⟨hr, hd, _⟩ := confE_r h
  have hs := slot_range hr
  rw [confR_iff] at hr
  unfold dataN at hd
  unfold newE
  rw [if_pos (by simp; omega)]
  refine check_ok.2 ⟨?_, ?_, ?_, ?_⟩
  · simp only [confOk, newX, decide_eq_true_eq, List.length_replicate]
    omega
  · intro z hz
    simp only [newX, List.mem_replicate] at hz
    rw [hz.2]
    simp only [right, newX, zone0, secsOk, Bool.and_eq_true, decide_eq_true_eq]
    refine ⟨?_, rfl⟩
    simp
    omega
  · have : cntOpen (newX c.zones c.size 3 3).zones = 0 := by simp [cntOpen, newX, zone0, isOpen]
    rw [this]; simp [newX]
  · have : cntActive (newX c.zones c.size 3 3).zones = 0 := by simp [cntActive, newX, zone0, isActive]
    rw [this]; simp [newX]
theorem getD_rep {α : Type} (n i : Nat) (d : α) : (List.replicate n d).getD i d = d := by
  by_cases h : i < n
  · simp [List.getD, h]
  · simp [List.getD, h, Nat.le_of_not_lt h]
theorem wrkZero {n : Nat} {z : List C} (hz : z = (default : Wrk).cells) {i j : Nat} (hj : j < 12) : zeroG z i j = wrkG (List.replicate n default) i j := by
  subst hz
  simp only [wrkG, rowG, getD_rep, zeroG]
  match j, hj with
  | 0, _ => rfl
  | 1, _ => rfl
  | 2, _ => rfl
  | 3, _ => rfl
  | 4, _ => rfl
  | 5, _ => rfl
  | 6, _ => rfl
  | 7, _ => rfl
  | 8, _ => rfl
  | 9, _ => rfl
  | 10, _ => rfl
  | 11, _ => rfl
theorem wrkZeroW {ρ : Nat → Nat} {m : Nat} {n : Nat} {z : List C} {t : Bool} (hz : z = (default : Wrk).cells) : WC ρ m (.isl 12 n (zeroG z) t) (wrkC (List.replicate n default)) :=
  WC.leF rfl (leF.isl (by simp) (fun i _ j hj => leF.of_eq (wrkZero hz hj)) (fun e => by cases e))
theorem rngSnoc {l : List Rng} {x : Rng} {t : List C} {n i j : Nat} (hn : n = l.length) (hi : i < l.length + 1) (hj : j < 2) : appG (rngG l) n (flatG 2 (C.int .i64 x.depth :: reqC x.items :: t)) i j = rngG (l ++ [x]) i j :=
  rowG_snoc (f := Rng.cell) hn (fun j hj => by
    match j, hj with
    | 0, _ => rfl
    | 1, _ => rfl) hi hj
set_option maxHeartbeats 4000000 in
theorem corenewOk_spec (c : Conf) (h : confE c = 0) : PSpec Tryz.prog 19 [.a c.cells] (.t [.inr (newSt c).cells, .inl (.int .i64 0)]) := by
  refine PSpec.rm ?_
  have hr := (confE_r h).1
  have hq := confR_iff.1 hr
  have hs := slot_range hr
  have hd := data_range hr
  have hd2 := (confE_r h).2.1
  refine CSpec.of_vc hΓ Tryz.func19 rfl 97 0 [.cell 2 58, .tmp 3] Tryz.ntmps19 rfl (by rw [Tryz.results19]) rfl ?_
  conv => whnf
  repeat' ((first | refine Need.auto ?_ | refine Have.mk (fun _h => ?_)); conv => whnf)
  refine CallN.pureA ofLok_body (ofLok_spec c h ) ?_
  conv => whnf
  repeat' ((first | refine Need.auto ?_ | refine Have.mk (fun _h => ?_)); conv => whnf)
  refine Br.no rfl ?_; conv => whnf
  repeat' ((first | refine Need.auto ?_ | refine Have.mk (fun _h => ?_)); conv => whnf)
  refine Dr.mkE hΓ hMix [4294967296] [] (by kernel_rfl) ?_; conv => whnf
  repeat' ((first | refine Need.auto ?_ | refine Have.mk (fun _h => ?_)); conv => whnf)
  refine CallN.pureA new_body (new_spec c.zones c.size 3 3 (by omega) ) ?_
  conv => whnf
  repeat' ((first | refine Need.auto ?_ | refine Have.mk (fun _h => ?_)); conv => whnf)
  refine CallN.pureA l2pnew_body (l2pnew_spec c.shards (by omega) (by omega) ) ?_
  conv => whnf
  repeat' ((first | refine Need.auto ?_ | refine Have.mk (fun _h => ?_)); conv => whnf)
  refine CallN.pureA livenew_body (livenew_spec c.zones (by omega) (by omega) ) ?_
  conv => whnf
  repeat' ((first | refine Need.auto ?_ | refine Have.mk (fun _h => ?_)); conv => whnf)
  refine CallN.pureA locksnew_body (locksnew_spec c.shards (by omega) (by omega) ) ?_
  conv => whnf
  repeat' ((first | refine Need.auto ?_ | refine Have.mk (fun _h => ?_)); conv => whnf)
  refine CallN.pureA epochnew_body (epochnew_spec c.queues (by omega) (by omega) ) ?_
  conv => whnf
  repeat' ((first | refine Need.auto ?_ | refine Have.mk (fun _h => ?_)); conv => whnf)
  refine Lp.mkK hΓ (ι := Nat) [1, 2, 4, 6, 63] (fun k => [(64, .c (.int .i64 k))]) (fun k => [.vr c.cells, .vr (default : St).cells, .vr (Lay.cells c), .vr ((newSt c).cellsZ (.sl 4 1 k k false) (shardsC (newSt c).map) .nils (wrkC (newSt c).works) (evC [])), .arr 3 1 k (intsG .i64 (freeTo c k))]) (fun k => k ≤ (dataN c).toNat) (fun k => (dataN c).toNat - k) 0 (Nat.zero_le _) ?_ ?_
  · refine (Mv.reserveO 3 17 3 1 (intsG .i64 []) rfl rfl rfl rfl).trans ?_
    refine Mv.mkW ?_ ?_ (Nat.le_of_ble_eq_true rfl) <;> (repeat' (first | exact WA.nil | refine WA.cons rfl ?_ ?_ | exact WB.nil | refine WB.cons ?_ ?_ | exact WT.nil | refine WT.cons ?_ ?_ | exact WH.nil | refine WH.cons ?_ ?_ | exact WR.nil | refine WR.cons rfl ?_ ?_ | refine WO.vr ?_ | exact WO.dead | exact WO.mpS | refine WO.mpA ?_ | exact WO.arrPA (fun i j => plainRow _ _ _) | refine WO.arrA ?_ | exact WS.u | refine WS.c ?_ | refine WS.a ?_ | refine WS.t ?_ | exact WL.nil | refine WL.cons ?_ ?_ | exact WTL.nil | refine WTL.consC ?_ ?_ | refine WTL.consL ?_ ?_ | exact WC.nils | exact WC.nil rfl | exact WC.nilp | refine WC.fzA | exact WC.ptr rfl (Nat.le_of_ble_eq_true rfl) | exact WC.mpr rfl (Nat.le_of_ble_eq_true rfl) | refine WC.slA | refine WC.intA | refine WC.int ?_ | refine WC.boolA | refine WC.bool ?_ | refine WC.strA | refine WC.str ?_ | exact WC.imm rfl))
    · exact wrkZeroW rfl
    · intro i hi; omega
  · intro k hk
    conv => whnf
    repeat' ((first | refine Need.auto ?_ | refine Have.mk (fun _h => ?_)); conv => whnf)
    (first | refine Br.lt (fun h3 => ?_) (fun h3 => ?_) | refine Br.le (fun h3 => ?_) (fun h3 => ?_) | refine Br.gt (fun h3 => ?_) (fun h3 => ?_) | refine Br.ge (fun h3 => ?_) (fun h3 => ?_) | refine Br.eq (fun h3 => ?_) (fun h3 => ?_) | refine Br.ne (fun h3 => ?_) (fun h3 => ?_) | refine Br.not (fun h3 => ?_) (fun h3 => ?_) | refine Br.mk (fun h3 => ?_) (fun h3 => ?_)) <;> (try simp only [Int.toNat_natCast] at h3) <;> (conv => whnf)
    · repeat' ((first | refine Need.auto ?_ | refine Have.mk (fun _h => ?_)); conv => whnf)
      have w0 := wrap_id (↑k + 1) (by omega) (by omega)
      have w1 : IntKind.i64.wrap (2 * slotN c + ↑k) = 2 * slotN c + ↑k := wrap_id _ (by omega) (by omega)
      refine ⟨k + 1, by omega, by omega, ?_⟩
      refine Mv.mkW ?_ ?_ (Nat.le_of_ble_eq_true rfl) <;> (repeat' (first | exact WA.nil | refine WA.cons rfl ?_ ?_ | exact WB.nil | refine WB.cons ?_ ?_ | exact WT.nil | refine WT.cons ?_ ?_ | exact WH.nil | refine WH.cons ?_ ?_ | exact WR.nil | refine WR.cons rfl ?_ ?_ | refine WO.vr ?_ | exact WO.dead | exact WO.mpS | refine WO.mpA ?_ | exact WO.arrPA (fun i j => plainRow _ _ _) | refine WO.arrA ?_ | exact WS.u | refine WS.c ?_ | refine WS.a ?_ | refine WS.t ?_ | exact WL.nil | refine WL.cons ?_ ?_ | exact WTL.nil | refine WTL.consC ?_ ?_ | refine WTL.consL ?_ ?_ | exact WC.nils | exact WC.nil rfl | exact WC.nilp | refine WC.fzA | exact WC.ptr rfl (Nat.le_of_ble_eq_true rfl) | exact WC.mpr rfl (Nat.le_of_ble_eq_true rfl) | refine WC.slA | refine WC.intA | refine WC.int ?_ | refine WC.boolA | refine WC.bool ?_ | refine WC.strA | refine WC.str ?_ | exact WC.imm rfl))
      intro i hi j hj
      rw [w1, freeTo_succ]
      exact WC.eq (intsSnoc (freeTo_len c k).symm (by rw [freeTo_len]; exact hi) hj) rfl
    · repeat' ((first | refine Need.auto ?_ | refine Have.mk (fun _h => ?_)); conv => whnf)
      have : k = (dataN c).toNat := by omega
      subst this
      refine Lp.mkK hΓ (ι := Nat) [1, 2, 6, 80] (fun k => [(81, .c (.int .i64 k))]) (fun k => [.vr c.cells, .vr (default : St).cells, .vr (Lay.cells c), .vr ((newSt c).cellsZ (.sl 4 1 (dataN c).toNat (dataN c).toNat false) (shardsC (newSt c).map) (.sl 5 2 k k false) (wrkC (newSt c).works) (evC [])), .arr 3 1 (dataN c).toNat (intsG .i64 (freeTo c (dataN c).toNat)), .arr 98 2 k (rngG (List.replicate k ⟨c.depth, []⟩))]) (fun k => k ≤ c.queues.toNat) (fun k => c.queues.toNat - k) 0 (Nat.zero_le _) ?_ ?_
      · refine (Mv.reserveO 3 20 98 2 (rngG []) rfl rfl rfl rfl).trans ?_
        refine Mv.mkW ?_ ?_ (Nat.le_of_ble_eq_true rfl) <;> (repeat' (first | exact WA.nil | refine WA.cons rfl ?_ ?_ | exact WB.nil | refine WB.cons ?_ ?_ | exact WT.nil | refine WT.cons ?_ ?_ | exact WH.nil | refine WH.cons ?_ ?_ | exact WR.nil | refine WR.cons rfl ?_ ?_ | refine WO.vr ?_ | exact WO.dead | exact WO.mpS | refine WO.mpA ?_ | exact WO.arrPA (fun i j => plainRow _ _ _) | refine WO.arrA ?_ | exact WS.u | refine WS.c ?_ | refine WS.a ?_ | refine WS.t ?_ | exact WL.nil | refine WL.cons ?_ ?_ | exact WTL.nil | refine WTL.consC ?_ ?_ | refine WTL.consL ?_ ?_ | exact WC.nils | exact WC.nil rfl | exact WC.nilp | refine WC.fzA | exact WC.ptr rfl (Nat.le_of_ble_eq_true rfl) | exact WC.mpr rfl (Nat.le_of_ble_eq_true rfl) | refine WC.slA | refine WC.intA | refine WC.int ?_ | refine WC.boolA | refine WC.bool ?_ | refine WC.strA | refine WC.str ?_ | exact WC.imm rfl))
        · exact fun i _ j _ => WC.imm rfl
        · intro i hi; omega
      · intro q hq2
        conv => whnf
        repeat' ((first | refine Need.auto ?_ | refine Have.mk (fun _h => ?_)); conv => whnf)
        (first | refine Br.lt (fun h4 => ?_) (fun h4 => ?_) | refine Br.le (fun h4 => ?_) (fun h4 => ?_) | refine Br.gt (fun h4 => ?_) (fun h4 => ?_) | refine Br.ge (fun h4 => ?_) (fun h4 => ?_) | refine Br.eq (fun h4 => ?_) (fun h4 => ?_) | refine Br.ne (fun h4 => ?_) (fun h4 => ?_) | refine Br.not (fun h4 => ?_) (fun h4 => ?_) | refine Br.mk (fun h4 => ?_) (fun h4 => ?_)) <;> (try simp only [Int.toNat_natCast] at h4) <;> (conv => whnf)
        · repeat' ((first | refine Need.auto ?_ | refine Have.mk (fun _h => ?_)); conv => whnf)
          refine CallN.pureA ringnew_body (ringnew_spec c.depth (by omega) (by omega) ) ?_
          conv => whnf
          repeat' ((first | refine Need.auto ?_ | refine Have.mk (fun _h => ?_)); conv => whnf)
          have w0 := wrap_id (↑q + 1) (by omega) (by omega)
          refine ⟨q + 1, by omega, by omega, ?_⟩
          refine Mv.mkW ?_ ?_ (Nat.le_of_ble_eq_true rfl) <;> (repeat' (first | exact WA.nil | refine WA.cons rfl ?_ ?_ | exact WB.nil | refine WB.cons ?_ ?_ | exact WT.nil | refine WT.cons ?_ ?_ | exact WH.nil | refine WH.cons ?_ ?_ | exact WR.nil | refine WR.cons rfl ?_ ?_ | refine WO.vr ?_ | exact WO.dead | exact WO.mpS | refine WO.mpA ?_ | exact WO.arrPA (fun i j => plainRow _ _ _) | refine WO.arrA ?_ | exact WS.u | refine WS.c ?_ | refine WS.a ?_ | refine WS.t ?_ | exact WL.nil | refine WL.cons ?_ ?_ | exact WTL.nil | refine WTL.consC ?_ ?_ | refine WTL.consL ?_ ?_ | exact WC.nils | exact WC.nil rfl | exact WC.nilp | refine WC.fzA | exact WC.ptr rfl (Nat.le_of_ble_eq_true rfl) | exact WC.mpr rfl (Nat.le_of_ble_eq_true rfl) | refine WC.slA | refine WC.intA | refine WC.int ?_ | refine WC.boolA | refine WC.bool ?_ | refine WC.strA | refine WC.str ?_ | exact WC.imm rfl))
          · exact fun i _ j _ => WC.imm rfl
          · intro i hi j hj
            exact WC.eq ((rngSnoc (x := ⟨c.depth, []⟩) (by simp) (by simpa using hi) hj).trans (by rw [List.replicate_succ'])) (rngCell_imm _ _)
        · repeat' ((first | refine Need.auto ?_ | refine Have.mk (fun _h => ?_)); conv => whnf)
          have : q = c.queues.toNat := by omega
          subst this
          refine RM.fz 4 rfl (Nat.zero_le _) (fun _ _ _ _ => rfl) ?_
          refine RM.fz 5 rfl (Nat.zero_le _) (fun _ _ _ _ => WC.fzI_imm (rngCell_imm _ _)) ?_
          refine RM.wkW ?_ ?_ (Nat.zero_le _) <;> (repeat' (first | exact WA.nil | refine WA.cons rfl ?_ ?_ | exact WB.nil | refine WB.cons ?_ ?_ | exact WT.nil | refine WT.cons ?_ ?_ | exact WH.nil | refine WH.cons ?_ ?_ | exact WR.nil | refine WR.cons rfl ?_ ?_ | refine WO.vr ?_ | exact WO.dead | exact WO.mpS | refine WO.mpA ?_ | exact WO.arrPA (fun i j => plainRow _ _ _) | refine WO.arrA ?_ | exact WS.u | refine WS.c ?_ | refine WS.a ?_ | refine WS.t ?_ | exact WL.nil | refine WL.cons ?_ ?_ | exact WTL.nil | refine WTL.consC ?_ ?_ | refine WTL.consL ?_ ?_ | exact WC.nils | exact WC.nil rfl | exact WC.nilp | refine WC.fzA | exact WC.ptr rfl (Nat.le_of_ble_eq_true rfl) | exact WC.mpr rfl (Nat.le_of_ble_eq_true rfl) | refine WC.slA | refine WC.intA | refine WC.int ?_ | refine WC.boolA | refine WC.bool ?_ | refine WC.strA | refine WC.str ?_ | exact WC.imm rfl))
          · exact WC.fz2a rfl (freeTo_len _ _).symm (fun _ _ _ _ => leF.refl)
          · exact WC.fz2b rfl rfl (by simp [newSt]) (fun _ _ _ _ => leF.fzI (rngCell_imm _ _))
theorem corenewOk_body : HasBody Tryz.prog 19 := ⟨⟨Tryz.f19, Tryz.func19, rfl, by kernel_rfl⟩⟩
end Go.Proofs
end

section
open Go Go.Am
namespace Go.Proofs
set_option maxRecDepth 20000
def baseSt (c : Conf) (d : Dev) : St := { newSt c with dev := d }
end Go.Proofs
end
