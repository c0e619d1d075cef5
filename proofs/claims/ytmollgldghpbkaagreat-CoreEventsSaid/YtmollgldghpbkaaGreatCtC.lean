/- Part of the proofs of laws of this seat: contracts and plain lemmas; no condition is added to a statement. -/
import Derived.Test.YtmollgldghpbkaaGreatCtB
set_option linter.unusedSimpArgs false
set_option linter.unusedVariables false
section
open Go Go.Am
namespace Go.Proofs
set_option maxRecDepth 20000
theorem list_eq {α : Type} [Inhabited α] {a b : List α} (hl : a.length = b.length) (h : ∀ i, i < a.length → a.getD i default = b.getD i default) : a = b := by
  refine List.ext_getElem hl fun i h1 h2 => ?_
  have := h i h1
  simpa [List.getD, h1, h2] using this
theorem list_ne {α : Type} [Inhabited α] {a b : List α} {k : Nat} (h : a.getD k default ≠ b.getD k default) : a ≠ b := fun e => h (by rw [e])
theorem eqInt (x y : Int) : (!decide (x = y)) = !decide (x = y) := rfl
theorem sameInts_spec (a b : List Int) (ha : a.length ≤ 1000000) : PSpec Tryz.prog 28 [.c (intsC a), .c (intsC b)] (.c (.bool (decide (a = b)))) := by
  refine PSpec.rm ?_
  refine CSpec.of_vc hΓ Tryz.func28 rfl 26 0 [.tmp 4] Tryz.ntmps28 rfl (by rw [Tryz.results28]) rfl ?_
  conv => whnf
  repeat' ((first | refine Need.auto ?_ | refine Have.mk (fun _h => ?_)); conv => whnf)
  (first | refine Br.lt (fun h1 => ?_) (fun h1 => ?_) | refine Br.le (fun h1 => ?_) (fun h1 => ?_) | refine Br.gt (fun h1 => ?_) (fun h1 => ?_) | refine Br.ge (fun h1 => ?_) (fun h1 => ?_) | refine Br.eq (fun h1 => ?_) (fun h1 => ?_) | refine Br.ne (fun h1 => ?_) (fun h1 => ?_) | refine Br.not (fun h1 => ?_) (fun h1 => ?_) | (refine Br.mk (fun h1 => ?_) (fun h1 => ?_) <;> simp [-List.length_eq_zero_iff, -List.getD_eq_getElem?_getD] at h1)) <;> (try simp only [Int.toNat_natCast] at h1) <;> (conv => whnf)
  · repeat' ((first | refine Need.auto ?_ | refine Have.mk (fun _h => ?_)); conv => whnf)
    rw [show decide (a = b) = false from decide_eq_false (fun e => h1 (by rw [e]))]
    refine RM.immW rfl ?_; (repeat' (first | exact WA.nil | refine WA.cons rfl ?_ ?_ | exact WB.nil | refine WB.cons ?_ ?_ | exact WT.nil | refine WT.cons ?_ ?_ | exact WH.nil | refine WH.cons ?_ ?_ | exact WR.nil | refine WR.cons rfl ?_ ?_ | refine WO.vr ?_ | exact WO.dead | exact WO.mpS | refine WO.mpA ?_ | exact WO.arrPA (fun i j => plainRow _ _ _) | refine WO.arrA ?_ | exact WS.u | refine WS.c ?_ | refine WS.a ?_ | refine WS.t ?_ | exact WL.nil | refine WL.cons ?_ ?_ | exact WTL.nil | refine WTL.consC ?_ ?_ | refine WTL.consL ?_ ?_ | exact WC.nils | exact WC.nil rfl | exact WC.nilp | refine WC.fzA | exact WC.ptr rfl (Nat.le_of_ble_eq_true rfl) | exact WC.mpr rfl (Nat.le_of_ble_eq_true rfl) | refine WC.slA | refine WC.intA | refine WC.int ?_ | refine WC.boolA | refine WC.bool ?_ | refine WC.strA | refine WC.str ?_ | exact WC.imm rfl))
  · repeat' ((first | refine Need.auto ?_ | refine Have.mk (fun _h => ?_)); conv => whnf)
    refine Lp.mkK hΓ (ι := Nat) [0, 1] (fun i => [(5, .c (.int .i64 i))]) (fun _ => []) (fun i => i ≤ a.length ∧ ∀ j, j < i → a.getD j default = b.getD j default) (fun i => a.length - i) 0 ⟨Nat.zero_le _, fun j hj => absurd hj (Nat.not_lt_zero _)⟩ ?_ ?_
    · refine Mv.mkW ?_ ?_ (Nat.le_of_ble_eq_true rfl) <;> (repeat' (first | exact WA.nil | refine WA.cons rfl ?_ ?_ | exact WB.nil | refine WB.cons ?_ ?_ | exact WT.nil | refine WT.cons ?_ ?_ | exact WH.nil | refine WH.cons ?_ ?_ | exact WR.nil | refine WR.cons rfl ?_ ?_ | refine WO.vr ?_ | exact WO.dead | exact WO.mpS | refine WO.mpA ?_ | exact WO.arrPA (fun i j => plainRow _ _ _) | refine WO.arrA ?_ | exact WS.u | refine WS.c ?_ | refine WS.a ?_ | refine WS.t ?_ | exact WL.nil | refine WL.cons ?_ ?_ | exact WTL.nil | refine WTL.consC ?_ ?_ | refine WTL.consL ?_ ?_ | exact WC.nils | exact WC.nil rfl | exact WC.nilp | refine WC.fzA | exact WC.ptr rfl (Nat.le_of_ble_eq_true rfl) | exact WC.mpr rfl (Nat.le_of_ble_eq_true rfl) | refine WC.slA | refine WC.intA | refine WC.int ?_ | refine WC.boolA | refine WC.bool ?_ | refine WC.strA | refine WC.str ?_ | exact WC.imm rfl))
    · rintro k ⟨hk, hk2⟩
      conv => whnf
      repeat' ((first | refine Need.auto ?_ | refine Have.mk (fun _h => ?_)); conv => whnf)
      (first | refine Br.lt (fun h2 => ?_) (fun h2 => ?_) | refine Br.le (fun h2 => ?_) (fun h2 => ?_) | refine Br.gt (fun h2 => ?_) (fun h2 => ?_) | refine Br.ge (fun h2 => ?_) (fun h2 => ?_) | refine Br.eq (fun h2 => ?_) (fun h2 => ?_) | refine Br.ne (fun h2 => ?_) (fun h2 => ?_) | refine Br.not (fun h2 => ?_) (fun h2 => ?_) | refine Br.mk (fun h2 => ?_) (fun h2 => ?_)) <;> (try simp only [Int.toNat_natCast] at h2) <;> (conv => whnf)
      · repeat' ((first | refine Need.auto ?_ | refine Have.mk (fun _h => ?_)); conv => whnf)
        refine Dr.mk hΓ hMix (by kernel_rfl) ?_; conv => whnf
        repeat' ((first | refine Need.auto ?_ | refine Have.mk (fun _h => ?_)); conv => whnf)
        by_cases e : a.getD k default = b.getD k default
        · refine Br.no ((eqInt (a.getD k default) (b.getD k default)).trans (by simp only [e, decide_true, Bool.not_true])) ?_
          conv => whnf
          repeat' ((first | refine Need.auto ?_ | refine Have.mk (fun _h => ?_)); conv => whnf)
          have w0 := wrap_id (↑k + 1) (by omega) (by omega)
          refine ⟨k + 1, ⟨by omega, all_step hk2 e⟩, by omega, ?_⟩
          refine Mv.mkW ?_ ?_ (Nat.le_of_ble_eq_true rfl) <;> (repeat' (first | exact WA.nil | refine WA.cons rfl ?_ ?_ | exact WB.nil | refine WB.cons ?_ ?_ | exact WT.nil | refine WT.cons ?_ ?_ | exact WH.nil | refine WH.cons ?_ ?_ | exact WR.nil | refine WR.cons rfl ?_ ?_ | refine WO.vr ?_ | exact WO.dead | exact WO.mpS | refine WO.mpA ?_ | exact WO.arrPA (fun i j => plainRow _ _ _) | refine WO.arrA ?_ | exact WS.u | refine WS.c ?_ | refine WS.a ?_ | refine WS.t ?_ | exact WL.nil | refine WL.cons ?_ ?_ | exact WTL.nil | refine WTL.consC ?_ ?_ | refine WTL.consL ?_ ?_ | exact WC.nils | exact WC.nil rfl | exact WC.nilp | refine WC.fzA | exact WC.ptr rfl (Nat.le_of_ble_eq_true rfl) | exact WC.mpr rfl (Nat.le_of_ble_eq_true rfl) | refine WC.slA | refine WC.intA | refine WC.int ?_ | refine WC.boolA | refine WC.bool ?_ | refine WC.strA | refine WC.str ?_ | exact WC.imm rfl))
        · refine Br.yes ((eqInt (a.getD k default) (b.getD k default)).trans (by simp only [e, decide_false, Bool.not_false])) ?_
          conv => whnf
          repeat' ((first | refine Need.auto ?_ | refine Have.mk (fun _h => ?_)); conv => whnf)
          rw [decide_eq_false (list_ne e)]
          refine RM.immW rfl ?_; (repeat' (first | exact WA.nil | refine WA.cons rfl ?_ ?_ | exact WB.nil | refine WB.cons ?_ ?_ | exact WT.nil | refine WT.cons ?_ ?_ | exact WH.nil | refine WH.cons ?_ ?_ | exact WR.nil | refine WR.cons rfl ?_ ?_ | refine WO.vr ?_ | exact WO.dead | exact WO.mpS | refine WO.mpA ?_ | exact WO.arrPA (fun i j => plainRow _ _ _) | refine WO.arrA ?_ | exact WS.u | refine WS.c ?_ | refine WS.a ?_ | refine WS.t ?_ | exact WL.nil | refine WL.cons ?_ ?_ | exact WTL.nil | refine WTL.consC ?_ ?_ | refine WTL.consL ?_ ?_ | exact WC.nils | exact WC.nil rfl | exact WC.nilp | refine WC.fzA | exact WC.ptr rfl (Nat.le_of_ble_eq_true rfl) | exact WC.mpr rfl (Nat.le_of_ble_eq_true rfl) | refine WC.slA | refine WC.intA | refine WC.int ?_ | refine WC.boolA | refine WC.bool ?_ | refine WC.strA | refine WC.str ?_ | exact WC.imm rfl))
      · repeat' ((first | refine Need.auto ?_ | refine Have.mk (fun _h => ?_)); conv => whnf)
        have e : a = b := list_eq (by omega) (fun i hi => hk2 i (by omega))
        rw [decide_eq_true e]
        refine RM.immW rfl ?_; (repeat' (first | exact WA.nil | refine WA.cons rfl ?_ ?_ | exact WB.nil | refine WB.cons ?_ ?_ | exact WT.nil | refine WT.cons ?_ ?_ | exact WH.nil | refine WH.cons ?_ ?_ | exact WR.nil | refine WR.cons rfl ?_ ?_ | refine WO.vr ?_ | exact WO.dead | exact WO.mpS | refine WO.mpA ?_ | exact WO.arrPA (fun i j => plainRow _ _ _) | refine WO.arrA ?_ | exact WS.u | refine WS.c ?_ | refine WS.a ?_ | refine WS.t ?_ | exact WL.nil | refine WL.cons ?_ ?_ | exact WTL.nil | refine WTL.consC ?_ ?_ | refine WTL.consL ?_ ?_ | exact WC.nils | exact WC.nil rfl | exact WC.nilp | refine WC.fzA | exact WC.ptr rfl (Nat.le_of_ble_eq_true rfl) | exact WC.mpr rfl (Nat.le_of_ble_eq_true rfl) | refine WC.slA | refine WC.intA | refine WC.int ?_ | refine WC.boolA | refine WC.bool ?_ | refine WC.strA | refine WC.str ?_ | exact WC.imm rfl))
theorem sameInts_body : HasBody Tryz.prog 28 := ⟨⟨Tryz.f28, Tryz.func28, rfl, by kernel_rfl⟩⟩
def Sav.cells (s : Sav) : List C := [.int .i64 s.state, .int .i64 s.done, .int .i64 s.slot, .int .i64 s.seq, .int .i64 s.next, .int .i64 s.cut, entsC s.ents, recsC s.recs]
end Go.Proofs
end

section
open Go Go.Am
namespace Go.Proofs
set_option maxRecDepth 20000
theorem sameZone_eq (a b : Zone) : sameZone a b = decide (a = b) := by
  unfold sameZone
  rw [Bool.eq_iff_iff]
  cases a; cases b
  simp only [Bool.and_eq_true, decide_eq_true_eq, Zone.mk.injEq]
  constructor
  · rintro ⟨⟨h1, h2, -⟩, h3⟩; exact ⟨h1, h2, h3⟩
  · rintro ⟨rfl, rfl, rfl⟩; exact ⟨⟨rfl, rfl, rfl⟩, rfl⟩
theorem allSame_eq : ∀ a b : List Zone, allSame a b = decide (a = b)
  | [], [] => by simp [allSame]
  | x :: r, y :: r' => by
    rw [Bool.eq_iff_iff]
    simp [allSame, sameZone_eq, allSame_eq r r']
  | [], _ :: _ => by simp [allSame]
  | _ :: _, [] => by simp [allSame]
end Go.Proofs
end
