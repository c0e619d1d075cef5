/- Part of the proofs of laws of this seat: contracts and plain lemmas; no condition is added to a statement. -/
import Derived.Test.YtmpoogflpmaijaaGreatLinIL
import Derived.Test.YtmpoogflpmaijaaGreatAmF
import Derived.Test.YtmpoogflpmaijaaGreatLi9
set_option linter.unusedSimpArgs false
set_option linter.unusedVariables false
open Go Go.Am
namespace Go.Proofs
set_option maxRecDepth 20000
set_option maxHeartbeats 2000000
theorem freeB_pos {l : List Evt} {os : List (List Int)} {o : List Int} (h : freeB l os o = true) : 0 < o.length := by
  unfold freeB at h
  rw [Bool.and_eq_true, decide_eq_true_eq] at h
  exact h.1
/-- The orders at the end of a merge. -/
def mergeE (l : List Evt) : Nat → List (List Int) → List (List Int)
  | 0, os => os
  | f + 1, os => match idxL (freeB l os) os os.length with
    | none => os
    | some i => mergeE l f (os.set i ((os.getD i default).drop 1))
theorem mergeE_len (l : List Evt) : ∀ (f : Nat) (os : List (List Int)), (mergeE l f os).length = os.length
  | 0, _ => rfl
  | f + 1, os => by
    rw [mergeE]
    cases idxL (freeB l os) os os.length with
    | none => rfl
    | some i => dsimp only; rw [mergeE_len l f, List.length_set]
theorem ord_cell {os : List (List Int)} {k : Nat} {o : List Int} (hk : k < os.length) (hx : os.getD k default = o) {ρ : Nat → Nat} {n : Nat} (i j : Nat) (hj : j < 1) :
    WC ρ n (updG (ordG os) k 0 [.isl 1 (o.length - 1) (fun i j => intsG .i64 o (1 + i) j) false] i j) (ordG (os.set k (o.drop 1)) i j) := by
  have h0 : j = 0 := by omega
  subst h0
  rw [updG_one]
  unfold ordG
  by_cases c : i = k
  · subst c
    rw [if_pos ⟨rfl, rfl⟩]
    have : (os.set i (o.drop 1)).getD i default = o.drop 1 := by simp [List.getD, hk]
    rw [this]
    refine WC.isl (by simp) (fun i' hi' j hj => ?_) (fun q => by cases q)
    unfold intsG rowG
    congr 1
    simp only [List.getD, List.getElem?_drop]
  · rw [if_neg (fun q => c q.1)]
    have : (os.set k (o.drop 1)).getD i default = os.getD i default := by
      simp only [List.getD]
      rw [List.getElem?_set_ne (by omega)]
    rw [this]
    exact WC.imm rfl
theorem merge_spec (l : List Evt) (os : List (List Int)) (ho : os.length ≤ 10000000) (hy : ∀ x ∈ os, x.length ≤ 10000) (hf : totM os ≤ 1000000) : CSpec Tryz.prog 35 [.c (evC l), .c (.sl 0 1 os.length os.length false)] [.arr 22 1 os.length (ordG os)] fun s H => s = .c (intsC (mergeM l (totM os) os [])) ∧ H = [.arr 22 1 os.length (ordG (mergeE l (totM os) os))] := by
  refine CSpec.rm ?_
  refine ov hΓ Tryz.func35 47 1 [.tmp 4] Tryz.ntmps35 Tryz.results35 ?_
  ((conv=>whnf);(repeat' ((first|refine Nd ?_|refine Hv fun _h=>?_);conv=>whnf)))
  refine Lp.reserve 3 1 (intsG .i64 []) 5 rfl ?_
  refine Lp.mkK hΓ (ι := List (List Int) × List Int) [1, 2] (fun p => [(5, .c (.sl 2 1 p.2.length p.2.length false))]) (fun p => [.arr 22 1 os.length (ordG p.1), .vr [evC l], .arr 3 1 p.2.length (intsG .i64 p.2)])
    (fun p => p.1.length = os.length ∧ (∀ x ∈ p.1, x.length ≤ 10000) ∧ totM p.1 + p.2.length = totM os ∧ mergeM l (totM p.1) p.1 p.2 = mergeM l (totM os) os [] ∧ mergeE l (totM p.1) p.1 = mergeE l (totM os) os) (fun p => totM p.1) (os, []) ⟨rfl, hy, rfl, rfl, rfl⟩ ?_ ?_
  · refine Mv.k2 ?_ ?_
    · exact fun i _ j _ => WC.imm rfl
    · exact fun i hi => absurd hi (Nat.not_lt_zero i)
  · rintro ⟨os1, out⟩ ⟨q1, q2, q3, q4, q5⟩
    dsimp only at q1 q2 q3 q4 q5 ⊢
    ((conv=>whnf);(repeat' ((first|refine Nd ?_|refine Hv fun _h=>?_);conv=>whnf)))
    refine Lp.mkK hΓ (ι := Nat) [1, 2, 5, 9, 10] (fun k => [(11, .c (.int .i64 k)), (6, .c (.int .i64 (-1)))]) (fun k => [.arr 22 1 os.length (ordG os1), .vr [evC l], .arr 3 1 out.length (intsG .i64 out)]) (fun k => k ≤ os.length ∧ idxL (freeB l os1) os1 k = none) (fun k => os.length - k) 0 ⟨Nat.zero_le _, rfl⟩ ?_ ?_
    · refine Mv.k2 ?_ ?_
      · exact fun i _ j _ => WC.imm rfl
      · exact fun i _ j _ => WC.imm rfl
    · rintro k ⟨hk, hno⟩
      ((conv=>whnf);(repeat' ((first|refine Nd ?_|refine Hv fun _h=>?_);conv=>whnf)))
      refine Br.of (fun h1=>?_) (fun h1=>?_)<;>(try simp only [Int.toNat_natCast] at h1)<;>(conv=>whnf)
      · ((conv=>whnf);(repeat' ((first|refine Nd ?_|refine Hv fun _h=>?_);conv=>whnf)))
        have hk' : k < os.length := by omega
        have e0 : (k : Int).toNat = k := by simp
        have hst : idxL (freeB l os1) os1 (k + 1) = if freeB l os1 (os1.getD k default) = true then some k else none := by rw [idxL, hno]
        have hxl : (os1.getD k default).length ≤ 10000 := by
          rw [getD_at (by omega)]
          exact q2 _ (List.getElem_mem _)
        rw [e0]
        refine Frc.mk (.c (intsC (os1.getD k default))) rfl ?_
        conv=>whnf
        generalize hx : os1.getD k default = o at *
        ((conv=>whnf);(repeat' ((first|refine Nd ?_|refine Hv fun _h=>?_);conv=>whnf)))
        refine CallG.reads (args' := [.c (.isl 1 os.length (ordG os1) false), .c (.fn (.func 60) 2 (capM l o))]) hasOrd_body (r := .c (.bool (os1.any (blkL l (o.getD 0 default))))) (fun hg => ?_) (fun _ => ?_) rfl ?_
        · have hg' : 0 < o.length := by
            have := of_decide_eq_true hg
            omega
          have := hasOrd_spec l o os1 hg' (by omega) (fun x hx => Nat.le_trans (q2 x hx) (by omega))
          unfold ordC at this
          rw [q1] at this
          exact this
        · exact BwA.cons (BwS.c (Bw.sl rfl rfl (fun i _ j _ => Bw.same rfl) (fun q => by cases q))) (BwA.cons (BwS.c (Bw.fn2 (g := lget [.ptr 3 0, .ptr 1 0]) (g' := capM l o) (Bw.ptr1 rfl rfl) (Bw.ptr1 rfl rfl))) BwA.nil)
        ((conv=>whnf);(repeat' ((first|refine Nd ?_|refine Hv fun _h=>?_);conv=>whnf)))
        have hfb : (bif decide ((o.length : Int) > 0) then !os1.any (blkL l (o.getD 0 default)) else false) = freeB l os1 o := by
          unfold freeB
          by_cases c : 0 < o.length
          · rw [decide_eq_true c, decide_eq_true (by omega : (o.length : Int) > 0)]; rfl
          · rw [decide_eq_false c, decide_eq_false (by omega : ¬ (o.length : Int) > 0)]; rfl
        cases hf : freeB l os1 o with
        | true =>
          rw [hf, if_pos rfl] at hst
          have hpos : 0 < o.length := (freeB_pos hf)
          refine Br.yes (hfb.trans hf) ?_
          ((conv=>whnf);(repeat' ((first|refine Nd ?_|refine Hv fun _h=>?_);conv=>whnf)))
          refine Br.no (by simp) ?_
          ((conv=>whnf);(repeat' ((first|refine Nd ?_|refine Hv fun _h=>?_);conv=>whnf)))
          rw [e0]
          refine Frc.mk (.c (intsC o)) (by rw [← hx]; rfl) ?_
          ((conv=>whnf);(repeat' ((first|refine Nd ?_|refine Hv fun _h=>?_);conv=>whnf)))
          rw [e0]
          refine Frc.mk (.c (intsC o)) (by rw [← hx]; rfl) ?_
          ((conv=>whnf);(repeat' ((first|refine Nd ?_|refine Hv fun _h=>?_);conv=>whnf)))
          have hi : idxL (freeB l os1) os1 os1.length = some k := by
            have := idxL_stay hst (os1.length - (k + 1))
            rwa [show k + 1 + (os1.length - (k + 1)) = os1.length by omega] at this
          have hts := totM_set (os := os1) (i := k) (by omega) (by rw [hx]; exact hpos)
          rw [hx] at hts
          obtain ⟨f, hf1⟩ : ∃ f, totM os1 = f + 1 := ⟨_, hts.symm⟩
          have hf2 : totM (os1.set k (o.drop 1)) = f := by omega
          have hm1 : mergeM l (f + 1) os1 out = mergeM l f (os1.set k (o.drop 1)) (out ++ [o.getD 0 default]) := by rw [mergeM, hi]; dsimp only; rw [hx]
          have hm2 : mergeE l (f + 1) os1 = mergeE l f (os1.set k (o.drop 1)) := by rw [mergeE, hi]; dsimp only; rw [hx]
          refine ⟨(os1.set k (o.drop 1), out ++ [o.getD 0 default]), ⟨?_, ?_, ?_, ?_, ?_⟩, ?_, ?_⟩
          · dsimp only; rw [List.length_set, q1]
          · intro x hx'
            rcases List.mem_or_eq_of_mem_set hx' with q | q
            · exact q2 x q
            · rw [q, List.length_drop]; omega
          · dsimp only; rw [List.length_append]; simp only [List.length_singleton]; omega
          · dsimp only; rw [hf2, ← hm1, ← hf1]; exact q4
          · dsimp only; rw [hf2, ← hm2, ← hf1]; exact q5
          · dsimp only; omega
          · dsimp only
            rw [show (out ++ [o.getD 0 default]).length = out.length + 1 by simp]
            refine Mv.k2 ?_ ?_
            · exact fun i hi j hj => by rw [e0]; exact ord_cell (by omega) hx i j hj
            · exact fun i hi j hj => WC.eq (intsG_snoc rfl hi hj) rfl
        | false =>
          rw [hf, if_neg (by simp)] at hst
          refine Br.no (hfb.trans hf) ?_
          ((conv=>whnf);(repeat' ((first|refine Nd ?_|refine Hv fun _h=>?_);conv=>whnf)))
          refine ⟨k + 1, ⟨by omega, hst⟩, by omega, ?_⟩
          refine Mv.k2 ?_ ?_
          · exact fun i _ j _ => WC.imm rfl
          · exact fun i _ j _ => WC.imm rfl
      · ((conv=>whnf);(repeat' ((first|refine Nd ?_|refine Hv fun _h=>?_);conv=>whnf)))
        have hkn : k = os.length := by omega
        subst hkn
        refine Br.yes rfl ?_
        ((conv=>whnf);(repeat' ((first|refine Nd ?_|refine Hv fun _h=>?_);conv=>whnf)))
        have hm : mergeM l (totM os1) os1 out = out ∧ mergeE l (totM os1) os1 = os1 := by
          have hno' : idxL (freeB l os1) os1 os1.length = none := by rw [q1]; exact hno
          cases ht : totM os1 with
          | zero => exact ⟨rfl, rfl⟩
          | succ f => rw [mergeM, mergeE, hno']; exact ⟨rfl, rfl⟩
        rw [← q4, ← q5, hm.1, hm.2]
        refine ⟨.c (intsC out), [.arr 22 1 os.length (ordG os1)], ?_, rfl, rfl⟩
        refine RM.fz 2 rfl leN (fun _ _ _ _ => rfl) ?_
        refine RM.w1 ?_
        · exact fun i _ j _ => WC.imm rfl
theorem merge_body : HasBody Tryz.prog 35 := hB Tryz.func35
end Go.Proofs
