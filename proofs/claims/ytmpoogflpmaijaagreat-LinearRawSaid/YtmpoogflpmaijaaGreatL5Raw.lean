/- Part of the proofs of laws of this seat: contracts and plain lemmas; no condition is added to a statement. -/
import Derived.Test.YtmpoogflpmaijaaGreatLi8
import Derived.Test.YtmpoogflpmaijaaGreatLi27
set_option linter.unusedSimpArgs false
set_option linter.unusedVariables false
open Go Go.Am
namespace Go.Proofs
set_option maxRecDepth 20000
set_option maxHeartbeats 4000000
theorem mergeM_len (l : List Evt) : ∀ (f : Nat) (os : List (List Int)) (out : List Int), (mergeM l f os out).length ≤ out.length + f
  | 0, _, _ => Nat.le_refl _
  | f + 1, os, out => by
    rw [mergeM]
    cases idxL (freeB l os) os os.length with
    | none => dsimp only; omega
    | some i =>
      dsimp only
      refine Nat.le_trans (mergeM_len l f _ _) ?_
      rw [List.length_append, List.length_singleton]; omega
theorem findM_len (bs : List ByteArray) (l : List Evt) : (findM bs l).1.length ≤ 20 * bs.length + l.length := by
  unfold findM
  split
  · have := mergeM_len l (totM (allO bs l)) (allO bs l) []
    have := allO_tot bs l
    simp only [List.length_nil] at *
    omega
  · exact Nat.zero_le _
theorem lraw_spec (bs : List ByteArray) (l : List Evt) (v : ByteArray) : PSpec Tryz.prog 5 [.c (strsC bs), .c (evC l), .c (.str v)] (.c (.bool true)) := by
  refine PSpec.rm ?_
  refine ov hΓ Tryz.func5 112 0 [.tmp 6] Tryz.ntmps5 Tryz.results5 ?_
  ((conv=>whnf);(repeat' ((first|refine Nd ?_|refine Hv fun _h=>?_);conv=>whnf)))
  refine CallN.pureA light19_body (light19_spec bs l ) ?_
  ((conv=>whnf);(repeat' ((first|refine Nd ?_|refine Hv fun _h=>?_);conv=>whnf)))
  by_cases h0 : bs.length ≤ 20 ∧ l.length ≤ 14
  · by_cases h1 : v.size ≤ 100
    · refine Br.no (by rw [decide_eq_true h0.1, decide_eq_true (by omega), decide_eq_false (by omega), decide_eq_false (by omega)]; rfl) ?_
      ((conv=>whnf);(repeat' ((first|refine Nd ?_|refine Hv fun _h=>?_);conv=>whnf)))
      refine CallN.pureA find_body (find_spec bs l (by omega) (by omega) ) ?_
      ((conv=>whnf);(repeat' ((first|refine Nd ?_|refine Hv fun _h=>?_);conv=>whnf)))
      refine CallN.pureA can_body (can_spec bs l (by omega) (by omega) ) ?_
      ((conv=>whnf);(repeat' ((first|refine Nd ?_|refine Hv fun _h=>?_);conv=>whnf)))
      refine CallN.pureA block_body (block_spec v l (by omega) ) ?_
      ((conv=>whnf);(repeat' ((first|refine Nd ?_|refine Hv fun _h=>?_);conv=>whnf)))
      refine CallN.pureA block19_body (block19_spec v l (by omega) ) ?_
      ((conv=>whnf);(repeat' ((first|refine Nd ?_|refine Hv fun _h=>?_);conv=>whnf)))
      have hbo := block_len v l
      have hfo := findM_len bs l
      have hb1 := block_same v l
      have hb2 := find_same bs l
      have hv := values_same v l
      have hn1 : (blockM v l).2 = false → (blockM v l).1 = [] := blockM_none
      have hn2 : (findM bs l).2 = false → (findM bs l).1 = [] := find_none
      have hr1 : (blockM v l).2 = true → rcheckM [v] l (blockM v l).1 = 0 := block_right
      have hr2 : (findM bs l).2 = true → rcheckM bs l (findM bs l).1 = 0 := find_right
      generalize blockM v l = r1 at *
      generalize findM bs l = r2 at *
      generalize blockR v l = r3 at *
      generalize canR bs l = r4 at *
      obtain ⟨p, is⟩ := r1
      obtain ⟨o, ok⟩ := r2
      obtain ⟨q, or_⟩ := r3
      obtain ⟨want, few⟩ := r4
      dsimp only at *
      subst hb1 hb2
      refine CallG.auto values_body (fun _ => values_spec v l (by omega) ) ?_
      ((conv=>whnf);(repeat' ((first|refine Nd ?_|refine Hv fun _h=>?_);conv=>whnf)))
      refine CallG.auto values19_body (fun _ => values19_spec v l (by omega) ) ?_
      ((conv=>whnf);(repeat' ((first|refine Nd ?_|refine Hv fun _h=>?_);conv=>whnf)))
      refine CallG.auto same17_body (fun _ => same17_spec (valuesM v l) (valuesR v l) ) ?_
      ((conv=>whnf);(repeat' ((first|refine Nd ?_|refine Hv fun _h=>?_);conv=>whnf)))
      refine Br.no (by rw [decide_eq_true hv]; cases ok <;> cases is <;> rfl) ?_
      ((conv=>whnf);(repeat' ((first|refine Nd ?_|refine Hv fun _h=>?_);conv=>whnf)))
      refine CallG.auto rcheck_body (fun _ => rcheck_spec bs l o (by omega) (by omega) (by omega) ) ?_
      ((conv=>whnf);(repeat' ((first|refine Nd ?_|refine Hv fun _h=>?_);conv=>whnf)))
      have e1 : (bif !ok then true else rcheckM bs l o == 0) = true := by
        cases ok with
        | false => rfl
        | true => rw [hr2 rfl]; rfl
      rw [e1]
      cases is with
      | true =>
        refine Br.yes rfl ?_
        ((conv=>whnf);(repeat' ((first|refine Nd ?_|refine Hv fun _h=>?_);conv=>whnf)))
        refine CallG.reads (args' := [.c (strsC [v]), .c (evC l), .c (intsC p)]) rcheck_body (r := .c (.int .i64 0)) (fun _ => ?_) (fun _ => ?_) rfl ?_
        · have := rcheck_spec [v] l p (by omega) (by simp) (by omega)
          rw [hr1 rfl] at this
          exact this
        · refine BwA.cons (BwS.c (bwStrs (f := [v]) rfl rfl fun i hi j hj => ?_)) (BwA.cons (BwS.c (Bw.same rfl)) (BwA.cons (BwS.c (Bw.same rfl)) BwA.nil))
          have hi0 : i = 0 := by omega
          have hj0 : j = 0 := by omega
          subst hi0 hj0
          rfl
        ((conv=>whnf);(repeat' ((first|refine Nd ?_|refine Hv fun _h=>?_);conv=>whnf)))
        refine CallG.auto awake_body (fun _ => awake_spec ) ?_
        ((conv=>whnf);(repeat' ((first|refine Nd ?_|refine Hv fun _h=>?_);conv=>whnf)))
        have e2 : (bif ok then true else (o.length : Int) == 0) = true := by
          cases ok with
          | true => rfl
          | false => rw [hn2 rfl]; rfl
        rw [e2]
        exact RM.i0
      | false =>
        refine Br.no rfl ?_
        ((conv=>whnf);(repeat' ((first|refine Nd ?_|refine Hv fun _h=>?_);conv=>whnf)))
        refine CallG.reads (args' := [.c (strsC [v]), .c (evC l), .c (intsC p)]) rcheck_body (r := .c (.int .i64 0)) (fun q => by cases q) (fun q => by cases q) rfl ?_
        ((conv=>whnf);(repeat' ((first|refine Nd ?_|refine Hv fun _h=>?_);conv=>whnf)))
        refine CallG.auto awake_body (fun _ => awake_spec ) ?_
        ((conv=>whnf);(repeat' ((first|refine Nd ?_|refine Hv fun _h=>?_);conv=>whnf)))
        have e2 : (bif ok then true else (o.length : Int) == 0) = true := by
          cases ok with
          | true => rfl
          | false => rw [hn2 rfl]; rfl
        rw [e2, hn1 rfl]
        exact RM.i0
    · refine Br.yes (by rw [decide_eq_true h0.1, decide_eq_true (by omega), decide_eq_false (by omega), decide_eq_true (by omega)]; rfl) ?_
      ((conv=>whnf);(repeat' ((first|refine Nd ?_|refine Hv fun _h=>?_);conv=>whnf)))
      refine CallN.pureA awake_body (awake_spec ) ?_
      ((conv=>whnf);(repeat' ((first|refine Nd ?_|refine Hv fun _h=>?_);conv=>whnf)))
      exact RM.i0
  · refine Br.yes ?_ ?_
    · by_cases c1 : bs.length ≤ 20
      · by_cases c2 : l.length ≤ 60
        · rw [decide_eq_true c1, decide_eq_true c2, decide_eq_true (by omega : (l.length : Int) > 14)]; rfl
        · rw [decide_eq_true c1, decide_eq_false c2]; rfl
      · rw [decide_eq_false c1]; rfl
    · ((conv=>whnf);(repeat' ((first|refine Nd ?_|refine Hv fun _h=>?_);conv=>whnf)))
      refine CallN.pureA awake_body (awake_spec ) ?_
      ((conv=>whnf);(repeat' ((first|refine Nd ?_|refine Hv fun _h=>?_);conv=>whnf)))
      exact RM.i0
end Go.Proofs
