/- Part of the proofs of laws of this seat: contracts and plain lemmas; no condition is added to a statement. -/
import Derived.Test.YtmpoogflpmaijaaGreatD29
import Derived.Test.YtmpoogflpmaijaaGreatL3Made
set_option linter.unusedSimpArgs false
set_option linter.unusedVariables false
open Go Go.Am
namespace Go.Proofs
set_option maxRecDepth 20000
set_option maxHeartbeats 4000000
theorem lfinds_spec (l : List Int) (wrong : Bool) : PSpec Tryz.prog 4 [.c (intsC l), .c (.bool wrong)] (.c (.bool true)) := by
  refine PSpec.rm ?_
  refine ov hΓ Tryz.func4 93 0 [.tmp 4] Tryz.ntmps4 Tryz.results4 ?_
  ((conv=>whnf);(repeat' ((first|refine Nd ?_|refine Hv fun _h=>?_);conv=>whnf)))
  refine CallN.pureA light_body (light_spec l ) ?_
  ((conv=>whnf);(repeat' ((first|refine Nd ?_|refine Hv fun _h=>?_);conv=>whnf)))
  by_cases h0 : l.length ≤ 300
  · refine Br.no (by rw [decide_eq_true h0]; rfl) ?_
    ((conv=>whnf);(repeat' ((first|refine Nd ?_|refine Hv fun _h=>?_);conv=>whnf)))
    refine CallN.pureA events_body (events_spec l 1 9 wrong (by omega) (by omega) (by omega) ) ?_
    ((conv=>whnf);(repeat' ((first|refine Nd ?_|refine Hv fun _h=>?_);conv=>whnf)))
    refine CallN.pureA new17_body (new17_spec 1 (by omega) (by omega) ) ?_
    ((conv=>whnf);(repeat' ((first|refine Nd ?_|refine Hv fun _h=>?_);conv=>whnf)))
    have hlen := events_len 1 9 wrong l
    have hev := events_ok (n := 1) (m := 9) (wrong := wrong) (l := l) (by omega)
    have hfl := events_flush (n := 1) (m := 9) (wrong := wrong) (l := l) (by omega)
    generalize eventsM 1 9 wrong l = h at *
    rw [show zerosM 1 = [zeroB] from rfl]
    ((conv=>whnf);(repeat' ((first|refine Nd ?_|refine Hv fun _h=>?_);conv=>whnf)))
    have hg : ([zeroB].getD (Int.toNat 0) ByteArray.empty) = zeroB := rfl
    rw [hg]
    refine CallN.pureA block19_body (block19_spec zeroB h (by omega) ) ?_
    ((conv=>whnf);(repeat' ((first|refine Nd ?_|refine Hv fun _h=>?_);conv=>whnf)))
    rw [hg]
    refine CallN.pureA block_body (block_spec zeroB h (by omega) ) ?_
    ((conv=>whnf);(repeat' ((first|refine Nd ?_|refine Hv fun _h=>?_);conv=>whnf)))
    refine CallN.pureA find_body (find_spec [zeroB] h (by omega) (by simp) (by rw [hfl]; exact Nat.zero_le _) ) ?_
    ((conv=>whnf);(repeat' ((first|refine Nd ?_|refine Hv fun _h=>?_);conv=>whnf)))
    have hbo := block_len zeroB h
    have hfo := findM_len [zeroB] h
    have hb1 := block_same zeroB h
    have hb2 := find_one (v := zeroB) hev
    have hv := values_same zeroB h
    have hn1 : (blockM zeroB h).2 = false → (blockM zeroB h).1 = [] := blockM_none
    have hn2 : (findM [zeroB] h).2 = false → (findM [zeroB] h).1 = [] := find_none
    have hr1 : (blockM zeroB h).2 = true → rcheckM [zeroB] h (blockM zeroB h).1 = 0 := block_right
    have hr2 : (findM [zeroB] h).2 = true → rcheckM [zeroB] h (findM [zeroB] h).1 = 0 := find_right
    generalize blockM zeroB h = r1 at *
    generalize findM [zeroB] h = r2 at *
    generalize blockR zeroB h = r3 at *
    obtain ⟨o, ok⟩ := r1
    obtain ⟨p, is⟩ := r2
    obtain ⟨q, want⟩ := r3
    dsimp only at *
    subst hb1 hb2
    refine Dr.mk hΓ hMix (by kernel_rfl) ?_; conv=>whnf
    ((conv=>whnf);(repeat' ((first|refine Nd ?_|refine Hv fun _h=>?_);conv=>whnf)))
    rw [hg]
    refine CallP.autoG values_body (fun _ => values_spec zeroB h (by omega) ) ?_
    ((conv=>whnf);(repeat' ((first|refine Nd ?_|refine Hv fun _h=>?_);conv=>whnf)))
    rw [hg]
    refine CallP.autoG values19_body (fun _ => values19_spec zeroB h (by omega) ) ?_
    ((conv=>whnf);(repeat' ((first|refine Nd ?_|refine Hv fun _h=>?_);conv=>whnf)))
    refine CallP.autoG same17_body (fun _ => same17_spec (valuesM zeroB h) (valuesR zeroB h) ) ?_
    ((conv=>whnf);(repeat' ((first|refine Nd ?_|refine Hv fun _h=>?_);conv=>whnf)))
    refine Br.no (by rw [decide_eq_true hv]; cases is <;> rfl) ?_
    ((conv=>whnf);(repeat' ((first|refine Nd ?_|refine Hv fun _h=>?_);conv=>whnf)))
    cases is with
    | false =>
      have e1 : o = [] := hn1 rfl
      have e2 : p = [] := hn2 rfl
      subst e1 e2
      refine Br.yes rfl ?_
      ((conv=>whnf);(repeat' ((first|refine Nd ?_|refine Hv fun _h=>?_);conv=>whnf)))
      refine CallG.auto awake_body (fun _ => awake_spec ) ?_
      ((conv=>whnf);(repeat' ((first|refine Nd ?_|refine Hv fun _h=>?_);conv=>whnf)))
      exact RM.i0
    | true =>
      have e1 := hr1 rfl
      have e2 := hr2 rfl
      refine Br.no rfl ?_
      ((conv=>whnf);(repeat' ((first|refine Nd ?_|refine Hv fun _h=>?_);conv=>whnf)))
      refine CallN.pureA rcheck_body (rcheck_spec [zeroB] h o (by omega) (by simp) (by omega) ) ?_
      ((conv=>whnf);(repeat' ((first|refine Nd ?_|refine Hv fun _h=>?_);conv=>whnf)))
      refine CallG.auto rcheck_body (fun _ => rcheck_spec [zeroB] h p (by omega) (by simp) (by simp at hfo; omega) ) ?_
      ((conv=>whnf);(repeat' ((first|refine Nd ?_|refine Hv fun _h=>?_);conv=>whnf)))
      refine CallG.auto awake_body (fun _ => awake_spec ) ?_
      ((conv=>whnf);(repeat' ((first|refine Nd ?_|refine Hv fun _h=>?_);conv=>whnf)))
      rw [e1, e2]
      exact RM.i0
  · refine Br.yes (by rw [decide_eq_false h0]; rfl) ?_
    ((conv=>whnf);(repeat' ((first|refine Nd ?_|refine Hv fun _h=>?_);conv=>whnf)))
    refine CallN.pureA awake_body (awake_spec ) ?_
    ((conv=>whnf);(repeat' ((first|refine Nd ?_|refine Hv fun _h=>?_);conv=>whnf)))
    exact RM.i0
end Go.Proofs
