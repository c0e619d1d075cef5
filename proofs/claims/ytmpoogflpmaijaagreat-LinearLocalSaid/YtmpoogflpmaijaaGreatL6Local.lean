/- Part of the proofs of laws of this seat: contracts and plain lemmas; no condition is added to a statement. -/
import Derived.Test.YtmpoogflpmaijaaGreatD33L
import Derived.Test.YtmpoogflpmaijaaGreatLi8
import Derived.Test.YtmpoogflpmaijaaGreatLi22L
import Derived.Test.YtmpoogflpmaijaaGreatLi24L
set_option linter.unusedSimpArgs false
set_option linter.unusedVariables false
open Go Go.Am
namespace Go.Proofs
set_option maxRecDepth 20000
set_option maxHeartbeats 4000000
theorem llocal_spec (l : List Int) (wrong : Bool) (a : Int) : PSpec Tryz.prog 6 [.c (intsC l), .c (.bool wrong), .c (.int .i64 a)] (.c (.bool true)) := by
  refine PSpec.rm ?_
  refine ov hΓ Tryz.func6 78 0 [.tmp 6] Tryz.ntmps6 Tryz.results6 ?_
  ((conv=>whnf);(repeat' ((first|refine Nd ?_|refine Hv fun _h=>?_);conv=>whnf)))
  refine CallN.pureA light_body (light_spec l ) ?_
  ((conv=>whnf);(repeat' ((first|refine Nd ?_|refine Hv fun _h=>?_);conv=>whnf)))
  by_cases h0 : l.length ≤ 300
  · refine Br.no (by rw [decide_eq_true h0]; rfl) ?_
    ((conv=>whnf);(repeat' ((first|refine Nd ?_|refine Hv fun _h=>?_);conv=>whnf)))
    refine CallN.pureA events_body (events_spec l 3 12 wrong (by omega) (by omega) (by omega) ) ?_
    ((conv=>whnf);(repeat' ((first|refine Nd ?_|refine Hv fun _h=>?_);conv=>whnf)))
    refine CallN.pureA new17_body (new17_spec 3 (by omega) (by omega) ) ?_
    ((conv=>whnf);(repeat' ((first|refine Nd ?_|refine Hv fun _h=>?_);conv=>whnf)))
    have hlen := events_len 3 12 wrong l
    have hev := events_ok (n := 3) (m := 12) (wrong := wrong) (l := l) (by omega)
    have hw := drawn_whole (n := 3) (m := 12) (wrong := wrong) (l := l) (by omega) (by omega)
    have hp := fun i (hi : i < 3) => drawn_part (n := 3) (m := 12) (wrong := wrong) (l := l) (by omega) (by omega) hi
    have hb := fun k => drawn_begin (n := 3) (m := 12) (wrong := wrong) (l := l) (by omega) (by omega) k
    have hg : wrong = false → (findM (zerosM 3) (eventsM 3 12 wrong l)).2 = true := fun q => by subst q; exact drawn_good (by omega) (by omega)
    generalize eventsM 3 12 wrong l = h at *
    have hzl : (zerosM 3).length = 3 := rfl
    generalize zerosM 3 = z at *
    have hk3 : ∀ e ∈ h, e.kind ≤ 3 := fun e he => (hev e he).2.1
    refine CallN.pureA find_body (find_spec z h (by omega) (by omega) (by rw [flushM_none hk3]; exact Nat.zero_le _) ) ?_
    ((conv=>whnf);(repeat' ((first|refine Nd ?_|refine Hv fun _h=>?_);conv=>whnf)))
    refine Lp.mkK hΓ (ι := Nat) [1, 2, 7, 8, 10] (fun i => [(12, .c (.int .i64 i)), (11, .c (.bool (allK (foundM z h) i)))]) (fun _ => []) (fun i => i ≤ 3) (fun i => 3 - i) 0 (Nat.zero_le _) ?_ ?_
    · exact Mv.k0
    · intro i hi
      ((conv=>whnf);(repeat' ((first|refine Nd ?_|refine Hv fun _h=>?_);conv=>whnf)))
      refine Br.of (fun h1=>?_) (fun h1=>?_)<;>(try simp only [Int.toNat_natCast] at h1)<;>(conv=>whnf)
      · ((conv=>whnf);(repeat' ((first|refine Nd ?_|refine Hv fun _h=>?_);conv=>whnf)))
        have hi' : i < 3 := by omega
        have hrl : (restrictM h i).length ≤ h.length := List.length_filter_le _ _
        have hrf : flushM (restrictM h (i : Int)) = [] := flushM_none fun e he => hk3 e (List.mem_filter.1 he).1
        refine CallN.pureA restrict18_body (restrict18_spec h i (by omega) ) ?_
        ((conv=>whnf);(repeat' ((first|refine Nd ?_|refine Hv fun _h=>?_);conv=>whnf)))
        refine CallN.pureA find_body (find_spec z (restrictM h i) (by omega) (by omega) (by rw [hrf]; exact Nat.zero_le _) ) ?_
        ((conv=>whnf);(repeat' ((first|refine Nd ?_|refine Hv fun _h=>?_);conv=>whnf)))
        rw [hp i hi']
        refine ⟨i + 1, by omega, by omega, ?_⟩
        have : allK (foundM z h) (i + 1) = (bif allK (foundM z h) i then foundM z h i else false) := by rw [allK]; cases allK (foundM z h) i <;> rfl
        rw [this]
        exact Mv.k0
      · ((conv=>whnf);(repeat' ((first|refine Nd ?_|refine Hv fun _h=>?_);conv=>whnf)))
        have hi3 : i = 3 := by omega
        subst hi3
        have hw1 : IntKind.i64.wrap ((h.length : Int) + 1) = ((h.length + 1 : Nat) : Int) := by rw [wrap_id _ (by omega) (by omega)]; omega
        rw [hw1]
        refine CallN.pureA mod_body (mod_spec a (h.length + 1 : Nat) ) ?_
        have hr := modI_range (x := a) (n := ((h.length + 1 : Nat) : Int)) (by omega) (by omega)
        generalize modI a ((h.length + 1 : Nat) : Int) = ia at *
        obtain ⟨k, rfl⟩ : ∃ k : Nat, ia = k := ⟨ia.toNat, by omega⟩
        ((conv=>whnf);(repeat' ((first|refine Nd ?_|refine Hv fun _h=>?_);conv=>whnf)))
        have htl : (h.take k).length = k := by rw [List.length_take]; omega
        rw [Int.toNat_natCast]
        refine CallN.pureW find_body (find_spec z (h.take k) (by omega) (by omega) (by rw [flushM_none fun e he => hk3 e (List.mem_of_mem_take he)]; exact Nat.zero_le _)) ?_ rfl ?_
        · refine wb1 ?_
          exact WC.isl htl.symm (fun i hi j _ => by unfold evG rowG; rw [getD_take hi]) (fun q => by cases q)
        ((conv=>whnf);(repeat' ((first|refine Nd ?_|refine Hv fun _h=>?_);conv=>whnf)))
        refine CallG.auto awake_body (fun _ => awake_spec ) ?_
        ((conv=>whnf);(repeat' ((first|refine Nd ?_|refine Hv fun _h=>?_);conv=>whnf)))
        have hbk := hb k
        rw [← hw]
        have hfin : (bif bif bif (findM z h).2 == (findM z h).2 then bif !(findM z h).2 then true else (findM z (h.take k)).2 else false then bif wrong then true else (findM z h).2 else false then true else false) = true := by
          cases hq : (findM z h).2 with
          | true => rw [hbk hq]; cases wrong <;> rfl
          | false =>
            cases wrong with
            | true => rfl
            | false => rw [hg rfl] at hq; cases hq
        rw [hfin]
        exact RM.i0
  · refine Br.yes (by rw [decide_eq_false h0]; rfl) ?_
    ((conv=>whnf);(repeat' ((first|refine Nd ?_|refine Hv fun _h=>?_);conv=>whnf)))
    refine CallN.pureA awake_body (awake_spec ) ?_
    ((conv=>whnf);(repeat' ((first|refine Nd ?_|refine Hv fun _h=>?_);conv=>whnf)))
    exact RM.i0
end Go.Proofs
