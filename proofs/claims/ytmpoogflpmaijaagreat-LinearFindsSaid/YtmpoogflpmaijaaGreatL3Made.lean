/- Part of the proofs of laws of this seat: contracts and plain lemmas; no condition is added to a statement. -/
import Derived.Test.YtmpoogflpmaijaaGreatLi8
import Derived.Test.YtmpoogflpmaijaaGreatLi22
import Derived.Test.YtmpoogflpmaijaaGreatLi24
import Derived.Test.YtmpoogflpmaijaaGreatLinK
set_option linter.unusedSimpArgs false
set_option linter.unusedVariables false
open Go Go.Am
namespace Go.Proofs
set_option maxRecDepth 20000
set_option maxHeartbeats 2000000
theorem mergeM_len (l : List Evt) : ∀ (f : Nat) (os : List (List Int)) (out : List Int), (mergeM l f os out).length ≤ out.length + f
  | 0, _, _ => Nat.le_refl _
  | f + 1, os, out => by
    rw [mergeM]
    cases idxL (freeB l os) os os.length with
    | none => dsimp only; omega
    | some i =>
      dsimp only
      refine Nat.le_trans (mergeM_len l f _ _) ?_
      rw [List.length_append, List.length_singleton]; omega
theorem findM_len (bs : List ByteArray) (l : List Evt) : (findM bs l).1.length ≤ 20 * bs.length + l.length := by
  unfold findM
  split
  · have := mergeM_len l (totM (allO bs l)) (allO bs l) []
    have := allO_tot bs l
    simp only [List.length_nil] at *
    omega
  · exact Nat.zero_le _
theorem updG_ext {g g' : Nat → Nat → C} {k c i j : Nat} {ys : List C} (h : g i j = g' i j) : updG g k c ys i j = updG g' k c ys i j := by
  unfold updG
  split
  · rfl
  · exact h
theorem lmade_spec (l : List Int) (wrong : Bool) (a b : Int) : PSpec Tryz.prog 3 [.c (intsC l), .c (.bool wrong), .c (.int .i64 a), .c (.int .i64 b)] (.c (.bool true)) := by
  refine PSpec.rm ?_
  refine ov hΓ Tryz.func3 77 0 [.tmp 8] Tryz.ntmps3 Tryz.results3 ?_
  ((conv=>whnf);(repeat' ((first|refine Nd ?_|refine Hv fun _h=>?_);conv=>whnf)))
  refine CallN.pureA light_body (light_spec l ) ?_
  ((conv=>whnf);(repeat' ((first|refine Nd ?_|refine Hv fun _h=>?_);conv=>whnf)))
  by_cases h0 : l.length ≤ 300
  · refine Br.no (by rw [decide_eq_true h0]; rfl) ?_
    ((conv=>whnf);(repeat' ((first|refine Nd ?_|refine Hv fun _h=>?_);conv=>whnf)))
    refine CallN.pureA events_body (events_spec l 2 10 wrong (by omega) (by omega) (by omega) ) ?_
    ((conv=>whnf);(repeat' ((first|refine Nd ?_|refine Hv fun _h=>?_);conv=>whnf)))
    refine CallN.pureA new17_body (new17_spec 2 (by omega) (by omega) ) ?_
    ((conv=>whnf);(repeat' ((first|refine Nd ?_|refine Hv fun _h=>?_);conv=>whnf)))
    have hlen := events_len 2 10 wrong l
    have hfl := events_flush (n := 2) (m := 10) (wrong := wrong) (l := l) (by omega)
    generalize eventsM 2 10 wrong l = h at *
    have hzl : (zerosM 2).length = 2 := rfl
    generalize zerosM 2 = z at *
    refine CallN.pureA find_body (find_spec z h (by omega) (by omega) (by rw [hfl]; exact Nat.zero_le _) ) ?_
    ((conv=>whnf);(repeat' ((first|refine Nd ?_|refine Hv fun _h=>?_);conv=>whnf)))
    have hok : (findM z h).2 = true → rcheckM z h (findM z h).1 = 0 := find_right
    have hno : (findM z h).2 = false → (findM z h).1 = [] := find_none
    have hol := findM_len z h
    generalize findM z h = r at *
    obtain ⟨o, ok⟩ := r
    dsimp only at *
    refine CallG.auto rcheck_body (fun _ => rcheck_spec z h o (by omega) (by omega) (by omega) ) ?_
    ((conv=>whnf);(repeat' ((first|refine Nd ?_|refine Hv fun _h=>?_);conv=>whnf)))
    refine Br.no (by cases ok with
      | false => rfl
      | true => rw [hok rfl]; rfl) ?_
    ((conv=>whnf);(repeat' ((first|refine Nd ?_|refine Hv fun _h=>?_);conv=>whnf)))
    refine Br.of (fun hp=>?_) (fun hp=>?_)<;>(try simp only [Int.toNat_natCast] at hp)<;>(conv=>whnf)
    · ((conv=>whnf);(repeat' ((first|refine Nd ?_|refine Hv fun _h=>?_);conv=>whnf)))
      refine CallN.pureA mod_body (mod_spec a o.length ) ?_
      ((conv=>whnf);(repeat' ((first|refine Nd ?_|refine Hv fun _h=>?_);conv=>whnf)))
      refine CallN.pureA mod_body (mod_spec b o.length ) ?_
      ((conv=>whnf);(repeat' ((first|refine Nd ?_|refine Hv fun _h=>?_);conv=>whnf)))
      have hra := modI_range (x := a) (n := (o.length : Int)) (by omega) (by omega)
      have hrb := modI_range (x := b) (n := (o.length : Int)) (by omega) (by omega)
      generalize modI a o.length = ia at *
      generalize modI b o.length = ib at *
      obtain ⟨i, rfl⟩ : ∃ i : Nat, ia = i := ⟨ia.toNat, by omega⟩
      obtain ⟨k, rfl⟩ : ∃ k : Nat, ib = k := ⟨ib.toNat, by omega⟩
      refine Dr.mvK [9, 10, 13, 14] [(11, .c (.sl 0 1 o.length o.length false))] [.arr 3 1 o.length (intsG .i64 o)] (Mv.mkW ?_ ?_ leN) ?_
      · refine wb1 ?_
        exact fun i _ j _ => WC.eq (rowG_app0 j) rfl
      · exact wb0
      refine Dr.mkE hΓ hMix [] [(2, 13), (3, 13)] (by kernel_rfl) ?_; conv=>whnf
      ((conv=>whnf);(repeat' ((first|refine Nd ?_|refine Hv fun _h=>?_);conv=>whnf)))
      rw [Int.toNat_natCast]
      refine Frc.mk (.c (.int .i64 (o.getD k default))) rfl ?_
      ((conv=>whnf);(repeat' ((first|refine Nd ?_|refine Hv fun _h=>?_);conv=>whnf)))
      rw [Int.toNat_natCast]
      refine Frc.mk (.c (.int .i64 (o.getD i default))) rfl ?_
      ((conv=>whnf);(repeat' ((first|refine Nd ?_|refine Hv fun _h=>?_);conv=>whnf)))
      rw [Int.toNat_natCast, Int.toNat_natCast]
      have hlo : ((o.set i (o.getD k default)).set k (o.getD i default)).length = o.length := by rw [List.length_set, List.length_set]
      refine CallN.rg 0 (g' := intsG .i64 ((o.set i (o.getD k default)).set k (o.getD i default))) rfl (fun i' _ j hj => ?_) rfl ?_
      · refine (updG_ext (ints_set (by omega) i' j hj)).trans (ints_set (by rw [List.length_set]; omega) i' j hj)
      generalize (o.set i (o.getD k default)).set k (o.getD i default) = o2 at *
      refine CallN.fzK 0 [8, 9, 10] [(11, .c (intsC o2))] [.dead] [.c (strsC z), .c (evC h), .c (intsC o2)] rfl (Nat.zero_le _) (fun _ _ _ _ => rfl) ?_ ?_ ?_ leN ?_
      · exact wb0
      · exact wb0
      · exact wb0
      refine CallN.pureA lcheck_body (lcheck_spec z h o2 (by omega) (by omega) (by omega) ) ?_
      ((conv=>whnf);(repeat' ((first|refine Nd ?_|refine Hv fun _h=>?_);conv=>whnf)))
      refine CallN.pureA rcheck_body (rcheck_spec z h o2 (by omega) (by omega) (by omega) ) ?_
      ((conv=>whnf);(repeat' ((first|refine Nd ?_|refine Hv fun _h=>?_);conv=>whnf)))
      refine CallG.auto awake_body (fun _ => awake_spec ) ?_
      ((conv=>whnf);(repeat' ((first|refine Nd ?_|refine Hv fun _h=>?_);conv=>whnf)))
      rw [check_eq]
      exact RM.i0
    · ((conv=>whnf);(repeat' ((first|refine Nd ?_|refine Hv fun _h=>?_);conv=>whnf)))
      refine CallN.pureA lcheck_body (lcheck_spec z h o (by omega) (by omega) (by omega) ) ?_
      ((conv=>whnf);(repeat' ((first|refine Nd ?_|refine Hv fun _h=>?_);conv=>whnf)))
      refine CallN.pureA rcheck_body (rcheck_spec z h o (by omega) (by omega) (by omega) ) ?_
      ((conv=>whnf);(repeat' ((first|refine Nd ?_|refine Hv fun _h=>?_);conv=>whnf)))
      refine CallG.auto awake_body (fun _ => awake_spec ) ?_
      ((conv=>whnf);(repeat' ((first|refine Nd ?_|refine Hv fun _h=>?_);conv=>whnf)))
      rw [check_eq]
      exact RM.i0
  · refine Br.yes (by rw [decide_eq_false h0]; rfl) ?_
    ((conv=>whnf);(repeat' ((first|refine Nd ?_|refine Hv fun _h=>?_);conv=>whnf)))
    refine CallN.pureA awake_body (awake_spec ) ?_
    ((conv=>whnf);(repeat' ((first|refine Nd ?_|refine Hv fun _h=>?_);conv=>whnf)))
    exact RM.i0
end Go.Proofs
