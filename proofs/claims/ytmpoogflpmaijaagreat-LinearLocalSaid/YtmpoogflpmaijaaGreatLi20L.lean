/- Part of the proofs of laws of this seat: contracts and plain lemmas; no condition is added to a statement. -/
import Derived.Test.YtmpoogflpmaijaaGreatAmG
import Derived.Test.YtmpoogflpmaijaaGreatLinJL
import Derived.Test.YtmpoogflpmaijaaGreatLayS
import Derived.Shelf.GgSortFunc.Tiny
set_option linter.unusedSimpArgs false
set_option linter.unusedVariables false
open Go Go.Am
namespace Go.Proofs
set_option maxRecDepth 20000
set_option maxHeartbeats 2000000
def keyS (s : Int) : Key := .c (.i .i64 s)
def ksL (l : List Evt) : Nat → List Key
  | 0 => []
  | k + 1 => if (l.getD k default).ret = true then ksL l k else updK (ksL l k) (keyS (l.getD k default).serial)
def valL (l : List Evt) : Nat → Key → Nat → C
  | 0 => fun _ _ => .int .i64 0
  | k + 1 => if (l.getD k default).ret = true then valL l k else updV (valL l k) (keyS (l.getD k default).serial) (lget [.int .i64 k])
noncomputable def siT : TypeInfo := (Tryz.prog.info? 22).get (by kernel_rfl)
noncomputable def siE : TypeInfo := (Tryz.prog.info? 3).get (by kernel_rfl)
theorem tiny_spec (p : Option Addr) (n c : Nat) (h1 : n ≤ 1) (lf : Fn) (la lb : Array Value) (w : World) :
    Calls Tryz.prog 63 #[.iface 22 (.slice p n c), .func lf la lb] w fun e w' => e = .returned (.tuple #[]) ∧ ∃ os, w' = Sort.grow w os := by
  have hK : Lib.swapperK n siE 2 = n + 1 := by
    rcases Nat.eq_zero_or_pos n with h | h
    · subst h; simp [Lib.swapperK]
    · obtain rfl : n = 1 := by omega
      simp [Lib.swapperK]
  exact Any.sort_Slice_tiny Tryz.laySlice 22 3 siT siE (by kernel_rfl) (by kernel_rfl) (by kernel_rfl) (by kernel_rfl) 2 (fun _ => by kernel_rfl) p n c h1 (63 + 26 + n) (by
    rw [hK]
    rcases Nat.eq_zero_or_pos n with h | h
    · subst h; kernel_rfl
    · obtain rfl : n = 1 := by omega
      kernel_rfl) lf la lb w
theorem isl_slice {F : Mem} {H : List O} {μ : Nat → Value} {es n : Nat} {g : Nat → Nat → C} {x : Bool} {v : Value} (h : RepS F H μ (.c (.isl es n g x)) v) : ∃ p c, v = .slice p n c := by
  obtain ⟨a, cap, h, _⟩ := h
  exact ⟨a, cap, h⟩
theorem sortSlice_body : HasBody Tryz.prog 63 := hB Tryz.func63
theorem sortSlice_has : ∃ fn : Func, Tryz.prog.funcs[63]? = some fn ∧ fn.body.isSome = true ∧ (fn.name == "runtime.NumGoroutine") = false := by
  obtain ⟨fn, f1, f2, f3⟩ := sortSlice_body
  exact ⟨fn, f1, f2, f3⟩
theorem order_spec (l : List Evt) (rest : List Int) (hl : l.length ≤ 10000000) (hr : rest.length ≤ 1) : PSpec Tryz.prog 36 [.c (evC l), .c (intsC rest)] (.c (intsC rest)) := by
  refine PSpec.rm ?_
  refine CSpec.of_aw hΓ Tryz.func36 29 0 [.tmp 4] Tryz.ntmps36 ?_
  refine AWn.seq hΓ ?_
  ((conv=>whnf);(repeat' ((first|refine Nd ?_|refine Hv fun _h=>?_);conv=>whnf)))
  refine AWn.seq hΓ ?_
  ((conv=>whnf);(repeat' ((first|refine Nd ?_|refine Hv fun _h=>?_);conv=>whnf)))
  refine AWn.seq hΓ ?_
  ((conv=>whnf);(repeat' ((first|refine Nd ?_|refine Hv fun _h=>?_);conv=>whnf)))
  refine Lp.mkK hΓ (ι := Nat) [3, 4, 5, 9, 10] (fun k => [(11, .c (.int .i64 k))]) (fun k => [.vr [intsC rest], .mp (.c (some .i64)) [.i .i64] false (ksL l k) (valL l k), .vr [.mpr 1]]) (fun k => k ≤ l.length) (fun k => l.length - k) 0 (Nat.zero_le _) ?_ ?_
  · refine Mv.k1 ?_
    · intro k j _ hj
      have hj0 : j = 0 := by simpa using hj
      subst hj0
      exact leF.of_eq rfl
  · intro k hk
    ((conv=>whnf);(repeat' ((first|refine Nd ?_|refine Hv fun _h=>?_);conv=>whnf)))
    refine Br.of (fun h1=>?_) (fun h1=>?_)<;>(try simp only [Int.toNat_natCast] at h1)<;>(conv=>whnf)
    · ((conv=>whnf);(repeat' ((first|refine Nd ?_|refine Hv fun _h=>?_);conv=>whnf)))
      have hk' : k < l.length := by omega
      have e0 : (k : Int).toNat = k := by simp
      have hks : ksL l (k + 1) = if (l.getD k default).ret = true then ksL l k else updK (ksL l k) (keyS (l.getD k default).serial) := rfl
      have hvl : valL l (k + 1) = if (l.getD k default).ret = true then valL l k else updV (valL l k) (keyS (l.getD k default).serial) (lget [.int .i64 k]) := rfl
      rw [e0]
      generalize hx : l.getD k default = x at *
      cases hr2 : x.ret with
      | true =>
        rw [hr2, if_pos rfl] at hks hvl
        refine Br.no rfl ?_
        ((conv=>whnf);(repeat' ((first|refine Nd ?_|refine Hv fun _h=>?_);conv=>whnf)))
        refine ⟨k + 1, by omega, by omega, ?_⟩
        rw [hks, hvl]
        exact Mv.k0
      | false =>
        rw [hr2, if_neg (by simp)] at hks hvl
        refine Br.yes rfl ?_
        ((conv=>whnf);(repeat' ((first|refine Nd ?_|refine Hv fun _h=>?_);conv=>whnf)))
        refine ⟨k + 1, by omega, by omega, ?_⟩
        rw [hks, hvl]
        exact Mv.k0
    · ((conv=>whnf);(repeat' ((first|refine Nd ?_|refine Hv fun _h=>?_);conv=>whnf)))
      refine AWn.rw hΓ [_] [_, _, _] rfl ?_
      ((conv=>whnf);(repeat' ((first|refine Nd ?_|refine Hv fun _h=>?_);conv=>whnf)))
      refine RwN.sortTiny (n := rest.length) rfl rfl rfl rfl rfl rfl rfl rfl rfl ⟨rfl, rfl, rfl⟩ rfl (e := 3) ?_ ?_ ?_ ?_ ?_
      · kernel_rfl
      · exact fun F μ v hv => isl_slice hv
      · exact sortSlice_has
      · exact fun p c lf la lb w => tiny_spec p rest.length c hr lf la lb w
      · refine AWn.ofVc hΓ ?_
        ((conv=>whnf);(repeat' ((first|refine Nd ?_|refine Hv fun _h=>?_);conv=>whnf)))
        exact RM.i0
theorem order_body : HasBody Tryz.prog 36 := hB Tryz.func36
end Go.Proofs
