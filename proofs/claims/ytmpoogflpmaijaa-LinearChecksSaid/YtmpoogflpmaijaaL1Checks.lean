/- Part of the proofs of laws of this seat: contracts and plain lemmas; no condition is added to a statement. -/
import Derived.Test.YtmpoogflpmaijaaAmF
import Derived.Test.YtmpoogflpmaijaaLinB
import Derived.Test.YtmpoogflpmaijaaLi8
set_option linter.unusedSimpArgs false
set_option linter.unusedVariables false
open Go Go.Am
namespace Go.Proofs
set_option maxRecDepth 20000
set_option maxHeartbeats 2000000
theorem checks_spec (bs : List ByteArray) (l : List Evt) (o : List Int) : PSpec Try.prog 3 [.c (strsC bs), .c (evC l), .c (intsC o)] (.c (.bool true)) := by
  refine PSpec.rm ?_
  refine ov hΓ Try.func3 29 0 [.tmp 6] Try.ntmps3 Try.results3 ?_
  ((conv=>whnf);(repeat' ((first|refine Nd ?_|refine Hv fun _h=>?_);conv=>whnf)))
  refine CallN.pureA light19_body (light19_spec bs l ) ?_
  ((conv=>whnf);(repeat' ((first|refine Nd ?_|refine Hv fun _h=>?_);conv=>whnf)))
  refine Br.of (fun h=>?_) (fun h=>?_)<;>(try simp only [Int.toNat_natCast] at h)<;>(conv=>whnf)
  · ((conv=>whnf);(repeat' ((first|refine Nd ?_|refine Hv fun _h=>?_);conv=>whnf)))
    refine CallN.pureA awake_body (awake_spec ) ?_
    ((conv=>whnf);(repeat' ((first|refine Nd ?_|refine Hv fun _h=>?_);conv=>whnf)))
    exact RM.i0
  · ((conv=>whnf);(repeat' ((first|refine Nd ?_|refine Hv fun _h=>?_);conv=>whnf)))
    have hl : bs.length ≤ 20 ∧ l.length ≤ 60 ∧ o.length ≤ 60 := by
      by_cases c1 : bs.length ≤ 20 <;> by_cases c2 : l.length ≤ 60 <;> by_cases c3 : o.length ≤ 60 <;> simp_all <;> omega
    refine CallN.pureA lcheck_body (lcheck_spec bs l o (by omega) (by omega) (by omega) ) ?_
    ((conv=>whnf);(repeat' ((first|refine Nd ?_|refine Hv fun _h=>?_);conv=>whnf)))
    refine CallN.pureA rcheck_body (rcheck_spec bs l o (by omega) (by omega) (by omega) ) ?_
    ((conv=>whnf);(repeat' ((first|refine Nd ?_|refine Hv fun _h=>?_);conv=>whnf)))
    refine CallG.auto awake_body (fun _ => awake_spec ) ?_
    ((conv=>whnf);(repeat' ((first|refine Nd ?_|refine Hv fun _h=>?_);conv=>whnf)))
    rw [check_eq]
    exact RM.i0
theorem checks_body : HasBody Try.prog 3 := hB Try.func3
end Go.Proofs
