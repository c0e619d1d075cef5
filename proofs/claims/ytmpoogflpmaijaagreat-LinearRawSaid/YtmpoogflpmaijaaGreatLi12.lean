/- Part of the proofs of laws of this seat: contracts and plain lemmas; no condition is added to a statement. -/
import Derived.Test.YtmpoogflpmaijaaGreatLinG
set_option linter.unusedSimpArgs false
set_option linter.unusedVariables false
open Go Go.Am
namespace Go.Proofs
set_option maxRecDepth 20000
set_option maxHeartbeats 4000000
theorem visit_body : HasBody Tryz.prog 46 := hB Tryz.func46
def visitS (r : Option (List Int) × Sr) : S := .t [.inl (intsC (r.1.getD [])), .inl (.bool r.1.isSome)]
theorem andBit {d k : Nat} (hk : k < 62) (hd : d < 2 ^ 62) : (IntKind.i64.wrap (BitVec.ofInt IntKind.i64.bits (d : Int) &&& BitVec.ofInt IntKind.i64.bits ((2 ^ k : Nat) : Int)).toNat != 0) = d.testBit k := by
  rw [bits_and (by omega) (Nat.pow_lt_pow_right (by omega) (by omega))]
  rw [Bool.eq_iff_iff]
  simp only [bne_iff_ne, ne_eq]
  rw [show ((d &&& 2 ^ k : Nat) : Int) = 0 ↔ d &&& 2 ^ k = 0 by omega]
  constructor
  · intro h
    cases hb : d.testBit k with
    | true => rfl
    | false =>
      exfalso
      apply h
      refine Nat.eq_of_testBit_eq fun i => ?_
      rw [Nat.testBit_and, Nat.testBit_two_pow, Nat.zero_testBit]
      by_cases c : k = i
      · subst c; rw [hb]; rfl
      · simp [c]
  · intro h e
    have := congrArg (fun n => n.testBit k) e
    simp [Nat.testBit_and, h] at this
theorem consInts {l : List Int} {s : Int} {t : List C} {i j : Nat} (hi : i < 1 + l.length) (hj : j < 1) : appG (flatG 1 (C.int .i64 s :: t)) 1 (intsG .i64 l) i j = intsG .i64 (s :: l) i j := by
  have hj0 : j = 0 := by omega
  subst hj0
  unfold appG
  by_cases c : i < 1
  · have : i = 0 := by omega
    subst this
    rfl
  · rw [if_neg c]
    obtain ⟨m, rfl⟩ : ∃ m, i = m + 1 := ⟨i - 1, by omega⟩
    rfl
theorem visit_spec (pr : PrR) (all : Bool) (v0 : ByteArray) (hn : pr.ops.length ≤ 20) (hf : pr.first.length = pr.ops.length) (hfs : ∀ i, pr.first.getD i default < 2 ^ 62) :
    ∀ (f d : Nat) (v : ByteArray) (σ : Sr), f ≤ 1000 → rankN d pr.ops.length < f → d < 2 ^ 62 → v ∈ valsR pr v0 → EndsOk pr v0 σ →
      CSpec Tryz.prog 46 [.c (.ptr 0 0), .a [.int .i64 d, .str v], .c (.bool all)] [srO pr σ.2, seenO σ.1]
        fun s H => s = visitS (visitM pr all f d v σ) ∧ H = [srO pr (visitM pr all f d v σ).2.2, seenO (visitM pr all f d v σ).2.1]
  | 0, d, v, σ, _, h, _, _, _ => absurd h (Nat.not_lt_zero _)
  | f + 1, d, v, σ, hB, hr, hd, hv, hE => by
    have ih := fun d v σ => visit_spec pr all v0 hn hf hfs f d v σ (by omega)
    have hfew := hE.few
    have hfl : (firstL pr.first).length = pr.ops.length := firstL_len.trans hf
    refine CSpec.rm ?_
    rw [visitM_succ]
    refine ov hΓ Tryz.func46 126 2 [.tmp 6, .tmp 7] Tryz.ntmps46 Tryz.results46 ?_
    ((conv=>whnf);(repeat' ((first|refine Nd ?_|refine Hv fun _h=>?_);conv=>whnf)))
    refine Dr.mk hΓ hMix (by kernel_rfl) ?_; conv=>whnf
    ((conv=>whnf);(repeat' ((first|refine Nd ?_|refine Hv fun _h=>?_);conv=>whnf)))
    have hmem : memK (σ.1.map keyD) (.a [.i .i64 d, .s v]) = decide ((d, v) ∈ σ.1) := mem_keyD (p := (d, v))
    by_cases hm : (d, v) ∈ σ.1
    · refine Br.yes (by rw [hmem, decide_eq_true hm]) ?_
      ((conv=>whnf);(repeat' ((first|refine Nd ?_|refine Hv fun _h=>?_);conv=>whnf)))
      rw [if_pos hm]
      refine ⟨_, _, ?_, rfl, rfl⟩
      exact RM.w0
    · refine Br.no (by rw [hmem, decide_eq_false hm]) ?_
      ((conv=>whnf);(repeat' ((first|refine Nd ?_|refine Hv fun _h=>?_);conv=>whnf)))
      rw [if_neg hm]
      refine Dr.mk hΓ hMix (by kernel_rfl) ?_; conv=>whnf
      ((conv=>whnf);(repeat' ((first|refine Nd ?_|refine Hv fun _h=>?_);conv=>whnf)))
      have hmu : mustR pr.ops < 2 ^ 62 := maskB_small (by omega)
      have hsk : skipR pr.ops < 2 ^ 62 := maskB_small (by omega)
      refine CallN.autoQ [0, 1] must19_body (must19_spec pr σ.2 (σ.1 ++ [(d, v)]) hn) ?_ (h := ?_)
      rotate_left
      · refine wb1 ?_
        exact WO.seen_new hm
      ((conv=>whnf);(repeat' ((first|refine Nd ?_|refine Hv fun _h=>?_);conv=>whnf)))
      have hc2 : (IntKind.i64.wrap (BitVec.ofInt IntKind.i64.bits (mustR pr.ops : Int) &&& ~~~ BitVec.ofInt IntKind.i64.bits (d : Int)).toNat == 0) = decide (mdiff (mustR pr.ops) d = 0) := by
        rw [bits_diff (by omega) (by omega), Bool.eq_iff_iff, beq_iff_eq, decide_eq_true_eq]
        omega
      by_cases hz : mdiff (mustR pr.ops) d = 0
      · refine Br.yes (by rw [hc2, decide_eq_true hz]) ?_
        ((conv=>whnf);(repeat' ((first|refine Nd ?_|refine Hv fun _h=>?_);conv=>whnf)))
        cases hall : all with
        | false =>
          rw [hall] at ih
          refine Br.yes rfl ?_
          ((conv=>whnf);(repeat' ((first|refine Nd ?_|refine Hv fun _h=>?_);conv=>whnf)))
          rw [if_pos ⟨rfl, hz⟩]
          refine ⟨_, _, ?_, rfl, rfl⟩
          exact RM.w0
        | true =>
          rw [hall] at ih
          refine Br.no rfl ?_
          ((conv=>whnf);(repeat' ((first|refine Nd ?_|refine Hv fun _h=>?_);conv=>whnf)))
          rw [if_neg (by simp)]
          refine Dr.mk hΓ hMix (by kernel_rfl) ?_; conv=>whnf
          ((conv=>whnf);(repeat' ((first|refine Nd ?_|refine Hv fun _h=>?_);conv=>whnf)))
          refine CallP.auto put_body (put_spec σ.2 v (by omega) ) ?_
          ((conv=>whnf);(repeat' ((first|refine Nd ?_|refine Hv fun _h=>?_);conv=>whnf)))
          have hE0 := hE.enter hv d
          have hs0 : enterR pr d v σ = (σ.1 ++ [(d, v)], putM σ.2 v) := by unfold enterR; rw [if_pos hz]
          generalize hσ0 : enterR pr d v σ = σ0 at *
          rw [show putM σ.2 v = σ0.2 by rw [hs0]]
          have hs1 : σ.1 ++ [(d, v)] = σ0.1 := by rw [hs0]
          rw [hs1]
          clear hs0
          refine Lp.mkK hΓ (ι := Nat) [0, 2, 4, 8, 9] (fun k => [(10, .c (.int .i64 k))]) (fun k => [srO pr (loopR (tryR pr true f d v) σ0 k).2.2, seenO (loopR (tryR pr true f d v) σ0 k).2.1, .vr [.int .i64 d, .str v]]) (fun k => k ≤ pr.ops.length ∧ (loopR (tryR pr true f d v) σ0 k).1 = none ∧ EndsOk pr v0 (loopR (tryR pr true f d v) σ0 k).2) (fun k => pr.ops.length - k) 0 ⟨Nat.zero_le _, rfl, hE0⟩ ?_ ?_
          · rw [show loopR (tryR pr true f d v) σ0 0 = (none, σ0) from rfl]
            exact Mv.k0
          · rintro k ⟨hk, hno, hEk⟩
            have hlw : loopR (tryR pr true f d v) σ0 (k + 1) = tryR pr true f d v k (loopR (tryR pr true f d v) σ0 k).2 := by
              rw [loopR]
              generalize loopR (tryR pr true f d v) σ0 k = r at hno
              obtain ⟨o, σ'⟩ := r
              dsimp only at hno
              subst hno
              rfl
            have hstay : ∀ l σ', loopR (tryR pr true f d v) σ0 (k + 1) = (some l, σ') → k < pr.ops.length → loopR (tryR pr true f d v) σ0 pr.ops.length = (some l, σ') := fun l σ' q hlt => by
              have := loopR_stay q (pr.ops.length - (k + 1))
              rwa [show k + 1 + (pr.ops.length - (k + 1)) = pr.ops.length by omega] at this
            ((conv=>whnf);(repeat' ((first|refine Nd ?_|refine Hv fun _h=>?_);conv=>whnf)))
            refine Br.of (fun h3=>?_) (fun h3=>?_)<;>(try simp only [Int.toNat_natCast] at h3)<;>(conv=>whnf)
            · ((conv=>whnf);(repeat' ((first|refine Nd ?_|refine Hv fun _h=>?_);conv=>whnf)))
              have hk' : k < pr.ops.length := by omega
              have e0 : (k : Int).toNat = k := by simp
              refine Need.mk (by rw [wrapU (by omega)]; omega) ?_
              ((conv=>whnf);(repeat' ((first|refine Nd ?_|refine Hv fun _h=>?_);conv=>whnf)))
              rw [wrapU (by omega), bits_shl (by omega)]
              refine Dr.mk hΓ hMix (by kernel_rfl) ?_; conv=>whnf
              ((conv=>whnf);(repeat' ((first|refine Nd ?_|refine Hv fun _h=>?_);conv=>whnf)))
              rw [e0, firstL_get (by omega), bits_diff (by have := hfs k; omega) (by omega), bits_and (mdiff_lt (by have := hfs k; omega)) (by omega), andBit (by omega) hd, andBit (by omega) hsk]
              have hst : stepR pr d v k = (condR pr d k && stepOk [v] (pr.ops.getD k default)) := rfl
              have hcond : (bif bif d.testBit k then true else (skipR pr.ops).testBit k then true else ((mdiff (pr.first.getD k default) d &&& mustR pr.ops : Nat) : Int) != 0) = !condR pr d k := by
                unfold condR
                cases d.testBit k with
                | true => rfl
                | false =>
                  cases (skipR pr.ops).testBit k with
                  | true => rfl
                  | false =>
                    show (((mdiff (pr.first.getD k default) d &&& mustR pr.ops : Nat) : Int) != 0) = !(true && true && decide (mdiff (pr.first.getD k default) d &&& mustR pr.ops = 0))
                    rw [Bool.true_and, Bool.true_and, Bool.eq_iff_iff]
                    simp only [bne_iff_ne, ne_eq, Bool.not_eq_true', decide_eq_false_iff_not]
                    omega
              generalize hx : pr.ops.getD k default = x at *
              generalize hW : (loopR (tryR pr true f d v) σ0 k).2 = W at *
              have skip : stepR pr d v k = false → loopR (tryR pr true f d v) σ0 (k + 1) = (none, W) := fun q => by
                rw [hlw]; unfold tryR; rw [q, if_neg (by simp)]
              cases hA : condR pr d k with
              | false =>
                refine Br.yes (by rw [hcond, hA]; rfl) ?_
                ((conv=>whnf);(repeat' ((first|refine Nd ?_|refine Hv fun _h=>?_);conv=>whnf)))
                have hsk1 := skip (by rw [hst, hA]; rfl)
                refine ⟨k + 1, ⟨by omega, by rw [hsk1], by rw [hsk1]; exact hEk⟩, by omega, ?_⟩
                rw [hsk1]
                exact Mv.k0
              | true =>
                refine Br.no (by rw [hcond, hA]; rfl) ?_
                ((conv=>whnf);(repeat' ((first|refine Nd ?_|refine Hv fun _h=>?_);conv=>whnf)))
                refine Dr.mk hΓ hMix (by kernel_rfl) ?_; conv=>whnf
                ((conv=>whnf);(repeat' ((first|refine Nd ?_|refine Hv fun _h=>?_);conv=>whnf)))
                rw [e0, hx]
                refine CallP.auto next19_body (next19_spec x v ) ?_
                ((conv=>whnf);(repeat' ((first|refine Nd ?_|refine Hv fun _h=>?_);conv=>whnf)))
                cases hOk : stepOk [v] x with
                | false =>
                  refine Br.yes rfl ?_
                  ((conv=>whnf);(repeat' ((first|refine Nd ?_|refine Hv fun _h=>?_);conv=>whnf)))
                  have hsk1 := skip (by rw [hst, hA, hOk]; rfl)
                  refine ⟨k + 1, ⟨by omega, by rw [hsk1], by rw [hsk1]; exact hEk⟩, by omega, ?_⟩
                  rw [hsk1]
                  exact Mv.k0
                | true =>
                  refine Br.no rfl ?_
                  ((conv=>whnf);(repeat' ((first|refine Nd ?_|refine Hv fun _h=>?_);conv=>whnf)))
                  have hp2 : (2 : Nat) ^ k < 2 ^ 62 := Nat.pow_lt_pow_right (by omega) (by omega)
                  rw [bits_or (by omega) (by omega)]
                  have hc1 : d.testBit k = false := by
                    unfold condR at hA
                    simp only [Bool.and_eq_true, Bool.not_eq_true'] at hA
                    exact hA.1.1
                  have hrk := rankN_or hc1 pr.ops.length hk'
                  have hd2 : d ||| 2 ^ k < 2 ^ 62 := Nat.or_lt_two_pow hd hp2
                  have hv2 : nextV v x ∈ valsR pr v0 := hx ▸ vals_next hv hk'
                  have hrec := ih (d ||| 2 ^ k) (nextV v x) W (by omega) hd2 hv2 hEk
                  have hE2 := hEk.visit (all := true) hv2 f (d ||| 2 ^ k)
                  have hln := visitM_len (pr := pr) (all := true) f (d ||| 2 ^ k) (nextV v x) W
                  have htr : loopR (tryR pr true f d v) σ0 (k + 1) = consR x.serial (visitM pr true f (d ||| 2 ^ k) (nextV v x) W) := by
                    rw [hlw]; unfold tryR; rw [if_pos (by rw [hst, hA, hOk]; rfl), hx]
                  generalize visitM pr true f (d ||| 2 ^ k) (nextV v x) W = R at *
                  obtain ⟨o, W'⟩ := R
                  refine CallN.autoQ [0, 1] visit_body hrec ?_
                  ((conv=>whnf);(repeat' ((first|refine Nd ?_|refine Hv fun _h=>?_);conv=>whnf)))
                  cases o with
                  | none =>
                    refine Br.no rfl ?_
                    ((conv=>whnf);(repeat' ((first|refine Nd ?_|refine Hv fun _h=>?_);conv=>whnf)))
                    refine ⟨k + 1, ⟨by omega, by rw [htr]; rfl, by rw [htr]; exact hE2⟩, by omega, ?_⟩
                    rw [htr]
                    exact Mv.k0
                  | some l =>
                    have hll := hln l rfl
                    refine Br.yes rfl ?_
                    ((conv=>whnf);(repeat' ((first|refine Nd ?_|refine Hv fun _h=>?_);conv=>whnf)))
                    rw [hstay _ _ htr hk']
                    refine ⟨_, _, ?_, rfl, rfl⟩
                    rw [e0, hx]
                    refine RM.fz 3 rfl leN ?_ ?_
                    · intro i hi j hj
                      exact (congrArg C.imm (consInts (l := l) (s := x.serial) (t := []) hi hj)).trans rfl
                    refine RM.w1 ?_
                    · exact WC.fz rfl (show 1 + l.length = (x.serial :: l).length by simp only [List.length_cons]; omega) (fun i hi j hj => leF.of_eq (consInts (l := l) hi hj)) (fun q => by cases q)
            · ((conv=>whnf);(repeat' ((first|refine Nd ?_|refine Hv fun _h=>?_);conv=>whnf)))
              have hkn : k = pr.ops.length := by omega
              subst hkn
              have hlast : loopR (tryR pr true f d v) σ0 pr.ops.length = (none, (loopR (tryR pr true f d v) σ0 pr.ops.length).2) := by
                rw [← hno]
              rw [hlast]
              refine ⟨_, _, ?_, rfl, rfl⟩
              exact RM.w0
      · refine Br.no (by rw [hc2, decide_eq_false hz]) ?_
        ((conv=>whnf);(repeat' ((first|refine Nd ?_|refine Hv fun _h=>?_);conv=>whnf)))
        rw [if_neg (fun q => hz q.2)]
        have hE0 := hE.enter hv d
        have hs0 : enterR pr d v σ = (σ.1 ++ [(d, v)], σ.2) := by unfold enterR; rw [if_neg hz]
        generalize hσ0 : enterR pr d v σ = σ0 at *
        rw [show σ.2 = σ0.2 by rw [hs0]]
        have hs1 : σ.1 ++ [(d, v)] = σ0.1 := by rw [hs0]
        rw [hs1]
        clear hs0
        refine Lp.mkK hΓ (ι := Nat) [0, 2, 4, 8, 9] (fun k => [(10, .c (.int .i64 k))]) (fun k => [srO pr (loopR (tryR pr all f d v) σ0 k).2.2, seenO (loopR (tryR pr all f d v) σ0 k).2.1, .vr [.int .i64 d, .str v]]) (fun k => k ≤ pr.ops.length ∧ (loopR (tryR pr all f d v) σ0 k).1 = none ∧ EndsOk pr v0 (loopR (tryR pr all f d v) σ0 k).2) (fun k => pr.ops.length - k) 0 ⟨Nat.zero_le _, rfl, hE0⟩ ?_ ?_
        · rw [show loopR (tryR pr all f d v) σ0 0 = (none, σ0) from rfl]
          exact Mv.k0
        · rintro k ⟨hk, hno, hEk⟩
          have hlw : loopR (tryR pr all f d v) σ0 (k + 1) = tryR pr all f d v k (loopR (tryR pr all f d v) σ0 k).2 := by
            rw [loopR]
            generalize loopR (tryR pr all f d v) σ0 k = r at hno
            obtain ⟨o, σ'⟩ := r
            dsimp only at hno
            subst hno
            rfl
          have hstay : ∀ l σ', loopR (tryR pr all f d v) σ0 (k + 1) = (some l, σ') → k < pr.ops.length → loopR (tryR pr all f d v) σ0 pr.ops.length = (some l, σ') := fun l σ' q hlt => by
            have := loopR_stay q (pr.ops.length - (k + 1))
            rwa [show k + 1 + (pr.ops.length - (k + 1)) = pr.ops.length by omega] at this
          ((conv=>whnf);(repeat' ((first|refine Nd ?_|refine Hv fun _h=>?_);conv=>whnf)))
          refine Br.of (fun h3=>?_) (fun h3=>?_)<;>(try simp only [Int.toNat_natCast] at h3)<;>(conv=>whnf)
          · ((conv=>whnf);(repeat' ((first|refine Nd ?_|refine Hv fun _h=>?_);conv=>whnf)))
            have hk' : k < pr.ops.length := by omega
            have e0 : (k : Int).toNat = k := by simp
            refine Need.mk (by rw [wrapU (by omega)]; omega) ?_
            ((conv=>whnf);(repeat' ((first|refine Nd ?_|refine Hv fun _h=>?_);conv=>whnf)))
            rw [wrapU (by omega), bits_shl (by omega)]
            refine Dr.mk hΓ hMix (by kernel_rfl) ?_; conv=>whnf
            ((conv=>whnf);(repeat' ((first|refine Nd ?_|refine Hv fun _h=>?_);conv=>whnf)))
            rw [e0, firstL_get (by omega), bits_diff (by have := hfs k; omega) (by omega), bits_and (mdiff_lt (by have := hfs k; omega)) (by omega), andBit (by omega) hd, andBit (by omega) hsk]
            have hst : stepR pr d v k = (condR pr d k && stepOk [v] (pr.ops.getD k default)) := rfl
            have hcond : (bif bif d.testBit k then true else (skipR pr.ops).testBit k then true else ((mdiff (pr.first.getD k default) d &&& mustR pr.ops : Nat) : Int) != 0) = !condR pr d k := by
              unfold condR
              cases d.testBit k with
              | true => rfl
              | false =>
                cases (skipR pr.ops).testBit k with
                | true => rfl
                | false =>
                  show (((mdiff (pr.first.getD k default) d &&& mustR pr.ops : Nat) : Int) != 0) = !(true && true && decide (mdiff (pr.first.getD k default) d &&& mustR pr.ops = 0))
                  rw [Bool.true_and, Bool.true_and, Bool.eq_iff_iff]
                  simp only [bne_iff_ne, ne_eq, Bool.not_eq_true', decide_eq_false_iff_not]
                  omega
            generalize hx : pr.ops.getD k default = x at *
            generalize hW : (loopR (tryR pr all f d v) σ0 k).2 = W at *
            have skip : stepR pr d v k = false → loopR (tryR pr all f d v) σ0 (k + 1) = (none, W) := fun q => by
              rw [hlw]; unfold tryR; rw [q, if_neg (by simp)]
            cases hA : condR pr d k with
            | false =>
              refine Br.yes (by rw [hcond, hA]; rfl) ?_
              ((conv=>whnf);(repeat' ((first|refine Nd ?_|refine Hv fun _h=>?_);conv=>whnf)))
              have hsk1 := skip (by rw [hst, hA]; rfl)
              refine ⟨k + 1, ⟨by omega, by rw [hsk1], by rw [hsk1]; exact hEk⟩, by omega, ?_⟩
              rw [hsk1]
              exact Mv.k0
            | true =>
              refine Br.no (by rw [hcond, hA]; rfl) ?_
              ((conv=>whnf);(repeat' ((first|refine Nd ?_|refine Hv fun _h=>?_);conv=>whnf)))
              refine Dr.mk hΓ hMix (by kernel_rfl) ?_; conv=>whnf
              ((conv=>whnf);(repeat' ((first|refine Nd ?_|refine Hv fun _h=>?_);conv=>whnf)))
              rw [e0, hx]
              refine CallP.auto next19_body (next19_spec x v ) ?_
              ((conv=>whnf);(repeat' ((first|refine Nd ?_|refine Hv fun _h=>?_);conv=>whnf)))
              cases hOk : stepOk [v] x with
              | false =>
                refine Br.yes rfl ?_
                ((conv=>whnf);(repeat' ((first|refine Nd ?_|refine Hv fun _h=>?_);conv=>whnf)))
                have hsk1 := skip (by rw [hst, hA, hOk]; rfl)
                refine ⟨k + 1, ⟨by omega, by rw [hsk1], by rw [hsk1]; exact hEk⟩, by omega, ?_⟩
                rw [hsk1]
                exact Mv.k0
              | true =>
                refine Br.no rfl ?_
                ((conv=>whnf);(repeat' ((first|refine Nd ?_|refine Hv fun _h=>?_);conv=>whnf)))
                have hp2 : (2 : Nat) ^ k < 2 ^ 62 := Nat.pow_lt_pow_right (by omega) (by omega)
                rw [bits_or (by omega) (by omega)]
                have hc1 : d.testBit k = false := by
                  unfold condR at hA
                  simp only [Bool.and_eq_true, Bool.not_eq_true'] at hA
                  exact hA.1.1
                have hrk := rankN_or hc1 pr.ops.length hk'
                have hd2 : d ||| 2 ^ k < 2 ^ 62 := Nat.or_lt_two_pow hd hp2
                have hv2 : nextV v x ∈ valsR pr v0 := hx ▸ vals_next hv hk'
                have hrec := ih (d ||| 2 ^ k) (nextV v x) W (by omega) hd2 hv2 hEk
                have hE2 := hEk.visit (all := all) hv2 f (d ||| 2 ^ k)
                have hln := visitM_len (pr := pr) (all := all) f (d ||| 2 ^ k) (nextV v x) W
                have htr : loopR (tryR pr all f d v) σ0 (k + 1) = consR x.serial (visitM pr all f (d ||| 2 ^ k) (nextV v x) W) := by
                  rw [hlw]; unfold tryR; rw [if_pos (by rw [hst, hA, hOk]; rfl), hx]
                generalize visitM pr all f (d ||| 2 ^ k) (nextV v x) W = R at *
                obtain ⟨o, W'⟩ := R
                refine CallN.autoQ [0, 1] visit_body hrec ?_
                ((conv=>whnf);(repeat' ((first|refine Nd ?_|refine Hv fun _h=>?_);conv=>whnf)))
                cases o with
                | none =>
                  refine Br.no rfl ?_
                  ((conv=>whnf);(repeat' ((first|refine Nd ?_|refine Hv fun _h=>?_);conv=>whnf)))
                  refine ⟨k + 1, ⟨by omega, by rw [htr]; rfl, by rw [htr]; exact hE2⟩, by omega, ?_⟩
                  rw [htr]
                  exact Mv.k0
                | some l =>
                  have hll := hln l rfl
                  refine Br.yes rfl ?_
                  ((conv=>whnf);(repeat' ((first|refine Nd ?_|refine Hv fun _h=>?_);conv=>whnf)))
                  rw [hstay _ _ htr hk']
                  refine ⟨_, _, ?_, rfl, rfl⟩
                  rw [e0, hx]
                  refine RM.fz 3 rfl leN ?_ ?_
                  · intro i hi j hj
                    exact (congrArg C.imm (consInts (l := l) (s := x.serial) (t := []) hi hj)).trans rfl
                  refine RM.w1 ?_
                  · exact WC.fz rfl (show 1 + l.length = (x.serial :: l).length by simp only [List.length_cons]; omega) (fun i hi j hj => leF.of_eq (consInts (l := l) hi hj)) (fun q => by cases q)
          · ((conv=>whnf);(repeat' ((first|refine Nd ?_|refine Hv fun _h=>?_);conv=>whnf)))
            have hkn : k = pr.ops.length := by omega
            subst hkn
            have hlast : loopR (tryR pr all f d v) σ0 pr.ops.length = (none, (loopR (tryR pr all f d v) σ0 pr.ops.length).2) := by
              rw [← hno]
            rw [hlast]
            refine ⟨_, _, ?_, rfl, rfl⟩
            exact RM.w0
end Go.Proofs
