/- Part of the proofs of laws of this seat: contracts and plain lemmas; no condition is added to a statement. -/
import Derived.Test.YtmpoogflpmaijaaGreatAmG
set_option linter.unusedSimpArgs false
set_option linter.unusedVariables false
/- THE ABSTRACT MACHINE, PART 44: a call by hand at the end of a region: an interface value, a closure, and a function of both that adds nothing but new memory. -/
namespace Go.Am
theorem eval_put_ne {a : Act} {d t : Nat} {v : Value} (h : Nat.beq d t = false) : (a.put (some d) v).eval (.tmp t) = a.eval (.tmp t) := by
  have h' : d ≠ t := Nat.ne_of_beq_eq_false h
  show ((a.tmps.setIfInBounds d v).getD t undef) = a.tmps.getD t undef
  simp [Array.getD_eq_getD_getElem?, Array.getElem?_setIfInBounds_ne h']
theorem RwN.sortAny {X : Cx} {ops : Array Oper} {oI oF oC : Oper} {c : Code} {ts : Ts} {H : List O} {k : Kp} {T e dI dF dC fS t1 t2 : Nat} {x : Operand} {fn : Fn} {tys : Array TypeId}
    (hI : oI.op = .makeInterface T x) (gI : oI.guard = none) (dI' : oI.dst = some dI)
    (hF : oF.op = .makeFunc fn #[] #[.tmp t1, .tmp t2]) (gF : oF.guard = none) (dF' : oF.dst = some dF)
    (hC : oC.op = .call { callee := .value (.func fS), args := #[.tmp dI, .tmp dF], argTypes := tys }) (gC : oC.guard = none) (dC' : oC.dst = some dC)
    (hd : Nat.blt dI X.nt = true ∧ Nat.blt dF X.nt = true ∧ Nat.blt dC X.nt = true) (hne : Nat.beq dI dF = false) (hn1 : Nat.beq dI t1 = false) (hn2 : Nat.beq dI t2 = false)
    (hu : X.P.underlying T = some (.slice e))
    (hb : ∃ fn : Func, X.P.funcs[fS]? = some fn ∧ fn.body.isSome = true ∧ (fn.name == "runtime.NumGoroutine") = false)
    (hS : ∀ K F0 H0 μ0 F μ a w, Sat X K F0 H0 μ0 ts H F μ a w → Calls X.P fS #[.iface T (a.eval x), .func fn #[] #[a.eval (.tmp t1), a.eval (.tmp t2)]] w fun e w' => e = .returned (.tuple #[]) ∧ w.grownBy w' none)
    (h : AWn X c ((dC, .u) :: (dF, .u) :: (dI, .u) :: ts) H k) : RwN X ops [oI, oF, oC] c ts H k := by
  refine ⟨fun K F0 H0 μ0 F μ a w hs => ?_⟩
  obtain ⟨d1, d2, d3⟩ := hd
  have hcall := hS K F0 H0 μ0 F μ a w hs
  refine wpList_step fun k1 hk1 => ?_
  simp only [Region.wanted, gI, if_true]
  unfold Oper.wp
  have r1 : (execOp a.eval oI).run X.P w = .ok (.value (.iface T (a.eval x))) w := by
    unfold execOp
    rw [hI]
    refine val1 ?_
    simp [Instr.makeInterface, run_underlying hu]
  rw [r1, Oper.upon_value, dI']
  refine hk1 _ _ ?_
  generalize a.eval x = vx at hcall ⊢
  refine wpList_step fun k2 hk2 => ?_
  simp only [Region.wanted, gF, if_true]
  unfold Oper.wp
  have r2 : (execOp (a.put (some dI) (.iface T vx)).eval oF).run X.P w = .ok (.value (.func fn #[] #[a.eval (.tmp t1), a.eval (.tmp t2)])) w := by
    unfold execOp
    rw [hF]
    refine val1 ?_
    simp [Instr.makeFunc, eval_put_ne hn1, eval_put_ne hn2]
  rw [r2, Oper.upon_value, dF']
  refine hk2 _ _ ?_
  generalize (#[a.eval (.tmp t1), a.eval (.tmp t2)] : Array Value) = cs at hcall ⊢
  refine wpList_step fun k3 hk3 => ?_
  simp only [Region.wanted, gC, if_true]
  unfold Oper.wp
  have l1 : dI < a.tmps.size := by rw [hs.sz]; exact Nat.le_of_ble_eq_true d1
  have l2 : dF < a.tmps.size := by rw [hs.sz]; exact Nat.le_of_ble_eq_true d2
  have hne' : dI ≠ dF := Nat.ne_of_beq_eq_false hne
  obtain ⟨fnn, f1, f2, f3⟩ := hb
  have r3 : (execOp ((a.put (some dI) (.iface T vx)).put (some dF) (.func fn #[] cs)).eval oC).run X.P w = .ok (.enter fS #[.iface T vx, .func fn #[] cs]) w := by
    unfold execOp
    rw [hC]
    show (do let d ← resolve _ _ oC.type; invoke d.target d.args : Sem Next).run X.P w = _
    simp only [resolve]
    show (do let d ← Deferred.ofValue (Value.func (.func fS) #[] #[]) _; invoke d.target d.args : Sem Next).run X.P w = _
    simp only [Deferred.ofValue]
    rw [bind_ok (show (pure _ : Sem Deferred).run X.P w = .ok _ w from rfl)]
    simp only [invoke, Array.empty_append, Array.append_empty]
    unfold callFunc
    rw [bind_ok (show program.run X.P w = .ok X.P w from rfl)]
    simp only [f1, f3]
    have : fnn.body.isNone = false := by cases hfb : fnn.body <;> simp_all
    simp only [this]
    have e1 : ((a.put (some dI) (.iface T vx)).put (some dF) (.func fn #[] cs)).eval (.tmp dI) = .iface T vx := by
      show (((a.tmps.setIfInBounds dI _).setIfInBounds dF _).getD dI undef) = _
      simp [Array.getD, l1, l2, Array.getElem_setIfInBounds, Ne.symm hne']
    have e2 : ((a.put (some dI) (.iface T vx)).put (some dF) (.func fn #[] cs)).eval (.tmp dF) = .func fn #[] cs := by
      show (((a.tmps.setIfInBounds dI _).setIfInBounds dF _).getD dF undef) = _
      simp [Array.getD, l2, Array.getElem_setIfInBounds]
    simp only [List.map_toArray, List.map_cons, List.map_nil, e1, e2]
    rfl
  rw [r3, Oper.upon_enter]
  refine hcall.mono ?_
  rintro e' w' ⟨rfl, hg⟩
  rw [dC']
  refine hk3 _ _ ?_
  show c.wp X.P _ _ _
  refine h.out K F0 H0 μ0 F μ _ _ ⟨hs.le, hs.ext, hs.hs.grown hg, ?_, by simp [Act.put, hs.sz], hs.df, hs.n0⟩
  exact TSat.put_u (TSat.put_u (TSat.put_u hs.tp))
end Go.Am
