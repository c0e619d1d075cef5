import Derived.ProofKit
import Derived.RowKit3
import Derived.Test.YtbdhjlanfigdgaaA23
namespace Go.Am
open Go.ChangeShapes Go.WideShapes

/-- Everything that was there is there. -/
structure Stays (w w' : World) : Prop where
  os : w'.os = w.os
  output : w'.output = w.output
  heap : ∀ (b : Nat) (o : Obj), w.heap[b]? = some o → w'.heap[b]? = some o

theorem Stays.kept {w w' : World} (h : Stays w w') (may : MemPlace → Prop) : w.keptBut w' may := by
  refine ⟨h.os, h.output, fun i hi => ?_⟩
  have e : w.heap[i]? = some w.heap[i] := by simp [hi]
  have e' := h.heap i _ e
  rw [e, e']
  cases w.heap[i] with
  | cells c t fr => exact ⟨rfl, rfl, rfl, fun _ _ => rfl⟩
  | map es clock => exact .inr ⟨rfl, rfl⟩
  | _ => rfl


/-- A law: it returns true. -/
theorem PSpec.law {P : Program} {f : FuncId} {args : List S} (h : PSpec P f args (.c (.bool true))) (w : World) (vs : Array Value) (hA : RepA (heapM w) [] (fun _ => undef) args vs) :
    Calls P f vs w fun e w' => e = .returned (.bool true) ∧ Stays w w' := by
  have hw0 : HSat ⟨fun _ => none, w.os, w.tape, w.output⟩ (heapM w) [] (fun _ => undef) w :=
    ⟨rfl, rfl, rfl, fun b o hb => hb, fun b o hb => (by cases hb), fun id o ho => by simp [getL] at ho, fun id b ⟨⟨o, ho, _⟩, _⟩ => by simp [getL] at ho, fun id id' b ⟨⟨o, ho, _⟩, _⟩ => by simp [getL] at ho, fun _ _ _ => rfl⟩
  refine (h _ (heapM w) (fun _ => undef) w vs hw0 hA).mono ?_
  rintro e w' ⟨v, F', μ', s, H', rfl, h1, h2, h3, h4, rfl⟩
  exact ⟨congrArg _ h4, h2.os, h2.output, fun b o hb => h2.fr b o (h1 b o hb)⟩

theorem RepA.ints {F : Mem} {μ : Nat → Value} : ∀ (l : List (IntKind × Int)), RepA F [] μ (l.map fun x => .c (.int x.1 x.2)) (l.map fun x => Value.int x.1 x.2).toArray := by
  intro l
  refine ⟨by simp, fun j s hs => ?_⟩
  rw [getL_eq, List.getElem?_map] at hs
  cases hx : l[j]? with
  | none => rw [hx] at hs; cases hs
  | some x =>
    rw [hx] at hs
    cases hs
    exact ⟨.int x.1 x.2, by simp [hx], rfl⟩

section
variable {H : Type} {enc : TypeId × Value → H} {P : Program}

theorem post_stays {f : Func} {s : ChangeSpec} {apart fresh handsOn : Bool} {W W' : World} {args : Array Value} {v : Value} {ds gs : List (DataW H)} {before pa pv : List MemPlace}
    (hW : DataW.Whole enc P f.params.toList s.vars apart W args.toList ds gs before)
    (hres : ∀ (b : Nat) (sp : Nat → Bool) (hd : Bool), DataW.TrodAll enc P W' b sp hd f.resultTypes.toList (v.resultList f.resultTypes.size) (s.fn H (ds ++ gs)).results [])
    (hargs : DataW.TrodAll enc P W' 0 (fun b => decide (b < W.heap.size)) true f.params.toList args.toList (s.fn H (ds ++ gs)).args pa)
    (hvars : DataW.TrodVars enc P W' (fun b => decide (b < W.heap.size)) s.vars (s.fn H (ds ++ gs)).vars pv)
    (hk : Stays W W') : s.post enc P f apart fresh handsOn false W args v W' :=
  ⟨ds, gs, before, [], pa, pv, hW, hres _ _ _, hargs, hvars, hk.kept _, fun e => by cases e⟩
end
end Go.Am
