/- Part of the proofs of laws of this seat: contracts and plain lemmas; no condition is added to a statement. -/
import Derived.Test.YtmpoogflpmaijaaGreatLinE
import Derived.Test.YtmpoogflpmaijaaGreatLinC
set_option linter.unusedSimpArgs false
set_option linter.unusedVariables false
section
open Go Go.Am
namespace Go.Proofs
/-! ### the reference's search -/
abbrev Sr := List (Nat × ByteArray) × List ByteArray
def condR (pr : PrR) (d : Nat) (i : Nat) : Bool := !d.testBit i && !(skipR pr.ops).testBit i && decide (mdiff (pr.first.getD i default) d &&& mustR pr.ops = 0)
def stepR (pr : PrR) (d : Nat) (v : ByteArray) (i : Nat) : Bool := condR pr d i && stepOk [v] (pr.ops.getD i default)
def enterR (pr : PrR) (d : Nat) (v : ByteArray) (σ : Sr) : Sr := (σ.1 ++ [(d, v)], if mdiff (mustR pr.ops) d = 0 then putM σ.2 v else σ.2)
def loopR (g : Nat → Sr → Option (List Int) × Sr) (σ : Sr) : Nat → Option (List Int) × Sr
  | 0 => (none, σ)
  | k + 1 => match loopR g σ k with
    | (some l, σ') => (some l, σ')
    | (none, σ') => g k σ'
def consR (s : Int) (r : Option (List Int) × Sr) : Option (List Int) × Sr := (r.1.map (fun l => s :: l), r.2)
def visitM (pr : PrR) (all : Bool) : Nat → Nat → ByteArray → Sr → Option (List Int) × Sr
  | 0, _, _, σ => (none, σ)
  | f + 1, d, v, σ => if (d, v) ∈ σ.1 then (none, σ) else
    if all = false ∧ mdiff (mustR pr.ops) d = 0 then (some [], (σ.1 ++ [(d, v)], σ.2)) else
    loopR (fun i σ => if stepR pr d v i = true then consR (pr.ops.getD i default).serial (visitM pr all f (d ||| 2 ^ i) (nextV v (pr.ops.getD i default)) σ) else (none, σ)) (enterR pr d v σ) pr.ops.length
def tryR (pr : PrR) (all : Bool) (f d : Nat) (v : ByteArray) (i : Nat) (σ : Sr) : Option (List Int) × Sr :=
  if stepR pr d v i = true then consR (pr.ops.getD i default).serial (visitM pr all f (d ||| 2 ^ i) (nextV v (pr.ops.getD i default)) σ) else (none, σ)
theorem visitM_succ (pr : PrR) (all : Bool) (f d : Nat) (v : ByteArray) (σ : Sr) : visitM pr all (f + 1) d v σ = if (d, v) ∈ σ.1 then (none, σ) else
    if all = false ∧ mdiff (mustR pr.ops) d = 0 then (some [], (σ.1 ++ [(d, v)], σ.2)) else loopR (tryR pr all f d v) (enterR pr d v σ) pr.ops.length := rfl
theorem loopR_stay {g : Nat → Sr → Option (List Int) × Sr} {σ : Sr} {k : Nat} {l : List Int} {σ' : Sr} (h : loopR g σ k = (some l, σ')) : ∀ m, loopR g σ (k + m) = (some l, σ')
  | 0 => h
  | m + 1 => by rw [show k + (m + 1) = (k + m) + 1 by omega, loopR, loopR_stay h m]
/-- What holds of a search at its end, if it holds at its beginning and each step keeps it. -/
theorem visitM_inv {pr : PrR} {all : Bool} (P : Sr → Prop) (Q : ByteArray → Prop) (h1 : ∀ d v σ, Q v → P σ → P (σ.1 ++ [(d, v)], σ.2)) (h2 : ∀ d v σ, Q v → P σ → P (enterR pr d v σ)) (h3 : ∀ v i, Q v → i < pr.ops.length → Q (nextV v (pr.ops.getD i default))) :
    ∀ (f d : Nat) (v : ByteArray) (σ : Sr), Q v → P σ → P (visitM pr all f d v σ).2
  | 0, _, _, _, _, h => h
  | f + 1, d, v, σ, hq, hp => by
    rw [visitM_succ]
    split
    · exact hp
    · split
      · exact h1 d v σ hq hp
      · have h0 := h2 d v σ hq hp
        generalize enterR pr d v σ = σ0 at h0
        have key : ∀ k, k ≤ pr.ops.length → P (loopR (tryR pr all f d v) σ0 k).2 := by
          intro k
          induction k with
          | zero => intro _; exact h0
          | succ k ih =>
            intro hk
            have ih := ih (by omega)
            rw [loopR]
            generalize loopR (tryR pr all f d v) σ0 k = r at ih
            obtain ⟨o, σ'⟩ := r
            cases o with
            | some l => exact ih
            | none =>
              show P (tryR pr all f d v k σ').2
              unfold tryR
              split
              · exact visitM_inv P Q h1 h2 h3 f _ _ _ (h3 v k hq (by omega)) ih
              · exact ih
        exact key _ (Nat.le_refl _)
theorem visitM_len {pr : PrR} {all : Bool} : ∀ (f d : Nat) (v : ByteArray) (σ : Sr) (l : List Int), (visitM pr all f d v σ).1 = some l → l.length ≤ f
  | 0, _, _, _, _, h => by cases h
  | f + 1, d, v, σ, l, h => by
    rw [visitM_succ] at h
    split at h
    · cases h
    · split at h
      · cases h; simp
      · generalize enterR pr d v σ = σ0 at h
        have key : ∀ k l, (loopR (tryR pr all f d v) σ0 k).1 = some l → l.length ≤ f + 1 := by
          intro k
          induction k with
          | zero => intro l h; cases h
          | succ k ih =>
            intro l h
            rw [loopR] at h
            generalize hr : loopR (tryR pr all f d v) σ0 k = r at ih h
            obtain ⟨o, σ'⟩ := r
            cases o with
            | some l' => exact ih l h
            | none =>
              have h' : (tryR pr all f d v k σ').1 = some l := h
              unfold tryR at h'
              split at h'
              · unfold consR at h'
                simp only [Option.map_eq_some_iff] at h'
                obtain ⟨l', q1, q2⟩ := h'
                have := visitM_len f _ _ _ l' q1
                subst q2
                simp only [List.length_cons]; omega
              · cases h'
        exact key _ l h
/-- The values that a search can come to. -/
def valsR (pr : PrR) (v0 : ByteArray) : List ByteArray := v0 :: zeroB :: pr.ops.map Evt.data
def EndsOk (pr : PrR) (v0 : ByteArray) (σ : Sr) : Prop := asc σ.2 ∧ ∀ x ∈ σ.2, x ∈ valsR pr v0
theorem vals_next {pr : PrR} {v0 v : ByteArray} {i : Nat} (h : v ∈ valsR pr v0) (hi : i < pr.ops.length) : nextV v (pr.ops.getD i default) ∈ valsR pr v0 := by
  rcases nextV_cases v (pr.ops.getD i default) with e | e | e
  · rw [e]; exact h
  · rw [e, getD_at hi]
    exact List.mem_cons_of_mem _ (List.mem_cons_of_mem _ (List.mem_map.2 ⟨_, List.getElem_mem hi, rfl⟩))
  · rw [e]; simp [valsR]
theorem EndsOk.enter {pr : PrR} {v0 v : ByteArray} {σ : Sr} (h : EndsOk pr v0 σ) (hv : v ∈ valsR pr v0) (d : Nat) : EndsOk pr v0 (enterR pr d v σ) := by
  unfold enterR EndsOk
  split
  · obtain ⟨h1, h2⟩ := putM_asc (v := v) h.1
    refine ⟨h1, fun x hx => ?_⟩
    rcases (h2 x).1 hx with q | q
    · exact h.2 x q
    · rw [q]; exact hv
  · exact h
theorem EndsOk.visit {pr : PrR} {all : Bool} {v0 v : ByteArray} {σ : Sr} (h : EndsOk pr v0 σ) (hv : v ∈ valsR pr v0) (f d : Nat) : EndsOk pr v0 (visitM pr all f d v σ).2 :=
  visitM_inv (P := EndsOk pr v0) (Q := fun v => v ∈ valsR pr v0) (fun d v σ _ h => h) (fun d v σ hv h => h.enter hv d) (fun v i hv hi => vals_next hv hi) f d v σ hv h
theorem EndsOk.few {pr : PrR} {v0 : ByteArray} {σ : Sr} (h : EndsOk pr v0 σ) : σ.2.length ≤ pr.ops.length + 2 := by
  have hn : σ.2.Nodup := by
    have := h.1
    unfold asc at this
    exact this.imp fun {a b} hab q => by subst q; rw [strLt_irrefl] at hab; cases hab
  have := nodup_len hn h.2
  simpa [valsR] using this
end Go.Proofs
end

section
open Go Go.Am
namespace Go.Proofs
/-! ### what the reference's search finds -/
inductive SubR (pr : PrR) : Nat × ByteArray → Nat × ByteArray → Prop
  | refl (x : Nat × ByteArray) : SubR pr x x
  | head {d : Nat} {v : ByteArray} {i : Nat} {y : Nat × ByteArray} (hi : i < pr.ops.length) (hs : stepR pr d v i = true) (h : SubR pr (d ||| 2 ^ i, nextV v (pr.ops.getD i default)) y) : SubR pr (d, v) y
theorem SubR.tail {pr : PrR} {x : Nat × ByteArray} {d : Nat} {v : ByteArray} {i : Nat} (h : SubR pr x (d, v)) (hi : i < pr.ops.length) (hs : stepR pr d v i = true) : SubR pr x (d ||| 2 ^ i, nextV v (pr.ops.getD i default)) := by
  generalize hy : (d, v) = y at h
  induction h with
  | refl x => subst hy; exact .head hi hs (.refl _)
  | head hi' hs' _ ih => exact .head hi' hs' (ih hy)
def FullR (pr : PrR) (s : List (Nat × ByteArray)) (x : Nat × ByteArray) : Prop := ∀ y, SubR pr x y → y ∈ s
def InvR (pr : PrR) (s : List (Nat × ByteArray)) (r : Nat) : Prop := ∀ x ∈ s, rankN x.1 pr.ops.length ≤ r → FullR pr s x
def NeedR (pr : PrR) (x : Nat × ByteArray) : Prop := mdiff (mustR pr.ops) x.1 = 0
theorem stepR_rank {pr : PrR} {d : Nat} {v : ByteArray} {i : Nat} (hi : i < pr.ops.length) (hs : stepR pr d v i = true) : rankN (d ||| 2 ^ i) pr.ops.length + 1 = rankN d pr.ops.length := by
  unfold stepR condR at hs
  simp only [Bool.and_eq_true, Bool.not_eq_true'] at hs
  exact rankN_or hs.1.1.1 _ hi
structure VOk (pr : PrR) (all : Bool) (d : Nat) (v : ByteArray) (σ : Sr) (r : Option (List Int) × Sr) : Prop where
  sub : ∀ x ∈ σ.1, x ∈ r.2.1
  new : ∀ x ∈ r.2.1, x ∈ σ.1 ∨ rankN x.1 pr.ops.length ≤ rankN d pr.ops.length
  asc_ : asc r.2.2
  endS : ∀ w ∈ r.2.2, w ∈ σ.2 ∨ ∃ e, SubR pr (d, v) (e, w) ∧ NeedR pr (e, w)
  endK : ∀ w ∈ σ.2, w ∈ r.2.2
  keys : all = true → (∀ x ∈ σ.1, NeedR pr x → x.2 ∈ σ.2) → ∀ x ∈ r.2.1, NeedR pr x → x.2 ∈ r.2.2
  nd : all = false → r.1 = none → (∀ x ∈ σ.1, ¬ NeedR pr x) → ∀ x ∈ r.2.1, ¬ NeedR pr x
  some_ : ∀ o, r.1 = some o → all = false ∧ ∃ y, SubR pr (d, v) y ∧ NeedR pr y
  none_ : r.1 = none → InvR pr σ.1 (rankN d pr.ops.length) → InvR pr r.2.1 (rankN d pr.ops.length) ∧ (d, v) ∈ r.2.1
theorem consR_snd (s : Int) (r : Option (List Int) × Sr) : (consR s r).2 = r.2 := rfl
theorem consR_none {s : Int} {r : Option (List Int) × Sr} : (consR s r).1 = none ↔ r.1 = none := by simp [consR]
/-- What a loop over the operations keeps. -/
structure LOk (pr : PrR) (all : Bool) (d : Nat) (v : ByteArray) (σ : Sr) (k : Nat) (r : Option (List Int) × Sr) : Prop where
  sub : ∀ x ∈ σ.1, x ∈ r.2.1
  new : ∀ x ∈ r.2.1, x ∈ σ.1 ∨ rankN x.1 pr.ops.length ≤ rankN d pr.ops.length
  asc_ : asc r.2.2
  endS : ∀ w ∈ r.2.2, w ∈ σ.2 ∨ ∃ e, SubR pr (d, v) (e, w) ∧ NeedR pr (e, w)
  endK : ∀ w ∈ σ.2, w ∈ r.2.2
  keys : all = true → (∀ x ∈ σ.1, NeedR pr x → x.2 ∈ σ.2) → ∀ x ∈ r.2.1, NeedR pr x → x.2 ∈ r.2.2
  nd : all = false → r.1 = none → (∀ x ∈ σ.1, ¬ NeedR pr x) → ∀ x ∈ r.2.1, ¬ NeedR pr x
  some_ : ∀ o, r.1 = some o → all = false ∧ ∃ y, SubR pr (d, v) y ∧ NeedR pr y
  none_ : r.1 = none → (∀ x ∈ σ.1, rankN x.1 pr.ops.length ≤ rankN d pr.ops.length → x = (d, v) ∨ FullR pr σ.1 x) →
    (∀ x ∈ r.2.1, rankN x.1 pr.ops.length ≤ rankN d pr.ops.length → x = (d, v) ∨ FullR pr r.2.1 x) ∧ ∀ i, i < k → stepR pr d v i = true → (d ||| 2 ^ i, nextV v (pr.ops.getD i default)) ∈ r.2.1
theorem visit_ok {pr : PrR} {all : Bool} : ∀ (f d : Nat) (v : ByteArray) (σ : Sr), rankN d pr.ops.length < f → asc σ.2 → VOk pr all d v σ (visitM pr all f d v σ)
  | 0, _, _, _, h, _ => absurd h (Nat.not_lt_zero _)
  | f + 1, d, v, σ, hf, ha => by
    rw [visitM_succ]
    by_cases hc : (d, v) ∈ σ.1
    · rw [if_pos hc]
      exact ⟨fun x hx => hx, fun x hx => .inl hx, ha, fun w hw => .inl hw, fun w hw => hw, fun _ h => h, fun _ _ h => h, fun o h => (by cases h), fun _ h => ⟨h, hc⟩⟩
    rw [if_neg hc]
    by_cases hd : all = false ∧ mdiff (mustR pr.ops) d = 0
    · rw [if_pos hd]
      refine ⟨fun x hx => List.mem_append.2 (.inl hx), fun x hx => ?_, ha, fun w hw => .inl hw, fun w hw => hw, fun h => ?_, fun _ h => (by cases h), fun o h => ⟨hd.1, (d, v), .refl _, hd.2⟩, fun h => by cases h⟩
      · rcases List.mem_append.1 hx with h | h
        · exact .inl h
        · simp at h; subst h; exact .inr (Nat.le_refl _)
      · rw [hd.1] at h; cases h
    rw [if_neg hd]
    have h0 : (enterR pr d v σ).1 = σ.1 ++ [(d, v)] := rfl
    have h2 : (enterR pr d v σ).2 = if mdiff (mustR pr.ops) d = 0 then putM σ.2 v else σ.2 := rfl
    have ha0 : asc (enterR pr d v σ).2 := by
      rw [h2]; split
      · exact (putM_asc ha).1
      · exact ha
    have hm0 : ∀ w, w ∈ (enterR pr d v σ).2 ↔ w ∈ σ.2 ∨ (mdiff (mustR pr.ops) d = 0 ∧ w = v) := by
      intro w
      rw [h2]; split
      · rename_i c; rw [(putM_asc ha).2]; simp [c]
      · rename_i c; simp [c]
    generalize enterR pr d v σ = σ0 at *
    have key : ∀ k, k ≤ pr.ops.length → LOk pr all d v σ0 k (loopR (tryR pr all f d v) σ0 k) := by
      intro k
      induction k with
      | zero => exact fun _ => ⟨fun x hx => hx, fun x hx => .inl hx, ha0, fun w hw => .inl hw, fun w hw => hw, fun _ h => h, fun _ _ h => h, fun o h => (by cases h), fun _ h => ⟨h, fun i hi => absurd hi (Nat.not_lt_zero _)⟩⟩
      | succ k ih =>
        intro hk
        have ih := ih (by omega)
        rw [loopR]
        generalize loopR (tryR pr all f d v) σ0 k = W at ih
        obtain ⟨wo, W⟩ := W
        cases wo with
        | some l => exact ⟨ih.sub, ih.new, ih.asc_, ih.endS, ih.endK, ih.keys, fun _ h => (by cases h), ih.some_, fun h => by cases h⟩
        | none =>
          show LOk pr all d v σ0 (k + 1) (tryR pr all f d v k W)
          by_cases hst : stepR pr d v k = true
          · have hrk := stepR_rank (by omega) hst
            rw [show tryR pr all f d v k W = consR (pr.ops.getD k default).serial (visitM pr all f (d ||| 2 ^ k) (nextV v (pr.ops.getD k default)) W) by unfold tryR; rw [if_pos hst]]
            have j := visit_ok (pr := pr) (all := all) f (d ||| 2 ^ k) (nextV v (pr.ops.getD k default)) W (by omega) ih.asc_
            generalize visitM pr all f (d ||| 2 ^ k) (nextV v (pr.ops.getD k default)) W = V at j
            generalize hser : (pr.ops.getD k default).serial = s
            refine ⟨fun x hx => j.sub x (ih.sub x hx), fun x hx => ?_, j.asc_, fun w hw => ?_, fun w hw => j.endK w (ih.endK w hw), fun hal h => j.keys hal (ih.keys hal h), fun hal hn h => j.nd hal (consR_none.1 hn) (ih.nd hal rfl h), fun o ho => ?_, fun hn h => ?_⟩
            · rcases j.new x hx with h | h
              · exact ih.new x h
              · exact .inr (by omega)
            · rcases j.endS w hw with h | ⟨e, h1, h3⟩
              · exact ih.endS w h
              · exact .inr ⟨e, .head (by omega) hst h1, h3⟩
            · cases hV : V.1 with
              | none => rw [consR_none.2 hV] at ho; cases ho
              | some o' =>
                obtain ⟨q1, y, q2, q3⟩ := j.some_ o' hV
                exact ⟨q1, y, .head (by omega) hst q2, q3⟩
            · have hn' := consR_none.1 hn
              obtain ⟨i1, i2⟩ := ih.none_ rfl h
              have hI : InvR pr W.1 (rankN (d ||| 2 ^ k) pr.ops.length) := fun x hx hr => by
                rcases i1 x hx (by omega) with e | e
                · rw [e] at hr; simp only at hr; omega
                · exact e
              obtain ⟨j1, j2⟩ := j.none_ hn' hI
              refine ⟨fun x hx hr => ?_, fun i hi hsi => ?_⟩
              · rcases j.new x hx with hx' | hx'
                · rcases i1 x hx' hr with e | e
                  · exact .inl e
                  · exact .inr fun y hy => j.sub y (e y hy)
                · exact .inr (j1 x hx hx')
              · by_cases c : i = k
                · subst c; exact j2
                · exact j.sub _ (i2 i (by omega) hsi)
          · rw [show tryR pr all f d v k W = (none, W) by unfold tryR; rw [if_neg hst]]
            refine ⟨ih.sub, ih.new, ih.asc_, ih.endS, ih.endK, ih.keys, ih.nd, ih.some_, fun _ h => ?_⟩
            obtain ⟨i1, i2⟩ := ih.none_ rfl h
            refine ⟨i1, fun i hi hsi => ?_⟩
            by_cases c : i = k
            · subst c; exact absurd hsi hst
            · exact i2 i (by omega) hsi
    have K := key _ (Nat.le_refl _)
    generalize loopR (tryR pr all f d v) σ0 pr.ops.length = V at K
    have hdv : (d, v) ∈ V.2.1 := K.sub _ (by rw [h0]; simp)
    refine ⟨fun x hx => K.sub x (by rw [h0]; exact List.mem_append.2 (.inl hx)), fun x hx => ?_, K.asc_, fun w hw => ?_, fun w hw => K.endK w ((hm0 w).2 (.inl hw)), fun hal h => K.keys hal ?_, fun hal hn h => K.nd hal hn ?_, K.some_, fun hn h => ?_⟩
    · rcases K.new x hx with h | h
      · rw [h0] at h
        rcases List.mem_append.1 h with h | h
        · exact .inl h
        · simp at h; subst h; exact .inr (Nat.le_refl _)
      · exact .inr h
    · rcases K.endS w hw with h | h
      · rcases (hm0 w).1 h with h | ⟨h, rfl⟩
        · exact .inl h
        · exact .inr ⟨d, .refl _, h⟩
      · exact .inr h
    · intro x hx hN
      rw [h0] at hx
      rcases List.mem_append.1 hx with hx | hx
      · exact (hm0 _).2 (.inl (h x hx hN))
      · simp at hx; subst hx; exact (hm0 _).2 (.inr ⟨hN, rfl⟩)
    · intro x hx hN
      rw [h0] at hx
      rcases List.mem_append.1 hx with hx | hx
      · exact h x hx hN
      · simp at hx; subst hx; exact hd ⟨hal, hN⟩
    · obtain ⟨k1, k2⟩ := K.none_ hn fun x hx hr => by
        rw [h0] at hx
        rcases List.mem_append.1 hx with hx | hx
        · refine .inr fun y hy => ?_
          rw [h0]
          exact List.mem_append.2 (.inl (h x hx hr y hy))
        · simp at hx; exact .inl hx
      refine ⟨fun x hx hr => ?_, hdv⟩
      have hfull : FullR pr V.2.1 (d, v) := fun y hy => by
        generalize hz : (d, v) = z at hy
        cases hy with
        | refl => rw [← hz]; exact hdv
        | head hi hs hsub =>
          cases hz
          have hm := k2 _ hi hs
          have hrk := stepR_rank hi hs
          rcases k1 _ hm (Nat.le_of_succ_le (Nat.le_of_eq hrk)) with e | e
          · exfalso
            have := congrArg (fun p => rankN p.1 pr.ops.length) e
            simp only at this
            omega
          · exact e y hsub
      rcases k1 x hx hr with e | e
      · rw [e]; exact hfull
      · exact e
theorem visit_top {pr : PrR} {all : Bool} (v0 : ByteArray) (hn : pr.ops.length ≤ 20) : VOk pr all 0 v0 ([], []) (visitM pr all 21 0 v0 ([], [])) :=
  visit_ok 21 0 v0 ([], []) (by have := rankN_le 0 pr.ops.length; omega) List.Pairwise.nil
/-- One order is found exactly if there is one. -/
theorem visit_one {pr : PrR} {v0 : ByteArray} (hn : pr.ops.length ≤ 20) : (visitM pr false 21 0 v0 ([], [])).1.isSome = true ↔ ∃ y, SubR pr (0, v0) y ∧ NeedR pr y := by
  have h := visit_top (all := false) v0 hn
  generalize visitM pr false 21 0 v0 ([], []) = r at h
  obtain ⟨o, r⟩ := r
  cases o with
  | some o => exact ⟨fun _ => (h.some_ o rfl).2, fun _ => rfl⟩
  | none =>
    refine ⟨fun q => (by cases q), fun ⟨y, h1, h2⟩ => ?_⟩
    obtain ⟨k1, k2⟩ := h.none_ rfl (fun x hx => by cases hx)
    exact absurd h2 (h.nd rfl rfl (fun x hx => by cases hx) y (k1 _ k2 (Nat.le_refl _) y h1))
/-- All ends are found. -/
theorem visit_ends {pr : PrR} {v0 : ByteArray} (hn : pr.ops.length ≤ 20) : asc (visitM pr true 21 0 v0 ([], [])).2.2 ∧ ∀ w, w ∈ (visitM pr true 21 0 v0 ([], [])).2.2 ↔ ∃ e, SubR pr (0, v0) (e, w) ∧ NeedR pr (e, w) := by
  have h := visit_top (all := true) v0 hn
  generalize visitM pr true 21 0 v0 ([], []) = r at h
  obtain ⟨o, r⟩ := r
  refine ⟨h.asc_, fun w => ⟨fun hw => ?_, fun ⟨e, h1, h2⟩ => ?_⟩⟩
  · rcases h.endS w hw with q | q
    · cases q
    · exact q
  · cases o with
    | some o => have := (h.some_ o rfl).1; cases this
    | none =>
      obtain ⟨k1, k2⟩ := h.none_ rfl (fun x hx => by cases hx)
      exact h.keys rfl (fun x hx => by cases hx) (e, w) (k1 _ k2 (Nat.le_refl _) _ h1) h2
end Go.Proofs
end
