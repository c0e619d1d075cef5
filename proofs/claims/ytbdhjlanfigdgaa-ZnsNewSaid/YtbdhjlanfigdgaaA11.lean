import Derived.Test.YtbdhjlanfigdgaaA10
/- THE ABSTRACT MACHINE, PART 11: the operations that change what is tracked, all of them. -/
namespace Go.Am

def goodT (te : TI) : Bool := Nat.beq te.zero.length te.size && Nat.blt 0 te.size

theorem goodT_ok {te : TI} (h : goodT te = true) : te.zero.length = te.size ∧ 0 < te.size := by
  unfold goodT at h
  rw [Bool.and_eq_true] at h
  exact ⟨Nat.eq_of_beq_eq_true h.1, Nat.le_of_ble_eq_true h.2⟩

/-- The same operand twice. -/
def sameOp : Operand → Operand → Bool
  | .tmp a, .tmp b => Nat.beq a b
  | .const (.int _ a), .const (.int _ b) => decide (a = b)
  | _, _ => false

def eff (Γ : Env) (ts : Ts) (H : List O) (op : Op) : Option (List Prop × S × List O) :=
  match op with
  | .alloc t => match Γ.at t with
    | some i => forceL (zeroL i) fun cs => some ([], .c (.ptr H.length 0), H ++ [.vr cs])
    | none => none
  | .box _ x => match bare (opnd ts x) with
    | (p, s) => match s.cells with
      | some cs => some (p, .c (.ptr H.length 0), H ++ [.vr cs])
      | none => none
  | .store t a x => match Γ.at t with
    | some i => match bare (opnd ts a) with
      | (p, .c a) => match bare (opnd ts x) with
        | (q, s) => match s.cells with
          | some ys => match Nat.beq ys.length i.size with
            | true => match storeK H a ys with
              | some (r, H') => some (p ++ q ++ r, .u, H')
              | none => none
            | false => none
          | none => none
      | _ => none
    | none => none
  | .makeSlice t l c => match elemOf Γ t with
    | some (e, te) => match goodT te with
      | true => match bare (opnd ts l) with
        | (p, .c (.int _ l')) => match bare (opnd ts c) with
          | (q, .c (.int _ c')) => match makeK e te H l' c' (sameOp l c) with
            | (r, c, H') => some (p ++ q ++ r, .c c, H')
          | _ => none
        | _ => none
      | false => none
    | none => none
  | .buildSlice t len parts => match elemOf Γ t with
    | some (e, te) => match goodT te with
      | true => match buildSK e te ts H len parts.toList with
        | some (c, H') => some ([], .c c, H')
        | none => none
      | false => none
    | none => none
  | .call { callee := .builtin .append, args, argTypes } => match args.toList with
    | [x, y] => match argTypes.toList with
      | [t, t'] => match Nat.beq t t' with
        | true => match elemOf Γ t with
          | some (e, te) => match goodT te with
            | true => match bare (opnd ts x) with
              | (p, .c x) => match bare (opnd ts y) with
                | (q, .c y) => match appK e te H x y with
                  | some (r, c, H') => some (p ++ q ++ r, .c c, H')
                  | none => none
                | _ => none
              | _ => none
            | false => none
          | none => none
        | false => none
      | _ => none
    | _ => none
  | .call { callee := .builtin .copy, args, argTypes } => match args.toList with
    | [x, y] => match argTypes.toList with
      | [t, _] => match elemOf Γ t with
        | some (_, te) => match bare (opnd ts x) with
          | (p, .c x) => match bare (opnd ts y) with
            | (q, .c y) => match copyK te H x y with
              | some (r, c, H') => some (p ++ q ++ r, .c c, H')
              | none => none
            | _ => none
          | _ => none
        | none => none
      | _ => none
    | _ => none
  | _ => none

def nextVal : Next → Value
  | .value v => v
  | _ => undef

theorem eff_ok {P : Program} {Γ : Env} (hΓ : EnvOk P Γ) {K : Keep} {F : Mem} {H H' : List O} {μ : Nat → Value} {w : World} (hw : HSat K F H μ w) {ts : Ts} {a : Act} (hT : TSat F H μ ts a.tmps) (o : Oper) {ns : List Prop} {s : S}
    (h : eff Γ ts H o.op = some (ns, s, H')) (hn : ∀ q ∈ ns, q) :
    ∃ nx w' μ', (execOp a.eval o).run P w = .ok nx w' ∧ (nx = .skip ∨ ∃ v, nx = .value v) ∧ HSat K F H' μ' w' ∧ Ext H μ H' μ' ∧ RepS F H' μ' s (nextVal nx) := by
  have O := opnd_ok hT
  have B : ∀ {x : Operand} {p : List Prop} {s' : S}, bare (opnd ts x) = (p, s') → (∀ q ∈ p, q) → RepS F H μ s' (a.eval x) := fun hb hp => bare_ok (O _) hb hp
  unfold eff at h
  split at h
  · -- alloc
    rename_i t ho
    split at h
    · rename_i i hi
      rw [forceL_eq] at h
      cases h
      obtain ⟨z, z1, z2, _⟩ := zeroL_ok (P := P) (F := F) (H := H) (μ := μ) (hΓ t i hi) w
      obtain ⟨r, w', v', r1, r2, r3, r4⟩ := newVar_ok (P := P) hw t z z2
      refine ⟨.value r, w', _, ?_, .inr ⟨r, rfl⟩, r2, r3, r4⟩
      unfold execOp
      rw [ho]
      apply val1
      show (do let zero ← zeroValue t; pure (Value.pointer (some (← newVar t zero))) : Sem Value).run P w = _
      rw [bind_ok z1]
      exact r1
    · cases h
  · -- box
    rename_i t x ho
    split at h
    rename_i p s' hb
    split at h
    · rename_i cs hc
      cases h
      have hx := B hb hn
      obtain ⟨r, w', v', r1, r2, r3, r4⟩ := newVar_ok (P := P) hw t (a.eval x) (cells_ok hx hc)
      exact ⟨.value r, w', _, by unfold execOp; rw [ho]; exact val1 r1, .inr ⟨r, rfl⟩, r2, r3, r4⟩
    · cases h
  · -- store
    rename_i t ad x ho
    split at h
    · rename_i i hi
      split at h
      · rename_i p c hb1
        split at h
        rename_i q s' hb2
        split at h
        · rename_i ys hys
          split at h
          · rename_i hl
            split at h
            · rename_i r H'' hs
              cases h
              obtain ⟨w', r1, r2, r3⟩ := storeK_ok (P := P) hw (hΓ t i hi) (B hb1 (all_left (all_left hn))) (cells_ok (B hb2 (all_right (all_left hn))) hys) (Nat.eq_of_beq_eq_true hl) hs (all_right hn)
              refine ⟨.skip, w', μ, ?_, .inl rfl, r2, r3, trivial⟩
              unfold execOp
              rw [ho]
              simp only
              rw [bind_ok r1]
              rfl
            · cases h
          · cases h
        · cases h
      · cases h
    · cases h
  · -- makeSlice
    rename_i t l c ho
    split at h
    · rename_i e te he
      split at h
      · rename_i hg
        split at h
        · rename_i p kl l' hb1
          split at h
          · rename_i q kc c' hb2
            obtain ⟨hu, hte⟩ := elemOf_ok (P := P) hΓ he
            have h1 : a.eval l = .int kl l' := B hb1 (by
              cases h
              exact all_left (all_left hn))
            have h2 : a.eval c = .int kc c' := B hb2 (by
              cases h
              exact all_right (all_left hn))
            simp only [Option.some.injEq, Prod.mk.injEq] at h
            obtain ⟨rfl, rfl, rfl⟩ := h
            obtain ⟨r, w', μ', r1, r2, r3, r4⟩ := makeK_ok (P := P) hw hu hte (goodT_ok hg).1 (l := l') (c := c') (xq := sameOp l c) (kl := kl) (kc := kc) (all_right hn)
            exact ⟨.value r, w', μ', by unfold execOp; rw [ho]; simp only [h1, h2]; exact val1 r1, .inr ⟨r, rfl⟩, r2, r3, r4⟩
          · cases h
        · cases h
      · cases h
    · cases h
  · -- buildSlice
    rename_i t len parts ho
    split at h
    · rename_i e te he
      split at h
      · rename_i hg
        split at h
        · rename_i c H'' hb
          cases h
          obtain ⟨hu, hte⟩ := elemOf_ok (P := P) hΓ he
          obtain ⟨r, w', μ', r1, r2, r3, r4⟩ := buildSK_ok (P := P) hw hT hu hte (goodT_ok hg).1 hb
          exact ⟨.value r, w', μ', by unfold execOp; rw [ho]; exact val1 r1, .inr ⟨r, rfl⟩, r2, r3, r4⟩
        · cases h
      · cases h
    · cases h
  · -- append
    rename_i args argTypes ho
    split at h
    · rename_i x y hargs
      split at h
      · rename_i t t' htypes
        have ha : args = #[x, y] := by apply Array.toList_inj.1; simpa using hargs
        have hty : argTypes = #[t, t'] := by apply Array.toList_inj.1; simpa using htypes
        subst ha
        subst hty
        split at h
        · rename_i htt
          have : t = t' := Nat.eq_of_beq_eq_true htt
          subst this
          split at h
          · rename_i e te he
            split at h
            · rename_i hg
              split at h
              · rename_i p x' hb1
                split at h
                · rename_i q y' hb2
                  split at h
                  · rename_i r c H'' happ
                    cases h
                    obtain ⟨hu, hte⟩ := elemOf_ok (P := P) hΓ he
                    obtain ⟨v, w', μ', r1, r2, r3, r4⟩ := appK_ok (P := P) (ty := o.type) hw hu hte (goodT_ok hg).1 (goodT_ok hg).2 (B hb1 (all_left (all_left hn))) (B hb2 (all_right (all_left hn))) happ (all_right hn)
                    refine ⟨.value v, w', μ', ?_, .inr ⟨v, rfl⟩, r2, r3, r4⟩
                    have e : (#[x, y] : Array Operand).map a.eval = #[a.eval x, a.eval y] := by simp
                    unfold execOp
                    rw [ho]
                    show (do let d ← resolve a.eval _ o.type; invoke d.target d.args : Sem Next).run P w = _
                    simp only [resolve, invoke, builtin, e]
                    exact val1 r1
                  · cases h
                · cases h
              · cases h
            · cases h
          · cases h
        · cases h
      · cases h
    · cases h
  · -- copy
    rename_i args argTypes ho
    split at h
    · rename_i x y hargs
      split at h
      · rename_i t t' htypes
        have ha : args = #[x, y] := by apply Array.toList_inj.1; simpa using hargs
        have hty : argTypes = #[t, t'] := by apply Array.toList_inj.1; simpa using htypes
        subst ha
        subst hty
        split at h
        · rename_i e te he
          split at h
          · rename_i p x' hb1
            split at h
            · rename_i q y' hb2
              split at h
              · rename_i r c H'' hcp
                cases h
                obtain ⟨hu, hte⟩ := elemOf_ok (P := P) hΓ he
                obtain ⟨v, w', r1, r2, r3, r4⟩ := copyK_ok (P := P) (t2 := t') (ty := o.type) hw hu hte (B hb1 (all_left (all_left hn))) (B hb2 (all_right (all_left hn))) hcp (all_right hn)
                refine ⟨.value v, w', μ, ?_, .inr ⟨v, rfl⟩, r2, r3, r4⟩
                have e : (#[x, y] : Array Operand).map a.eval = #[a.eval x, a.eval y] := by simp
                unfold execOp
                rw [ho]
                show (do let d ← resolve a.eval _ o.type; invoke d.target d.args : Sem Next).run P w = _
                simp only [resolve, invoke, builtin, e]
                exact val1 r1
              · cases h
            · cases h
          · cases h
        · cases h
      · cases h
    · cases h
  · cases h

/-- What is known of a length. -/
def facts (ts : Ts) (op : Op) : List Prop :=
  match op with
  | .call { callee := .builtin .len, args, .. } => match args.toList with
    | [x] => match opnd ts x with
      | .c (.isl _ n _ _) => [n ≤ 9223372036854775807]
      | .c (.str s) => [s.size ≤ 9223372036854775807]
      | _ => []
    | _ => []
  | _ => []

theorem facts_ok {F : Mem} {H : List O} {μ : Nat → Value} {ts : Ts} {a : Act} (hT : TSat F H μ ts a.tmps) (op : Op) : ∀ q ∈ facts ts op, q := by
  intro q hq
  unfold facts at hq
  split at hq
  · split at hq
    · rename_i x _
      have hx := opnd_ok hT x
      split at hq
      · rename_i ho
        rw [ho] at hx
        obtain ⟨_, _, _, h1, _⟩ := hx
        rw [List.mem_singleton] at hq
        subst hq
        exact h1
      · rename_i ho
        rw [ho] at hx
        rw [List.mem_singleton] at hq
        subst hq
        exact hx.2
      · simp at hq
    · simp at hq
  · simp at hq

/-- A call of a function of the program: what is needed, the function, its arguments. -/
def argsK (ts : Ts) : List Operand → Option (List Prop × List S)
  | [] => some ([], [])
  | x :: r => match bare (opnd ts x) with
    | (p, s) => match argsK ts r with
      | some (q, l) => some (p ++ q, s :: l)
      | none => none

def capS (get : Nat → C) (off : Nat) : Nat → List S
  | 0 => []
  | n + 1 => .c (get off) :: capS get (off + 1) n

def callOf (ts : Ts) (op : Op) : Option (List Prop × FuncId × List S) :=
  match op with
  | .call { callee := .value f, args, .. } => match bare (opnd ts f) with
    | (p, .c (.fn (.func f) n get)) => match argsK ts args.toList with
      | some (q, l) => some (p ++ q, f, l ++ capS get 0 n)
      | none => none
    | _ => none
  | _ => none

def isCall : Op → Bool
  | .call { callee := .value _, .. } => true
  | _ => false

def RepA (F : Mem) (H : List O) (μ : Nat → Value) (args : List S) (vs : Array Value) : Prop :=
  vs.size = args.length ∧ ∀ (j : Nat) s, getL args j = some s → ∃ v, vs[j]? = some v ∧ RepS F H μ s v

theorem argsK_ok {F : Mem} {H : List O} {μ : Nat → Value} {ts : Ts} {a : Act} (hT : TSat F H μ ts a.tmps) : ∀ (xs : List Operand) (q : List Prop) (l : List S), argsK ts xs = some (q, l) → (∀ p ∈ q, p) →
    l.length = xs.length ∧ ∀ (j : Nat) s, getL l j = some s → ∃ v, (xs.map a.eval)[j]? = some v ∧ RepS F H μ s v
  | [], q, l, h, _ => by simp only [argsK, Option.some.injEq, Prod.mk.injEq] at h; obtain ⟨_, rfl⟩ := h; simp [getL]
  | x :: r, q, l, h, hq => by
    simp only [argsK] at h
    cases hb : bare (opnd ts x) with
    | mk p s =>
      cases hr : argsK ts r with
      | none => simp [hr] at h
      | some y =>
        obtain ⟨q', l'⟩ := y
        simp only [hb, hr, Option.some.injEq, Prod.mk.injEq] at h
        obtain ⟨rfl, rfl⟩ := h
        obtain ⟨h1, h2⟩ := argsK_ok hT r q' l' hr (all_right hq)
        refine ⟨by simp [h1], fun j s' hs => ?_⟩
        cases j with
        | zero => simp [getL] at hs; subst hs; exact ⟨_, by simp, bare_ok (opnd_ok hT x) hb (all_left hq)⟩
        | succ j => simp only [getL] at hs; simpa using h2 j s' hs

theorem capS_get (get : Nat → C) : ∀ (n off : Nat), (capS get off n).length = n ∧ ∀ (j : Nat) s, getL (capS get off n) j = some s → j < n ∧ s = .c (get (off + j))
  | 0, off => by simp [capS, getL]
  | n + 1, off => by
    obtain ⟨h1, h2⟩ := capS_get get n (off + 1)
    refine ⟨by simp [capS, h1], fun j s hs => ?_⟩
    cases j with
    | zero => simp [capS, getL] at hs; simp [hs]
    | succ j =>
      simp only [capS, getL] at hs
      obtain ⟨h3, h4⟩ := h2 j s hs
      exact ⟨by omega, by rw [h4]; congr 2; omega⟩

theorem callOf_ok {P : Program} {F : Mem} {H : List O} {μ : Nat → Value} {ts : Ts} {a : Act} (hT : TSat F H μ ts a.tmps) (o : Oper) {q : List Prop} {f : FuncId} {l : List S} (h : callOf ts o.op = some (q, f, l)) (hq : ∀ p ∈ q, p)
    {fn : Func} (hf : P.funcs[f]? = some fn) (hb : fn.body.isSome = true) (hname : (fn.name == "runtime.NumGoroutine") = false) (w : World) :
    ∃ vs, (execOp a.eval o).run P w = .ok (.enter f vs) w ∧ RepA F H μ l vs := by
  unfold callOf at h
  split at h
  · rename_i cal args argTypes ho
    split at h
    · rename_i p f' n get hb1
      split at h
      · rename_i q' l' ha
        cases h
        obtain ⟨cs, c1, c2, c3⟩ := bare_ok (opnd_ok hT _) hb1 (all_left hq)
        obtain ⟨a1, a2⟩ := argsK_ok hT _ _ _ ha (all_right hq)
        obtain ⟨k1, k2⟩ := capS_get get n 0
        refine ⟨args.map a.eval ++ cs, ?_, ?_, fun j s hs => ?_⟩
        · unfold execOp
          rw [ho]
          show (do let d ← resolve a.eval _ o.type; invoke d.target d.args : Sem Next).run P w = _
          simp only [resolve, c1, Deferred.ofValue]
          rw [bind_ok (show (pure _ : Sem Deferred).run P w = .ok _ w from rfl)]
          simp only [invoke, Array.empty_append]
          unfold callFunc
          rw [bind_ok (show program.run P w = .ok P w from rfl)]
          simp only [hf, hname]
          have : fn.body.isNone = false := by cases hfb : fn.body <;> simp_all
          simp only [this]
          rfl
        · simp [a1, k1, c2]
        · rw [getL_eq] at hs
          by_cases c : j < l'.length
          · rw [List.getElem?_append_left c, ← getL_eq] at hs
            obtain ⟨v, v1, v2⟩ := a2 j s hs
            refine ⟨v, ?_, v2⟩
            rw [Array.getElem?_append_left (by simpa [a1] using c)]
            simpa using v1
          · rw [List.getElem?_append_right (by omega), ← getL_eq] at hs
            obtain ⟨h3, h4⟩ := k2 _ s hs
            obtain ⟨v, v1, v2⟩ := c3 _ h3
            subst h4
            refine ⟨v, ?_, ?_⟩
            · rw [Array.getElem?_append_right (by simp [a1] at c ⊢; omega)]
              rw [← v1]
              congr 1
              simp [a1]
            · rw [Nat.zero_add]; exact v2
      · cases h
    · cases h
  · cases h

end Go.Am
