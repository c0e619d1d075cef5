/- Contracts, lemmas; no condition. -/
import Derived.Test.YtjjlblnbeggejaaGreatP05
set_option linter.all false
section
namespace Go.Am
variable {P : Program} {Γ : Env} {K : Keep} {F : Mem} {H : List O} {μ : Nat → Value} {w : World} {ts : Ts} {a : Act} {ns q : List Prop} {s : S} {f : FuncId} {l : List S}
def QeG (te : TI) : Bool := Nat.beq te.zero.length te.size && Nat.blt 0 te.size
theorem Qbz {te : TI} (h : QeG te = true) : te.zero.length = te.size ∧ 0 < te.size := by
 unfold QeG at h
 rw [QxA] at h
 exact ⟨QxD h.1, QxJ h.2⟩
def QcW : Operand → Operand → Bool
 | .tmp a, .tmp b => Nat.beq a b
 | .const (.int _ a), .const (.int _ b) => decide (a = b)
 | _, _ => false
def eff (Γ : Env) (ts : Ts) (H : List O) (op : Op) : Option (List Prop × S × List O) :=
 match op with
 | .alloc t => match Γ.at t with
  | some i => QfC (QN i) fun cs => some ([], .c (.ptr H.length 0), H ++ [.vr cs])
  | none => none
 | .box _ x => match bare (opnd ts x) with
  | (p, s) => match s.cells with
   | some cs => some (p, .c (.ptr H.length 0), H ++ [.vr cs])
   | none => none
 | .store t a x => match Γ.at t with
  | some i => match bare (opnd ts a) with
   | (p, .c a) => match bare (opnd ts x) with
    | (q, s) => match s.cells with
     | some ys => match Nat.beq ys.length i.size with
      | true => match Qen H a ys with
       | some (r, H') => some (p ++ q ++ r, .u, H')
       | none => none
      | false => none
     | none => none
   | _ => none
  | none => none
 | .makeSlice t l c => match Q2 Γ t with
  | some (e, te) => match QeG te with
   | true => match bare (opnd ts l) with
    | (p, .c (.int _ l')) => match bare (opnd ts c) with
     | (q, .c (.int _ c')) => match Qbt e te H l' c' (QcW l c) with
      | (r, c, H') => some (p ++ q ++ r, .c c, H')
     | _ => none
    | _ => none
   | false => none
  | none => none
 | .buildSlice t len parts => match Q2 Γ t with
  | some (e, te) => match QeG te with
   | true => match Qdg e te ts H len parts.toList with
    | some (c, H') => some (QaD ts parts.toList, .c c, H')
    | none => none
   | false => none
  | none => none
 | .call { callee := .builtin .append, args, argTypes } => match args.toList with
  | [x, y] => match argTypes.toList with
   | [t, t'] => match Nat.beq t t' with
    | true => match Q2 Γ t with
     | some (e, te) => match QeG te with
      | true => match bare (opnd ts x) with
       | (p, .c x) => match bare (opnd ts y) with
        | (q, .c y) => match appK e te H x y with
         | some (r, c, H') => some (p ++ q ++ r, .c c, H')
         | none => none
        | (q, .so id es off len tot) => match Qi1 e te H x id es off len tot with
         | some (r, c, H') => some (p ++ q ++ r, .c c, H')
         | none => none
        | _ => none
       | _ => none
      | false => none
     | none => none
    | false => none
   | _ => none
  | _ => none
 | .call { callee := .builtin .copy, args, argTypes } => match args.toList with
  | [x, y] => match argTypes.toList with
   | [t, _] => match Q2 Γ t with
    | some (_, te) => match bare (opnd ts x) with
     | (p, .c x) => match bare (opnd ts y) with
      | (q, .c y) => match Qqd te H x y with
       | some (r, c, H') => some (p ++ q ++ r, .c c, H')
       | none => none
      | _ => none
     | _ => none
    | none => none
   | _ => none
  | _ => none
 | .call { callee := .builtin .clear, args, argTypes } => match args.toList with
  | [x] => match argTypes.toList with
   | [t] => match Q2 Γ t with
    | some (_, te) => match QeG te with
     | true => match bare (opnd ts x) with
      | (p, .so id es off len tot) => match Qm2 te H id es off len tot with
       | some (r, H') => some (p ++ r, .u, H')
       | none => none
      | _ => none
     | false => none
    | none => none
   | _ => none
  | _ => none
 | .makeMap t none => QlT Γ H t
 | .mapUpdate t m k x => Qhm Γ ts H t m k x
 | .insert t m k x => Qhm Γ ts H t m k x
 | .call { callee := .builtin .delete, args, argTypes } => match args.toList with
  | [x, y] => match argTypes.toList with
   | [t, _] => QlP Γ ts H t x y
   | _ => none
  | _ => none
 | _ => none
def Qei : Next → Value
 | .value v => v
 | _ => undef
theorem Qm9 (hΓ : Qw P Γ) {H' : List O} (hw : HSat K F H μ w) (hT : TSat F H μ ts a.tmps) (o : Oper) 
  (h : eff Γ ts H o.op = some (ns, s, H')) (hn : ∀ q ∈ ns, q) :
  ∃ nx w' μ', (execOp a.eval o).run P w = .ok nx w' ∧ (nx = .skip ∨ ∃ v, nx = .value v) ∧ HSat K F H' μ' w' ∧ Ext H μ H' μ' ∧ RepS F H' μ' s (Qei nx) := by
 have O := Q9 hT
 have B : ∀ {x : Operand} {p : List Prop} {s' : S}, bare (opnd ts x) = (p, s') → (∀ q ∈ p, q) → RepS F H μ s' (a.eval x) := fun hb hp => Qaq (O _) hb hp
 unfold eff at h
 split at h
 ·
  rename_i t ho
  split at h
  ·rename_i i hi
   rw [QdP] at h
   cases h
   obtain ⟨z, z1, z2, _⟩ := QcI (P := P) (F := F) (H := H) (μ := μ) (hΓ t i hi) w
   obtain ⟨r, w', v', r1, r2, r3, r4⟩ := QkF (P := P) hw t z z2
   refine ⟨.value r, w', _, ?_, .inr ⟨r, rfl⟩, r2, r3, r4⟩
   unfold execOp
   rw [ho]
   apply val1
   show (do let zero ← zeroValue t; pure (Value.pointer (some (← newVar t zero))) : Sem Value).run P w = _
   rw [Qg z1]
   exact r1
  ·cases h
 ·
  rename_i t x ho
  split at h
  rename_i p s' hb
  split at h
  ·rename_i cs hc
   cases h
   have hx := B hb hn
   obtain ⟨r, w', v', r1, r2, r3, r4⟩ := QkF (P := P) hw t (a.eval x) (Qdi hx hc)
   exact ⟨.value r, w', _, by unfold execOp; rw [ho]; exact val1 r1, .inr ⟨r, rfl⟩, r2, r3, r4⟩
  ·cases h
 ·
  rename_i t ad x ho
  split at h
  ·rename_i i hi
   split at h
   ·rename_i p c hb1
    split at h
    rename_i q s' hb2
    split at h
    ·rename_i ys hys
     split at h
     ·rename_i hl
      split at h
      ·rename_i r H'' hs
       cases h
       obtain ⟨w', r1, r2, r3⟩ := Qrr (P := P) hw (hΓ t i hi) (B hb1 (Qd (Qd hn))) (Qdi (B hb2 (Qb (Qd hn))) hys) (QxD hl) hs (Qb hn)
       refine ⟨.skip, w', μ, ?_, .inl rfl, r2, r3, trivial⟩
       unfold execOp
       rw [ho]
       simp only
       rw [Qg r1]
       rfl
      ·cases h
     ·cases h
    ·cases h
   ·cases h
  ·cases h
 ·
  rename_i t l c ho
  split at h
  ·rename_i e te he
   split at h
   ·rename_i hg
    split at h
    ·rename_i p kl l' hb1
     split at h
     ·rename_i q kc c' hb2
      obtain ⟨hu, hte⟩ := Qab (P := P) hΓ he
      have h1 : a.eval l = .int kl l' := B hb1 (by
       cases h
       exact Qd (Qd hn))
      have h2 : a.eval c = .int kc c' := B hb2 (by
       cases h
       exact Qb (Qd hn))
      simp only [Qxv, QxI] at h
      obtain ⟨rfl, rfl, rfl⟩ := h
      obtain ⟨r, w', μ', r1, r2, r3, r4⟩ := QmV (P := P) hw hu hte (Qbz hg).1 (l := l') (c := c') (xq := QcW l c) (kl := kl) (kc := kc) (Qb hn)
      exact ⟨.value r, w', μ', by unfold execOp; rw [ho]; simp only [h1, h2]; exact val1 r1, .inr ⟨r, rfl⟩, r2, r3, r4⟩
     ·cases h
    ·cases h
   ·cases h
  ·cases h
 ·
  rename_i t len parts ho
  split at h
  ·rename_i e te he
   split at h
   ·rename_i hg
    split at h
    ·rename_i c H'' hb
     cases h
     obtain ⟨hu, hte⟩ := Qab (P := P) hΓ he
     obtain ⟨r, w', μ', r1, r2, r3, r4⟩ := Qo7 (P := P) hw hT hu hte (Qbz hg).1 hb hn
     exact ⟨.value r, w', μ', by unfold execOp; rw [ho]; exact val1 r1, .inr ⟨r, rfl⟩, r2, r3, r4⟩
    ·cases h
   ·cases h
  ·cases h
 ·
  rename_i args argTypes ho
  split at h
  ·rename_i x y hargs
   split at h
   ·rename_i t t' htypes
    have ha : args = #[x, y] := by apply QxV.1; simpa using hargs
    have hty : argTypes = #[t, t'] := by apply QxV.1; simpa using htypes
    subst ha
    subst hty
    split at h
    ·rename_i htt
     have : t = t' := QxD htt
     subst this
     split at h
     ·rename_i e te he
      split at h
      ·rename_i hg
       split at h
       ·rename_i p x' hb1
        split at h
        ·rename_i q y' hb2
         split at h
         ·rename_i r c H'' happ
          cases h
          obtain ⟨hu, hte⟩ := Qab (P := P) hΓ he
          obtain ⟨v, w', μ', r1, r2, r3, r4⟩ := Qt1 (P := P) (ty := o.type) hw hu hte (Qbz hg).1 (Qbz hg).2 (B hb1 (Qd (Qd hn))) (B hb2 (Qb (Qd hn))) happ (Qb hn)
          refine ⟨.value v, w', μ', ?_, .inr ⟨v, rfl⟩, r2, r3, r4⟩
          have e : (#[x, y] : Array Operand).map a.eval = #[a.eval x, a.eval y] := by simp
          unfold execOp
          rw [ho]
          show (do let d ← resolve a.eval _ o.type; invoke d.target d.args : Sem Next).run P w = _
          simp only [resolve, invoke, builtin, e]
          exact val1 r1
         ·cases h
        ·rename_i q id' es' off' len' tot' hb2
         split at h
         ·rename_i r c H'' happ
          cases h
          obtain ⟨hu, hte⟩ := Qab (P := P) hΓ he
          obtain ⟨v, w', μ', r1, r2, r3, r4⟩ := Qtq (P := P) (ty := o.type) hw hu hte (Qbz hg).1 (Qbz hg).2 (B hb1 (Qd (Qd hn))) (B hb2 (Qb (Qd hn))) happ (Qb hn)
          refine ⟨.value v, w', μ', ?_, .inr ⟨v, rfl⟩, r2, r3, r4⟩
          have e : (#[x, y] : Array Operand).map a.eval = #[a.eval x, a.eval y] := by simp
          unfold execOp
          rw [ho]
          show (do let d ← resolve a.eval _ o.type; invoke d.target d.args : Sem Next).run P w = _
          simp only [resolve, invoke, builtin, e]
          exact val1 r1
         ·cases h
        ·cases h
       ·cases h
      ·cases h
     ·cases h
    ·cases h
   ·cases h
  ·cases h
 ·
  rename_i args argTypes ho
  split at h
  ·rename_i x y hargs
   split at h
   ·rename_i t t' htypes
    have ha : args = #[x, y] := by apply QxV.1; simpa using hargs
    have hty : argTypes = #[t, t'] := by apply QxV.1; simpa using htypes
    subst ha
    subst hty
    split at h
    ·rename_i e te he
     split at h
     ·rename_i p x' hb1
      split at h
      ·rename_i q y' hb2
       split at h
       ·rename_i r c H'' hcp
        cases h
        obtain ⟨hu, hte⟩ := Qab (P := P) hΓ he
        obtain ⟨v, w', r1, r2, r3, r4⟩ := Qs0 (P := P) (t2 := t') (ty := o.type) hw hu hte (B hb1 (Qd (Qd hn))) (B hb2 (Qb (Qd hn))) hcp (Qb hn)
        refine ⟨.value v, w', μ, ?_, .inr ⟨v, rfl⟩, r2, r3, r4⟩
        have e : (#[x, y] : Array Operand).map a.eval = #[a.eval x, a.eval y] := by simp
        unfold execOp
        rw [ho]
        show (do let d ← resolve a.eval _ o.type; invoke d.target d.args : Sem Next).run P w = _
        simp only [resolve, invoke, builtin, e]
        exact val1 r1
       ·cases h
      ·cases h
     ·cases h
    ·cases h
   ·cases h
  ·cases h
 ·
  rename_i args argTypes ho
  split at h
  ·rename_i x hargs
   split at h
   ·rename_i t htypes
    have ha : args = #[x] := by apply QxV.1; simpa using hargs
    have hty : argTypes = #[t] := by apply QxV.1; simpa using htypes
    subst ha
    subst hty
    split at h
    ·rename_i e te he
     split at h
     ·rename_i hg
      split at h
      ·rename_i p id es off len tot hb1
       split at h
       ·rename_i r H'' hcp
        cases h
        obtain ⟨hu, hte⟩ := Qab (P := P) hΓ he
        obtain ⟨w', r1, r2, r3⟩ := QqL (P := P) (ty := o.type) hw hu hte (Qbz hg).1 (B hb1 (Qd hn)) hcp (Qb hn)
        refine ⟨.value (.tuple #[]), w', μ, ?_, .inr ⟨_, rfl⟩, r2, r3, trivial⟩
        have e : (#[x] : Array Operand).map a.eval = #[a.eval x] := by simp
        unfold execOp
        rw [ho]
        show (do let d ← resolve a.eval _ o.type; invoke d.target d.args : Sem Next).run P w = _
        simp only [resolve, invoke, builtin, e]
        exact val1 r1
       ·cases h
      ·cases h
     ·cases h
    ·cases h
   ·cases h
  ·cases h
 ·
  rename_i t ho
  obtain ⟨r, w', μ', r1, r2, r3, r4⟩ := Qtf (P := P) hw h
  exact ⟨.value r, w', μ', by unfold execOp; rw [ho]; exact val1 r1, .inr ⟨r, rfl⟩, r2, r3, r4⟩
 ·
  rename_i t m k x ho
  obtain ⟨w', r1, r2, r3, rfl⟩ := QmU (P := P) hΓ hw hT h hn
  exact ⟨.skip, w', μ, by unfold execOp; rw [ho]; simp only []; rw [Qg r1]; rfl, .inl rfl, r2, r3, trivial⟩
 ·
  rename_i t m k x ho
  obtain ⟨w', r1, r2, r3, rfl⟩ := QmU (P := P) hΓ hw hT h hn
  exact ⟨.skip, w', μ, by unfold execOp; rw [ho]; simp only []; rw [Qg r1]; rfl, .inl rfl, r2, r3, trivial⟩
 ·
  rename_i args argTypes ho
  split at h
  ·rename_i x y hargs
   split at h
   ·rename_i t t' htypes
    have ha : args = #[x, y] := by apply QxV.1; simpa using hargs
    have hty : argTypes = #[t, t'] := by apply QxV.1; simpa using htypes
    subst ha
    subst hty
    obtain ⟨v, w', r1, r2, r3, rfl⟩ := Qsj (P := P) (ty := o.type) (t2 := t') hΓ hw hT h hn
    refine ⟨.value v, w', μ, ?_, .inr ⟨v, rfl⟩, r2, r3, trivial⟩
    have e : (#[x, y] : Array Operand).map a.eval = #[a.eval x, a.eval y] := by simp
    unfold execOp
    rw [ho]
    show (do let d ← resolve a.eval _ o.type; invoke d.target d.args : Sem Next).run P w = _
    simp only [resolve, invoke, builtin, e]
    exact val1 r1
   ·cases h
  ·cases h
 ·cases h
def QqG (ts : Ts) (op : Op) : List Prop :=
 match op with
 | .call { callee := .builtin .len, args, .. } => match args.toList with
  | [x] => match opnd ts x with
   | .c (.isl _ n _ _) => [n ≤ 9223372036854775807]
   | .c (.str s) => [s.size ≤ 9223372036854775807]
   | _ => []
  | _ => []
 | _ => []
theorem Qtn (hT : TSat F H μ ts a.tmps) (op : Op) : ∀ q ∈ QqG ts op, q := by
 intro q hq
 unfold QqG at hq
 split at hq
 ·split at hq
  ·rename_i x _
   have hx := Q9 hT x
   split at hq
   ·rename_i ho
    rw [ho] at hx
    obtain ⟨_, _, _, h1, _⟩ := hx
    rw [Qyy] at hq
    subst hq
    exact h1
   ·rename_i ho
    rw [ho] at hx
    rw [Qyy] at hq
    subst hq
    exact hx.2
   ·simp at hq
  ·simp at hq
 ·simp at hq
def Qb4 (ts : Ts) : List Operand → Option (List Prop × List S)
 | [] => some ([], [])
 | x :: r => match bare (opnd ts x) with
  | (p, s) => match Qb4 ts r with
   | some (q, l) => some (p ++ q, s :: l)
   | none => none
def capS (get : Nat → C) (off : Nat) : Nat → List S
 | 0 => []
 | n + 1 => .c (get off) :: capS get (off + 1) n
def Qa6 (ts : Ts) (op : Op) : Option (List Prop × FuncId × List S) :=
 match op with
 | .call { callee := .value f, args, .. } => match bare (opnd ts f) with
  | (p, .c (.fn (.func f) n get)) => match Qb4 ts args.toList with
   | some (q, l) => some (p ++ q, f, l ++ capS get 0 n)
   | none => none
  | _ => none
 | _ => none
def Q3 : Op → Bool
 | .call { callee := .value _, .. } => true
 | _ => false
def RepA (F : Mem) (H : List O) (μ : Nat → Value) (args : List S) (vs : Array Value) : Prop :=
 vs.size = args.length ∧ ∀ (j : Nat) s, getL args j = some s → ∃ v, vs[j]? = some v ∧ RepS F H μ s v
theorem Qmh {F : Mem} {H : List O} {μ : Nat → Value} {ts : Ts} {a : Act} (hT : TSat F H μ ts a.tmps) : ∀ (xs : List Operand) (q : List Prop) (l : List S), Qb4 ts xs = some (q, l) → (∀ p ∈ q, p) →
  l.length = xs.length ∧ ∀ (j : Nat) s, getL l j = some s → ∃ v, (xs.map a.eval)[j]? = some v ∧ RepS F H μ s v
 | [], q, l, h, _ => by simp only [Qb4, Qxv, QxI] at h; obtain ⟨_, rfl⟩ := h; simp [getL]
 | x :: r, q, l, h, hq => by
  simp only [Qb4] at h
  cases hb : bare (opnd ts x) with
  | mk p s =>
   cases hr : Qb4 ts r with
   | none => simp [hr] at h
   | some y =>
    obtain ⟨q', l'⟩ := y
    simp only [hb, hr, Qxv, QxI] at h
    obtain ⟨rfl, rfl⟩ := h
    obtain ⟨h1, h2⟩ := Qmh hT r q' l' hr (Qb hq)
    refine ⟨by simp [h1], fun j s' hs => ?_⟩
    cases j with
    | zero => simp [getL] at hs; subst hs; exact ⟨_, by simp, Qaq (Q9 hT x) hb (Qd hq)⟩
    | succ j => simp only [getL] at hs; simpa using h2 j s' hs
theorem Qii (get : Nat → C) : ∀ (n off : Nat), (capS get off n).length = n ∧ ∀ (j : Nat) s, getL (capS get off n) j = some s → j < n ∧ s = .c (get (off + j))
 | 0, off => by simp [capS, getL]
 | n + 1, off => by
  obtain ⟨h1, h2⟩ := Qii get n (off + 1)
  refine ⟨by simp [capS, h1], fun j s hs => ?_⟩
  cases j with
  | zero => simp [capS, getL] at hs; simp [hs]
  | succ j =>
   simp only [capS, getL] at hs
   obtain ⟨h3, h4⟩ := h2 j s hs
   exact ⟨om, by rw [h4]; congr 2; omega⟩
theorem Qjl (hT : TSat F H μ ts a.tmps) (o : Oper) (h : Qa6 ts o.op = some (q, f, l)) (hq : ∀ p ∈ q, p) (w : World) :
  ∃ vs, (execOp a.eval o).run P w = (callFunc f vs).run P w ∧ RepA F H μ l vs := by
 unfold Qa6 at h
 split at h
 ·rename_i cal args argTypes ho
  split at h
  ·rename_i p f' n get hb1
   split at h
   ·rename_i q' l' ha
    cases h
    obtain ⟨cs, c1, c2, c3⟩ := Qaq (Q9 hT _) hb1 (Qd hq)
    obtain ⟨a1, a2⟩ := Qmh hT _ _ _ ha (Qb hq)
    obtain ⟨k1, k2⟩ := Qii get n 0
    refine ⟨args.map a.eval ++ cs, ?_, ?_, fun j s hs => ?_⟩
    ·unfold execOp
     rw [ho]
     show (do let d ← resolve a.eval _ o.type; invoke d.target d.args : Sem Next).run P w = _
     simp only [resolve, c1, Deferred.ofValue]
     rw [Qg (show (pure _ : Sem Deferred).run P w = .ok _ w from rfl)]
     simp only [invoke, Array.empty_append]
    ·simp [a1, k1, c2]
    ·rw [Qc] at hs
     by_cases c : j < l'.length
     ·rw [QxS c, ← Qc] at hs
      obtain ⟨v, v1, v2⟩ := a2 j s hs
      refine ⟨v, ?_, v2⟩
      rw [Qyr (by simpa [a1] using c)]
      simpa using v1
     ·rw [QxY om, ← Qc] at hs
      obtain ⟨h3, h4⟩ := k2 _ s hs
      obtain ⟨v, v1, v2⟩ := c3 _ h3
      subst h4
      refine ⟨v, ?_, ?_⟩
      ·rw [Array.getElem?_append_right (by simp [a1] at c ⊢; omega)]
       rw [← v1]
       congr 1
       simp [a1]
      ·rw [QxX]; exact v2
   ·cases h
  ·cases h
 ·cases h
theorem QdM (hT : TSat F H μ ts a.tmps) (o : Oper) (h : Qa6 ts o.op = some (q, f, l)) (hq : ∀ p ∈ q, p)
  {fn : Func} (hf : P.funcs[f]? = some fn) (hb : fn.body.isSome = true) (hname : (fn.name == "runtime.NumGoroutine") = false) (w : World) :
  ∃ vs, (execOp a.eval o).run P w = .ok (.enter f vs) w ∧ RepA F H μ l vs := by
 obtain ⟨vs, h1, h2⟩ := Qjl (P := P) hT o h hq w
 refine ⟨vs, h1.trans ?_, h2⟩
 unfold callFunc
 rw [Qg (show program.run P w = .ok P w from rfl)]
 simp only [hf, hname]
 have : fn.body.isNone = false := by cases hfb : fn.body <;> simp_all
 simp only [this]
 rfl
def Qb8 (md : Bool) (Γ : Env) (ts : Ts) (H : List O) (op : Op) : Option (List Prop × S × List O) :=
 match op with
 | .call { callee := .builtin .append, args, argTypes } => match args.toList with
  | [x, y] => match argTypes.toList with
   | [t, t'] => match Nat.beq t t' with
    | true => match Q2 Γ t with
     | some (e, te) => match QeG te with
      | true => match bare (opnd ts x) with
       | (p, .c x) => match bare (opnd ts y) with
        | (q, .c y) => match cutK md e te H x y with
         | some (r, c, H') => some (p ++ q ++ r, .c c, H')
         | none => none
        | _ => none
       | _ => none
      | false => none
     | none => none
    | false => none
   | _ => none
  | _ => none
 | _ => none
theorem Qrm (hΓ : Qw P Γ) {H' : List O} (hw : HSat K F H μ w) (hT : TSat F H μ ts a.tmps) (o : Oper) 
  {md : Bool} (h : Qb8 md Γ ts H o.op = some (ns, s, H')) (hn : ∀ q ∈ ns, q) :
  ∃ nx w' μ', (execOp a.eval o).run P w = .ok nx w' ∧ (nx = .skip ∨ ∃ v, nx = .value v) ∧ HSat K F H' μ' w' ∧ Ext H μ H' μ' ∧ RepS F H' μ' s (Qei nx) := by
 have O := Q9 hT
 have B : ∀ {x : Operand} {p : List Prop} {s' : S}, bare (opnd ts x) = (p, s') → (∀ q ∈ p, q) → RepS F H μ s' (a.eval x) := fun hb hp => Qaq (O _) hb hp
 unfold Qb8 at h
 split at h
 ·rename_i args argTypes ho
  split at h
  ·rename_i x y hargs
   split at h
   ·rename_i t t' htypes
    have ha : args = #[x, y] := by apply QxV.1; simpa using hargs
    have hty : argTypes = #[t, t'] := by apply QxV.1; simpa using htypes
    subst ha
    subst hty
    split at h
    ·rename_i htt
     have : t = t' := QxD htt
     subst this
     split at h
     ·rename_i e te he
      split at h
      ·rename_i hg
       split at h
       ·rename_i p x' hb1
        split at h
        ·rename_i q y' hb2
         split at h
         ·rename_i r c H'' happ
          cases h
          obtain ⟨hu, hte⟩ := Qab (P := P) hΓ he
          obtain ⟨v, w', μ', r1, r2, r3, r4⟩ := QtK (P := P) (ty := o.type) hw hu hte (Qbz hg).1 (Qbz hg).2 (B hb1 (Qd (Qd hn))) (B hb2 (Qb (Qd hn))) happ (Qb hn)
          refine ⟨.value v, w', μ', ?_, .inr ⟨v, rfl⟩, r2, r3, r4⟩
          have e : (#[x, y] : Array Operand).map a.eval = #[a.eval x, a.eval y] := by simp
          unfold execOp
          rw [ho]
          show (do let d ← resolve a.eval _ o.type; invoke d.target d.args : Sem Next).run P w = _
          simp only [resolve, invoke, builtin, e]
          exact val1 r1
         ·cases h
        ·cases h
       ·cases h
      ·cases h
     ·cases h
    ·cases h
   ·cases h
  ·cases h
 ·cases h
end Go.Am
end

section
namespace Go.Am
variable {b g : Bool} {x y k p : Prop} {s : S} {r : List Prop} {all : List Oper} {o : Oper} {id : Nat} {c : Code}
structure Need (p : Prop) (k : Prop) : Prop where
 fst : p
 snd : k
structure Have (p : Prop) (k : Prop) : Prop where
 out : p → k
structure Br (b : Bool) (x y : Prop) : Prop where
 ofTrue : b = true → x
 ofFalse : b = false → y
structure Frc (s : S) (k : S → Prop) : Prop where
 intro ::
 out : k s
theorem Br.yes (h : b = true) (h' : x) : Br b x y := Br.mk (fun _ => h') (fun e => by rw [h] at e; cases e)
theorem Br.no (h : b = false) (h' : y) : Br b x y := Br.mk (fun e => by rw [h] at e; cases e) (fun _ => h')
theorem Frc.mk {k : S → Prop} (s' : S) (h : s = s') (hk : k s') : Frc s k := ⟨by rw [h]; exact hk⟩
theorem Br.out (h : Br b x y) : (b = true → x) ∧ (b = false → y) := ⟨h.ofTrue, h.ofFalse⟩
def CSpec (P : Program) (f : FuncId) (args : List S) (H : List O) (Q : S → List O → Prop) : Prop :=
 ∀ K F μ w vs, HSat K F H μ w → RepA F H μ args vs → Calls P f vs w fun e w' => ∃ v F' μ' s H', e = .returned v ∧ F.le F' ∧ HSat K F' H' μ' w' ∧ Ext H μ H' μ' ∧ RepS F' H' μ' s v ∧ Q s H'
structure HasBody (P : Program) (f : FuncId) : Prop where
 out : ∃ fn, P.funcs[f]? = some fn ∧ fn.body.isSome = true ∧ (fn.name == "runtime.NumGoroutine") = false
structure Cx where
 P : Program
 Γ : Env
 nt : Nat
 n0 : Nat
structure Sat (X : Cx) (K : Keep) (F0 : Mem) (H0 : List O) (μ0 : Nat → Value) (ts : Ts) (H : List O) (F : Mem) (μ : Nat → Value) (a : Act) (w : World) : Prop where
 le : F0.le F
 ext : Ext H0 μ0 H μ
 hs : HSat K F H μ w
 tp : TSat F H μ ts a.tmps
 sz : a.tmps.size = X.nt
 df : a.defers = K.ds
 n0 : H0.length ≤ X.n0
inductive Ex where
 | normal | exit (id : Nat) | ret
def exOk : Exit → (Ex → Prop) → Prop
 | .normal, k => k .normal
 | .exit id, k => k (.exit id)
 | .ret, k => k .ret
 | _, _ => False
abbrev Kp := Ex → Ts → List O → Prop
def Post (X : Cx) (K : Keep) (F0 : Mem) (H0 : List O) (μ0 : Nat → Value) (k : Kp) : Exit → Act → World → Prop := fun e a w =>
 ∃ ts H F μ, Sat X K F0 H0 μ0 ts H F μ a w ∧ exOk e fun ex => k ex ts H
def AW (X : Cx) (c : Code) (ts : Ts) (H : List O) (k : Kp) : Prop :=
 ∀ K F0 H0 μ0 F μ a w, Sat X K F0 H0 μ0 ts H F μ a w → c.wp X.P (Post X K F0 H0 μ0 k) a w
structure Lp (X : Cx) (c : Code) (ts : Ts) (H : List O) (k : Kp) : Prop where
 intro ::
 out : AW X (.loop c) ts H k
structure Dr (X : Cx) (id : Nat) (ops : Array Oper) (ts : Ts) (H : List O) (k : Kp) : Prop where
 intro ::
 out : AW X (.region id ops true) ts H k
structure CallN (X : Cx) (f : FuncId) (args : List S) (dst : Option Tmp) (ts : Ts) (H : List O) (k : Ts → List O → Prop) : Prop where
 intro ::
 body : HasBody X.P f
 run : ∀ K F0 H0 μ0 F μ a w vs, Sat X K F0 H0 μ0 ts H F μ a w → RepA F H μ args vs →
  Calls X.P f vs w fun e w' => ∃ v, e = .returned v ∧ ∃ ts' H' F' μ', k ts' H' ∧ Sat X K F0 H0 μ0 ts' H' F' μ' (a.put dst v) w'
structure CallX (X : Cx) (f : FuncId) (args : List S) (dst : Option Tmp) (ts : Ts) (H : List O) (k : Ts → List O → Prop) : Prop where
 intro ::
 run : ∀ K F0 H0 μ0 F μ a w vs, Sat X K F0 H0 μ0 ts H F μ a w → RepA F H μ args vs →
  ∃ v w', (callFunc f vs).run X.P w = .ok (.value v) w' ∧ ∃ ts' H' F' μ', k ts' H' ∧ Sat X K F0 H0 μ0 ts' H' F' μ' (a.put dst v) w'
def swA : List S → Bool
 | [_, _, _, .c (.raw _ _)] => true
 | _ => false
noncomputable def QtD (X : Cx) (f : FuncId) (args : List S) (dst : Option Tmp) (ts : Ts) (H : List O) (k : Ts → List O → Prop) : Prop :=
 match swA args with
 | true => CallX X f args dst ts H k
 | false => CallN X f args dst ts H k
inductive Stuck (_o : Oper) (_ts : Ts) (_H : List O) : Prop
inductive StuckC (_c : Code) (_ts : Ts) (_H : List O) : Prop
def Qfz : List Prop → (List Prop → Prop) → Prop
 | [], k => k []
 | p :: r, k => Qfz r fun r' => k (p :: r')
theorem QeX : ∀ (l : List Prop) (k : List Prop → Prop), Qfz l k = k l
 | [], _ => rfl
 | p :: r, k => by simp only [Qfz, QeX r]
noncomputable def Qbh (l : List Prop) (k : Prop) : Prop := Qfz l fun l' => List.rec (motive := fun _ => Prop) k (fun p _ ih => Need p ih) l'
theorem QpL : Qbh (p :: r) k = Need p (Qbh r k) := by simp only [Qbh, QeX]
theorem Qao : ∀ {l : List Prop} {k : Prop}, Qbh l k → (∀ p ∈ l, p) ∧ k
 | [], _, h => ⟨by simp, h⟩
 | p :: r, k, h => by
  rw [QpL] at h
  obtain ⟨h1, h2⟩ := Qao (l := r) h.snd
  refine ⟨fun q hq => ?_, h2⟩
  rcases Qyf.1 hq with rfl | hq
  ·exact h.fst
  ·exact h1 q hq
noncomputable def QdQ (g : Bool) (l : List Prop) (k : Prop) : Prop := Qfz l fun l' => List.rec (motive := fun _ => Prop) k (fun p _ ih => Need (g = true → p) ih) l'
theorem Qn3 : QdQ g (p :: r) k = Need (g = true → p) (QdQ g r k) := by simp only [QdQ, QeX]
theorem QcV {g : Bool} : ∀ {l : List Prop} {k : Prop}, QdQ g l k → (g = true → ∀ p ∈ l, p) ∧ k
 | [], _, h => ⟨by simp, h⟩
 | p :: r, k, h => by
  rw [Qn3] at h
  obtain ⟨h1, h2⟩ := QcV (l := r) h.snd
  refine ⟨fun hg q hq => ?_, h2⟩
  rcases Qyf.1 hq with rfl | hq
  ·exact h.fst hg
  ·exact h1 hg q hq
noncomputable def Qjj (l : List Prop) (k : Prop) : Prop := Qfz l fun l' => List.rec (motive := fun _ => Prop) k (fun p _ ih => Have p ih) l'
theorem Qo9 : Qjj (p :: r) k = Have p (Qjj r k) := by simp only [Qjj, QeX]
theorem Qk6 : ∀ {l : List Prop} {k : Prop}, Qjj l k → (∀ p ∈ l, p) → k
 | [], _, h, _ => h
 | p :: _, _, h, hl => by
  rw [Qo9] at h
  exact Qk6 (h.out (hl p (by simp))) (fun q hq => hl q (by simp [hq]))
def putK (nt : Nat) (dst : Option Tmp) (s : S) (ts : Ts) (k : Ts → Prop) : Prop :=
 match dst with
 | none => k ts
 | some d => match Nat.blt d nt with
  | true => k ((d, s) :: ts)
  | false => k ts
def Qat : List O → (List O → Prop) → Prop
 | [], k => k []
 | o :: r, k => match o with
  | .vr cs => QfC cs fun cs' => Qat r fun r' => k (.vr cs' :: r')
  | .arr e es n g => Qat r fun r' => k (.arr e es n g :: r')
  | .dead => Qat r fun r' => k (.dead :: r')
  | .mp sh z va ks val => Qat r fun r' => k (.mp sh z va ks val :: r')
theorem QaO : ∀ (l : List O) (k : List O → Prop), Qat l k = k l
 | [], _ => rfl
 | o :: r, k => by cases o <;> simp only [Qat, QdP, QaO r]
def Qej (n : Nat) (k : Nat → Prop) : Prop :=
 match n with
 | 0 => k 0 | 1 => k 1 | 2 => k 2 | 3 => k 3 | 4 => k 4 | 5 => k 5 | 6 => k 6 | 7 => k 7 | 8 => k 8 | 9 => k 9
 | 10 => k 10 | 11 => k 11 | 12 => k 12 | 13 => k 13 | 14 => k 14 | 15 => k 15 | 16 => k 16 | 17 => k 17 | 18 => k 18 | 19 => k 19
 | 20 => k 20 | 21 => k 21 | 22 => k 22 | 23 => k 23 | 24 => k 24 | 25 => k 25 | 26 => k 26 | 27 => k 27 | 28 => k 28 | 29 => k 29
 | 30 => k 30 | 31 => k 31 | 32 => k 32 | 33 => k 33 | 34 => k 34 | 35 => k 35 | 36 => k 36 | 37 => k 37 | 38 => k 38 | 39 => k 39
 | n => k n
theorem Qgs (n : Nat) (k : Nat → Prop) : Qej n k = k n := by
 unfold Qej
 split <;> rfl
def Q4 (s : S) (k : S → Prop) : Prop :=
 match s with
 | .u => k .u
 | .a xs => k (.a xs)
 | .t l => k (.t l)
 | .lz g s => k (.lz g s)
 | .so id es off len tot => Qej id fun id' => k (.so id' es off len tot)
 | .c x => match x with
  | .ptr id off => Qej id fun id' => k (.c (.ptr id' off))
  | .sl id es len tot x => Qej id fun id' => k (.c (.sl id' es len tot x))
  | .ep id i j tot => k (.c (.ep id i j tot))
  | .junk => k (.c .junk)
  | .bool b => k (.c (.bool b))
  | .int q n => k (.c (.int q n))
  | .str s => k (.c (.str s))
  | .nilp => k (.c .nilp)
  | .ip n get => k (.c (.ip n get))
  | .isl es n get tight => k (.c (.isl es n get tight))
  | .fn f n get => k (.c (.fn f n get))
  | .nilfn => k (.c .nilfn)
  | .nils => k (.c .nils)
  | .mpr id => Qej id fun id' => k (.c (.mpr id'))
  | .nilm => k (.c .nilm)
  | .raw b o => k (.c (.raw b o))
theorem Qag (s : S) (k : S → Prop) : Q4 s k = k s := by
 cases s with
 | c x => cases x <;> first | rfl | (simp only [Q4, Qgs])
 | so => simp only [Q4, Qgs]
 | _ => rfl
def isEp (ts : Ts) (op : Op) : Bool :=
 match op with
 | .load _ a => match opnd ts a with
  | .c (.ep ..) => true
  | .lz _ (.c (.ep ..)) => true
  | _ => false
 | _ => false
def frcK (b : Bool) (s : S) (k : S → Prop) : Prop :=
 match b with
 | true => Frc s k
 | false => k s
theorem QfU {k : S → Prop} (h : frcK b s k) : k s := by
 cases b
 ·exact h
 ·exact Frc.out h
def Q6 (want : Bool) : S → Option Bool
 | .c (.bool b) => match want with
  | true => some b
  | false => some (!b)
 | .lz g s => match Q6 want s with
  | some b => some (g && b)
  | none => none
 | _ => none
noncomputable def Qpt (X : Cx) (o : Oper) (ts : Ts) (H : List O) (K : Ts → List O → Prop) : Prop :=
 match Q3 o.op with
 | true => match Qa6 ts o.op with
  | some (q, f, l) => Qbh q (QtD X f l o.dst ts H K)
  | none => Stuck o ts H
 | false => match val X.Γ ts H o.op with
  | some (ns, s) => Qjj (QqG ts o.op) (Qbh ns (frcK (isEp ts o.op) s fun s' => Q4 s' fun s'' => putK X.nt o.dst s'' ts fun ts' => K ts' H))
  | none => match eff X.Γ ts H o.op with
   | some (ns, s, H') => Qbh ns (Qat H' fun H'' => Q4 s fun s' => putK X.nt o.dst s' ts fun ts' => K ts' H'')
   | none => Stuck o ts H
def QiX (Γ : Env) (ts : Ts) (H : List O) (op : Op) : Option (List Prop × Nat) :=
 match op with
 | .binOp .eql t x y _ => match bare (opnd ts x) with
  | (p, .c (.isl _ n _ _)) => match opnd ts y with
   | .c .nils => match Q2 Γ t with
    | some _ => some (p, n)
    | none => none
   | _ => none
  | (p, .c (.sl id _ len tot _)) => match opnd ts y with
   | .c .nils => match Q2 Γ t with
    | some _ => match getL H id with
     | some (.arr _ _ n _) => some (p ++ [tot = n], len)
     | _ => none
    | none => none
   | _ => none
  | _ => none
 | _ => none
noncomputable def vcOp (X : Cx) (o : Oper) (ts : Ts) (H : List O) (K : Ts → List O → Prop) : Prop :=
 match QiX X.Γ ts H o.op with
 | some (p, n) => Qbh p (∀ b : Bool, (0 < n → b = false) → putK X.nt o.dst (.c (.bool b)) ts fun ts' => K ts' H)
 | none => Qpt X o ts H K
inductive CallG (P : Program) (g : Bool) (f : FuncId) (args : List S) (H : List O) (k : S → List O → Prop) : Prop
 | mk (s : S) (h : g = true → HasBody P f ∧ CSpec P f args H fun s' H' => s' = s ∧ H' = H) (hk : k s H) : CallG P g f args H k
 | br (s : S) (h : g = true → HasBody P f ∧ CSpec P f args H k) (hn : g = false → k s H) : CallG P g f args H k
theorem CallG.out {P : Program} {f : FuncId} {args : List S} {H : List O} {k : S → List O → Prop} (h : CallG P g f args H k) :
  (g = true → HasBody P f ∧ CSpec P f args H k) ∧ (g = false → ∃ s, k s H) := by
 rcases h with ⟨s, h1, h2⟩ | ⟨s, h1, h2⟩
 ·refine ⟨fun hg => ⟨(h1 hg).1, fun K F μ w vs hw hA => ?_⟩, fun _ => ⟨s, h2⟩⟩
  refine ((h1 hg).2 K F μ w vs hw hA).mono ?_
  rintro e w' ⟨v, F', μ', s', H', r1, r2, r3, r4, r5, r6, r7⟩
  exact ⟨v, F', μ', s', H', r1, r2, r3, r4, r5, by rw [r6, r7]; exact h2⟩
 ·exact ⟨h1, fun hg => ⟨_, h2 hg⟩⟩
noncomputable def vcG (X : Cx) (o : Oper) (g : Bool) (ts : Ts) (H : List O) (K : Ts → List O → Prop) : Prop :=
 match Q3 o.op with
 | true => match Qa6 ts o.op with
  | some (q, f, l) => QdQ g q (CallG X.P g f l H fun s H' => Qat H' fun H'' => Q4 s fun s' => putK X.nt o.dst (.lz g s') ts fun ts' => K ts' H'')
  | none => Stuck o ts H
 | false => match val X.Γ ts H o.op with
  | some (ns, s) => QdQ g ns (frcK (isEp ts o.op) s fun s0 => Q4 s0 fun s' => putK X.nt o.dst (.lz g s') ts fun ts' => K ts' H)
  | none => Br g (vcOp X o ts H K) (putK X.nt o.dst .u ts fun ts' => K ts' H)
noncomputable def QcS (X : Cx) (all : List Oper) (l : List Oper) : Ts → List O → (Ts → List O → Prop) → Prop :=
 List.rec (motive := fun _ => Ts → List O → (Ts → List O → Prop) → Prop) (fun ts H K => K ts H) (fun o _ ih ts H K =>
  match o.guard with
  | none => vcOp X o ts H fun ts' H' => ih ts' H' K
  | some (j, want) => match getL all j with
   | some oj => match oj.dst with
    | some d => match Q6 want (find d ts) with
     | some g => match Nat.blt d X.nt with
      | true => vcG X o g ts H fun ts' H' => ih ts' H' K
      | false => Stuck o ts H
     | none => Stuck o ts H
    | none => Stuck o ts H
   | none => Stuck o ts H) l
theorem Qsa {X : Cx} {ts : Ts} {H : List O} {K : Ts → List O → Prop} : QcS X all [] ts H K = K ts H := rfl
theorem Qp5 {X : Cx} {r : List Oper} {ts : Ts} {H : List O} {K : Ts → List O → Prop} : QcS X all (o :: r) ts H K = (match o.guard with
  | none => vcOp X o ts H fun ts' H' => QcS X all r ts' H' K
  | some (j, want) => match getL all j with
   | some oj => match oj.dst with
    | some d => match Q6 want (find d ts) with
     | some g => match Nat.blt d X.nt with
      | true => vcG X o g ts H fun ts' H' => QcS X all r ts' H' K
      | false => Stuck o ts H
     | none => Stuck o ts H
    | none => Stuck o ts H
   | none => Stuck o ts H) := rfl
noncomputable def vc (X : Cx) (c : Code) : Ts → List O → Kp → Prop :=
 Code.rec (motive := fun _ => Ts → List O → Kp → Prop)
  (fun ts H K => K .normal ts H)
  (fun id ops draw ts H K => match draw with
   | false => QcS X ops.toList ops.toList ts H (K .normal)
   | true => Dr X id ops ts H K)
  (fun _ _ iha ihb ts H K => iha ts H fun e ts' H' => match e with
   | .normal => ihb ts' H' K
   | .exit id => K (.exit id) ts' H'
   | .ret => K .ret ts' H')
  (fun c t e iht ihe ts H K => match bare (opnd ts c) with
   | (p, .c (.bool b)) => Qbh p (Br b (iht ts H K) (ihe ts H K))
   | _ => StuckC (.cond c t e) ts H)
  (fun id _ ih ts H K => ih ts H fun e ts' H' => match e with
   | .exit id' => match Nat.beq id' id with
    | true => K .normal ts' H'
    | false => K (.exit id') ts' H'
   | .normal => K .normal ts' H'
   | .ret => K .ret ts' H')
  (fun c _ ts H K => Lp X c ts H K)
  (fun f p a b _ _ ts H _ => StuckC (.rangeFunc f p a b) ts H)
  (fun id ts H K => K (.exit id) ts H)
  (fun _ ih ts H K => ih ts H K)
  (fun _ ts H K => K .normal ts H)
  (fun l ts H _ => StuckC (.goto l) ts H)
  (fun ts H K => K .ret ts H)
  (fun why ts H _ => StuckC (.refuse why) ts H) c
section
variable {X : Cx} {ts : Ts} {H : List O} {K : Kp}
theorem Qk0 {ops : Array Oper} {draw : Bool} : vc X (.region id ops draw) ts H K = (match draw with
  | false => QcS X ops.toList ops.toList ts H (K .normal)
  | true => Dr X id ops ts H K) := rfl
theorem Qum {a b : Code} : vc X (.seq a b) ts H K = vc X a ts H fun e ts' H' => match e with
  | .normal => vc X b ts' H' K
  | .exit id => K (.exit id) ts' H'
  | .ret => K .ret ts' H' := rfl
theorem QtS {c : Operand} {t e : Code} : vc X (.cond c t e) ts H K = (match bare (opnd ts c) with
  | (p, .c (.bool b)) => Qbh p (Br b (vc X t ts H K) (vc X e ts H K))
  | _ => StuckC (.cond c t e) ts H) := rfl
theorem QsT : vc X (.block id c) ts H K = vc X c ts H fun e ts' H' => match e with
  | .exit id' => match Nat.beq id' id with
   | true => K .normal ts' H'
   | false => K (.exit id') ts' H'
  | .normal => K .normal ts' H'
  | .ret => K .ret ts' H' := rfl
end
theorem QZ {ts : Ts} {H : List O} (h : Stuck o ts H) : False := by cases h
theorem Qc3 {ts : Ts} {H : List O} (h : StuckC c ts H) : False := by cases h
theorem Sat.put {X : Cx} {K : Keep} {F0 : Mem} {H0 : List O} {μ0 : Nat → Value} {ts : Ts} {H H' : List O} {F F' : Mem} {μ μ' : Nat → Value} {a : Act} {w w' : World} (h : Sat X K F0 H0 μ0 ts H F μ a w)
  (hF : F.le F') (hE : Ext H μ H' μ') (hw : HSat K F' H' μ' w') {s : S} {v : Value} (hs : RepS F' H' μ' s v) {dst : Option Tmp} {k : Ts → Prop} (hk : putK X.nt dst s ts k) :
  ∃ ts', k ts' ∧ Sat X K F0 H0 μ0 ts' H' F' μ' (a.put dst v) w' := by
 have ht := h.tp.mono hF hE
 cases dst with
 | none => exact ⟨ts, hk, h.le.le_trans' hF, h.ext.trans hE, hw, ht, h.sz, h.df, h.n0⟩
 | some d =>
  simp only [putK] at hk
  cases hb : Nat.blt d X.nt with
  | true =>
   rw [hb] at hk
   have hd : d < a.tmps.size := by rw [h.sz]; exact QxJ hb
   exact ⟨_, hk, h.le.le_trans' hF, h.ext.trans hE, hw, ht.put hd hs, by simp [Act.put, h.sz], h.df, h.n0⟩
  | false =>
   rw [hb] at hk
   have hd : ¬ d < a.tmps.size := by
    rw [h.sz]
    intro hlt
    have : Nat.blt d X.nt = true := Nat.ble_eq_true_of_le hlt
    rw [this] at hb
    cases hb
   refine ⟨_, hk, h.le.le_trans' hF, h.ext.trans hE, hw, ?_, by simp [Act.put, h.sz], h.df, h.n0⟩
   have : (a.put (some d) v).tmps = a.tmps := by
    simp only [Act.put]
    exact Array.setIfInBounds_eq_of_size_le (QyB hd)
   rw [this]
   exact ht
end Go.Am
end
