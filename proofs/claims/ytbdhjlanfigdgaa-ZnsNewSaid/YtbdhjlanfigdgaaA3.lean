import Derived.Test.YtbdhjlanfigdgaaA2
/- THE ABSTRACT MACHINE, PART 3: loads; the value operations, one by one. -/
namespace Go.Am

theorem bind_ok {α β : Type} {P : Program} {x : Sem α} {f : α → Sem β} {w w' : World} {a : α} (h : x.run P w = .ok a w') : (x >>= f).run P w = (f a).run P w' := by
  rw [Sem.run_bind, h]; rfl

theorem typeInfo_ok {P : Program} {t : Nat} {x : TypeInfo} (h : P.info? t = some x) (w : World) : (typeInfo t).run P w = .ok x w := by
  simp [typeInfo, h]

theorem sizeOf_ok {P : Program} {t : Nat} {i : TI} (h : TIok P t i) (w : World) : (sizeOf t).run P w = .ok i.size w := by
  obtain ⟨x, h1, h2, _⟩ := h.info
  simp [sizeOf, typeInfo, h1, h2]

theorem isAgg_ok {P : Program} {t : Nat} {i : TI} (h : TIok P t i) (w : World) : (isAgg t).run P w = .ok i.agg w := by
  obtain ⟨d, h1, h2⟩ := h.und
  unfold isAgg
  rw [bind_ok (run_underlying h1 w)]
  unfold TI.agg
  cases d <;> cases htd : i.td <;> simp [htd, tdOk] at h2 ⊢

/-- n cells from the off-th on. -/
def cut {α : Type} : List α → Nat → Nat → Option (List α)
  | _, 0, 0 => some []
  | [], 0, _ + 1 => none
  | x :: r, 0, n + 1 => match cut r 0 n with
    | some l => some (x :: l)
    | none => none
  | [], _ + 1, _ => none
  | _ :: r, k + 1, n => cut r k n

theorem cut_ok {α : Type} : ∀ (l : List α) (k n : Nat) (r : List α), cut l k n = some r → r.length = n ∧ ∀ (j : Nat) x, getL r j = some x → getL l (k + j) = some x
  | l, 0, 0, r, h => by
    have : r = [] := by cases l <;> simp [cut] at h <;> exact h
    subst this; simp [getL]
  | [], 0, n + 1, r, h => by simp [cut] at h
  | x :: l, 0, n + 1, r, h => by
    simp only [cut] at h
    cases hc : cut l 0 n with
    | none => simp [hc] at h
    | some r' =>
      simp only [hc, Option.some.injEq] at h
      subst h
      obtain ⟨h1, h2⟩ := cut_ok l 0 n r' hc
      refine ⟨by simp [h1], fun j y hy => ?_⟩
      cases j with
      | zero => simpa [getL] using hy
      | succ j =>
        simp only [getL] at hy
        have := h2 j y hy
        rw [Nat.zero_add] at this ⊢
        simpa [getL] using this
  | [], k + 1, n, r, h => by simp [cut] at h
  | x :: l, k + 1, n, r, h => by
    simp only [cut] at h
    obtain ⟨h1, h2⟩ := cut_ok l k n r h
    refine ⟨h1, fun j y hy => ?_⟩
    have := h2 j y hy
    rw [show k + 1 + j = (k + j) + 1 by omega]
    simpa [getL] using this

def gets (get : Nat → C) (off : Nat) : Nat → List C
  | 0 => []
  | n + 1 => get off :: gets get (off + 1) n

theorem gets_ok (get : Nat → C) : ∀ (n off : Nat), (gets get off n).length = n ∧ ∀ (j : Nat) x, getL (gets get off n) j = some x → j < n ∧ x = get (off + j)
  | 0, off => by simp [gets, getL]
  | n + 1, off => by
    obtain ⟨h1, h2⟩ := gets_ok get n (off + 1)
    refine ⟨by simp [gets, h1], fun j x hx => ?_⟩
    cases j with
    | zero => simp [gets, getL] at hx; simp [hx]
    | succ j =>
      simp only [gets, getL] at hx
      obtain ⟨h3, h4⟩ := h2 j x hx
      exact ⟨by omega, by rw [h4]; congr 1; omega⟩

/-- A cell, its make brought out. -/
def forceC {α : Type} (c : C) (k : C → α) : α :=
  match c with
  | .junk => k .junk
  | .bool b => k (.bool b)
  | .int q n => k (.int q n)
  | .str s => k (.str s)
  | .nilp => k .nilp
  | .ptr id off => k (.ptr id off)
  | .ep id i j tot => k (.ep id i j tot)
  | .ip n get => k (.ip n get)
  | .sl id es len tot x => k (.sl id es len tot x)
  | .isl es n get tight => k (.isl es n get tight)
  | .fn f n get => k (.fn f n get)
  | .nilfn => k .nilfn
  | .nils => k .nils

theorem forceC_eq {α : Type} (c : C) (k : C → α) : forceC c k = k c := by cases c <;> rfl

def forceL {α : Type} : List C → (List C → α) → α
  | [], k => k []
  | c :: r, k => forceC c fun c' => forceL r fun r' => k (c' :: r')

theorem forceL_eq {α : Type} : ∀ (l : List C) (k : List C → α), forceL l k = k l
  | [], _ => rfl
  | c :: r, k => by simp only [forceL, forceC_eq, forceL_eq r]

/-- A value of cells, with the make that its type has. -/
def mkS (agg : Bool) (xs : List C) : Option S :=
  match agg with
  | true => some (.a xs)
  | false => match xs with
    | [x] => some (.c x)
    | _ => none

theorem loadVar_ok {P : Program} {F : Mem} {H : List O} {μ : Nat → Value} {w : World} {t : Nat} {i : TI} {a : Addr} {xs : List C} {s : S}
    (ht : TIok P t i) (hl : xs.length = i.size) (hx : ∀ (j : Nat) x, getL xs j = some x → ∃ v, w.cell? (a.add j) = some v ∧ RepC F H μ x v) (hs : mkS i.agg xs = some s) :
    ∃ v, (loadVar t a).run P w = .ok v w ∧ RepS F H μ s v := by
  let vs : List Value := (List.range xs.length).map fun j => (w.cell? (a.add j)).getD undef
  have hvl : vs.length = xs.length := by simp [vs]
  have hv : ∀ (j : Nat) x, getL xs j = some x → ∃ v, vs[j]? = some v ∧ w.cell? (a.add j) = some v ∧ RepC F H μ x v := by
    intro j x e
    obtain ⟨v, h1, h2⟩ := hx j x e
    have hj : j < xs.length := by rw [getL_eq] at e; exact (List.getElem?_eq_some_iff.1 e).1
    exact ⟨v, by simp [vs, hj, h1], h1, h2⟩
  have hc : ∀ (j : Nat) v, vs[j]? = some v → w.cell? (a.add j) = some v := by
    intro j v e
    have hj : j < xs.length := by rw [← hvl]; exact (List.getElem?_eq_some_iff.1 e).1
    obtain ⟨v', h1, h2, _⟩ := hv j xs[j] (by rw [getL_eq]; simp [hj])
    rw [h1] at e
    cases e
    exact h2
  unfold loadVar
  rw [bind_ok (isAgg_ok ht w)]
  cases ha : i.agg with
  | true =>
    rw [ha] at hs
    simp only [mkS, Option.some.injEq] at hs
    subst hs
    refine ⟨.agg vs.toArray, ?_, vs.toArray, rfl, by simp [hvl], fun j x e => ?_⟩
    · simp only [if_true]
      rw [bind_ok (sizeOf_ok ht w), ← hl, ← hvl, bind_ok (run_loadCells_list w a vs hc)]
      rfl
    · obtain ⟨v, h1, _, h3⟩ := hv j x e
      exact ⟨v, by simpa using h1, h3⟩
  | false =>
    rw [ha] at hs
    match xs, hs, hv with
    | [x], hs, hv =>
      simp only [mkS, Option.some.injEq] at hs
      subst hs
      obtain ⟨v, _, h2, h3⟩ := hv 0 x (by simp [getL])
      refine ⟨v, ?_, h3⟩
      have h0 : a.add 0 = a := by simp [Addr.add]
      rw [h0] at h2
      simp [h2]
    | [], hs, _ => simp [mkS] at hs
    | _ :: _ :: _, hs, _ => simp [mkS] at hs

theorem add_at (b o j : Nat) : (⟨b, o, none⟩ : Addr).add j = ⟨b, o + j, none⟩ := by
  unfold Addr.add; split <;> simp_all

/-- A load through an address. -/
def loadK (i : TI) (H : List O) (p : C) : Option (List Prop × S) :=
  match p with
  | .ptr id off => match getL H id with
    | some (.vr cs) => match cut cs off i.size with
      | some xs => match mkS i.agg xs with
        | some s => some ([], s)
        | none => none
      | none => none
    | _ => none
  | .ep id k j tot => match getL H id with
    | some (.arr _ es n get) => match mkS i.agg (gets (get k) j i.size) with
      | some s => some ([tot = n, j + i.size ≤ es], s)
      | none => none
    | _ => none
  | .ip n get => forceL (gets get 0 i.size) fun xs => match mkS i.agg xs with
    | some s => some ([i.size ≤ n], s)
    | none => none
  | _ => none

theorem loadK_ok {P : Program} {K : Keep} {F : Mem} {H : List O} {μ : Nat → Value} {w : World} {t : Nat} {i : TI} {p : C} {v : Value} {ns : List Prop} {s : S}
    (ht : TIok P t i) (hw : HSat K F H μ w) (hp : RepC F H μ p v) (h : loadK i H p = some (ns, s)) (hn : ∀ q ∈ ns, q) :
    ∃ r, (Instr.loadAt t v).run P w = .ok r w ∧ RepS F H μ s r := by
  cases p with
  | ptr id off =>
    obtain ⟨⟨cs, h1⟩, b, h2, h3⟩ := hp
    subst h3
    simp only [loadK, h1] at h
    cases hc : cut cs off i.size with
    | none => simp [hc] at h
    | some xs =>
      cases hm : mkS i.agg xs with
      | none => simp [hc, hm] at h
      | some s' =>
        simp only [hc, hm, Option.some.injEq, Prod.mk.injEq] at h
        obtain ⟨_, rfl⟩ := h
        obtain ⟨e1, e2⟩ := cut_ok _ _ _ _ hc
        obtain ⟨b', c, T, k1, k2, k3⟩ := hw.ob id _ h1
        rw [h2] at k1
        cases k1
        have := loadVar_ok (P := P) (F := F) (H := H) (μ := μ) (w := w) (a := ⟨b, off, none⟩) ht e1 (fun j x e => by
          obtain ⟨v, hv, hr⟩ := k3.2 (off + j) x (e2 j x e)
          refine ⟨v, ?_, hr⟩
          rw [add_at, cell_of_row w b _ c T (0, 0) k2, hv]) hm
        obtain ⟨r, r1, r2⟩ := this
        exact ⟨r, by simpa [Instr.loadAt, Instr.sureAddr] using r1, r2⟩
  | ep id k j tot =>
    obtain ⟨_, e, es, n, g, h1, h2, h3⟩ := hp
    simp only [loadK, h1] at h
    cases hm : mkS i.agg (gets (g k) j i.size) with
    | none => simp [hm] at h
    | some s' =>
      simp only [hm, Option.some.injEq, Prod.mk.injEq] at h
      obtain ⟨rfl, rfl⟩ := h
      have hq : tot = n := hn _ (by simp)
      have hes : j + i.size ≤ es := hn _ (by simp)
      obtain ⟨b, cap, m1, m2, m3⟩ := h3 hq
      subst m3
      obtain ⟨xs, o1, o2, o3⟩ := hw.ob id _ h1
      obtain ⟨g1, g2⟩ := gets_ok (g k) i.size j
      have hcell := o1.cells (g := b) (by rw [m1]; rfl)
      have := loadVar_ok (P := P) (F := F) (H := H) (μ := μ) (w := w) (a := ⟨b, k * es + j, none⟩) ht g1 (fun l x e => by
        obtain ⟨q1, q2⟩ := g2 l x e
        obtain ⟨v, hv, hr⟩ := o3 k m2 (j + l) (by omega)
        refine ⟨v, ?_, by rw [q2]; exact hr⟩
        have := hcell (k * es + (j + l)) v hv
        rw [add_at] at this ⊢
        rw [show k * es + j + l = 0 + (k * es + (j + l)) by omega]
        exact this) hm
      obtain ⟨r, r1, r2⟩ := this
      exact ⟨r, by simpa [Instr.loadAt, Instr.sureAddr] using r1, r2⟩
  | ip n get =>
    obtain ⟨b, off, hv, hc⟩ := hp
    subst hv
    simp only [loadK, forceL_eq] at h
    cases hm : mkS i.agg (gets get 0 i.size) with
    | none => simp [hm] at h
    | some s' =>
      simp only [hm, Option.some.injEq, Prod.mk.injEq] at h
      obtain ⟨rfl, rfl⟩ := h
      have hsz : i.size ≤ n := hn _ (by simp)
      obtain ⟨g1, g2⟩ := gets_ok get i.size 0
      have := loadVar_ok (P := P) (F := F) (H := H) (μ := μ) (w := w) (a := ⟨b, off, none⟩) ht g1 (fun l x e => by
        obtain ⟨q1, q2⟩ := g2 l x e
        obtain ⟨v, hv, hr⟩ := hc l (by omega)
        refine ⟨v, ?_, by rw [q2, Nat.zero_add]; exact RepF.toC H μ _ _ hr⟩
        rw [add_at]
        unfold Mem.cell at hv
        cases hf : F b with
        | none => simp [hf] at hv
        | some o =>
          rw [hf] at hv
          cases o with
          | cells c T fz => rw [cell_of_row w b _ c T fz (hw.fr b _ hf)]; exact hv
          | _ => simp at hv) hm
      obtain ⟨r, r1, r2⟩ := this
      exact ⟨r, by simpa [Instr.loadAt, Instr.sureAddr] using r1, r2⟩
  | _ => simp [loadK] at h

def fieldOff (Γ : Env) (t f : Nat) : Option Nat :=
  match Γ.at t with
  | some i => match i.td with
    | .strct fs => match getL fs f with
      | some x => some x.1
      | none => none
    | _ => none
  | none => none

theorem fieldOff_ok {P : Program} {Γ : Env} (hΓ : EnvOk P Γ) {t f o : Nat} (h : fieldOff Γ t f = some o) :
    ∃ fs x i, P.underlying t = some (.struct fs) ∧ fs[f]? = some x ∧ x.offset = o ∧ P.info? x.type = some i ∧ i.size ≠ 0 := by
  unfold fieldOff at h
  cases h1 : Γ.at t with
  | none => simp [h1] at h
  | some i =>
    simp only [h1] at h
    obtain ⟨d, h2, h3⟩ := (hΓ t i h1).und
    cases htd : i.td with
    | strct l =>
      simp only [htd] at h h3
      cases d with
      | struct fs =>
        obtain ⟨e1, e2⟩ := h3
        cases hg : getL l f with
        | none => simp [hg] at h
        | some x =>
          simp only [hg, Option.some.injEq] at h
          rw [getL_eq, e1, List.getElem?_map] at hg
          cases hf : fs.toList[f]? with
          | none => simp [hf] at hg
          | some y =>
            simp only [hf, Option.map_some, Option.some.injEq] at hg
            subst hg
            obtain ⟨j, j1, j2⟩ := e2 y (List.mem_of_getElem? hf)
            exact ⟨fs, y, j, h2, by simpa using hf, h, j1, j2⟩
      | _ => simp [tdOk] at h3
    | _ => simp [htd] at h

theorem fieldAt_ok {P : Program} {Γ : Env} (hΓ : EnvOk P Γ) {t f o : Nat} (h : fieldOff Γ t f = some o) (a : Addr) (w : World) :
    (Instr.fieldAt t (.pointer (some a)) f).run P w = .ok (.pointer (some (a.add o))) w := by
  obtain ⟨fs, x, i, h1, h2, h3, h4, h5⟩ := fieldOff_ok hΓ h
  unfold Instr.fieldAt
  rw [bind_ok (run_underlying h1 w)]
  simp only [h2]
  have hsz : (sizeOf x.type).run P w = .ok i.size w := by simp [sizeOf, typeInfo, h4]
  simp only [Instr.sureAddr, fieldPlace]
  simp [hsz, h5, h3]

/-- What an operation yields that changes nothing that is tracked. -/
def fieldK (o : Nat) : C → Option C
  | .ptr id off => some (.ptr id (off + o))
  | .ep id i j tot => some (.ep id i (j + o) tot)
  | .ip n get => some (.ip (n - o) fun j => get (o + j))
  | _ => none

theorem fieldK_ok {P : Program} {Γ : Env} (hΓ : EnvOk P Γ) {t f o : Nat} (h : fieldOff Γ t f = some o) {F : Mem} {H : List O} {μ : Nat → Value} (w : World) {p c : C} {v : Value}
    (hp : RepC F H μ p v) (hc : fieldK o p = some c) (hep : ∀ id i j tot, p = .ep id i j tot → ∀ e es n g, getL H id = some (.arr e es n g) → tot = n) :
    ∃ r, (Instr.fieldAt t v f).run P w = .ok r w ∧ RepC F H μ c r := by
  cases p with
  | ptr id off =>
    simp only [fieldK, Option.some.injEq] at hc
    subst hc
    obtain ⟨h1, b, h2, rfl⟩ := hp
    exact ⟨_, fieldAt_ok hΓ h _ w, h1, b, h2, by rw [add_at]⟩
  | ep id i j tot =>
    simp only [fieldK, Option.some.injEq] at hc
    subst hc
    obtain ⟨h0, e, es, n, g, h1, h2, h3⟩ := hp
    obtain ⟨b, cap, m1, m2, rfl⟩ := h3 (hep id i j tot rfl e es n g h1)
    exact ⟨_, fieldAt_ok hΓ h _ w, rfl, e, es, n, g, h1, h2, fun _ => ⟨b, cap, m1, m2, by rw [add_at, Nat.add_assoc]⟩⟩
  | ip n get =>
    simp only [fieldK, Option.some.injEq] at hc
    subst hc
    obtain ⟨b, off, rfl, hcs⟩ := hp
    refine ⟨_, fieldAt_ok hΓ h _ w, b, off + o, by rw [add_at], fun j hj => ?_⟩
    obtain ⟨x, h1, h2⟩ := hcs (o + j) (by omega)
    exact ⟨x, by rw [← h1]; congr 1; omega, h2⟩
  | _ => simp [fieldK] at hc

end Go.Am
