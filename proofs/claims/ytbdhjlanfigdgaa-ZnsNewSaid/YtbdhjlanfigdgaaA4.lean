import Derived.Test.YtbdhjlanfigdgaaA3
/- THE ABSTRACT MACHINE, PART 4: the operations that change nothing that is tracked, all of them. -/
namespace Go.Am

def elemOf (Γ : Env) (t : Nat) : Option (Nat × TI) :=
  match Γ.at t with
  | some i => match i.td with
    | .slice e => match Γ.at e with
      | some j => some (e, j)
      | none => none
    | _ => none
  | none => none

theorem elemOf_ok {P : Program} {Γ : Env} (hΓ : EnvOk P Γ) {t e : Nat} {j : TI} (h : elemOf Γ t = some (e, j)) : P.underlying t = some (.slice e) ∧ TIok P e j := by
  unfold elemOf at h
  cases h1 : Γ.at t with
  | none => simp [h1] at h
  | some i =>
    simp only [h1] at h
    obtain ⟨d, h2, h3⟩ := (hΓ t i h1).und
    cases htd : i.td with
    | slice e' =>
      simp only [htd] at h h3
      cases h4 : Γ.at e' with
      | none => simp [h4] at h
      | some j' =>
        simp only [h4, Option.some.injEq, Prod.mk.injEq] at h
        obtain ⟨rfl, rfl⟩ := h
        cases d with
        | slice e'' => simp only [tdOk] at h3; subst h3; exact ⟨h2, hΓ _ _ h4⟩
        | _ => simp [tdOk] at h3
    | _ => simp [htd] at h

/-- The address of an element. -/
def indexK (te : TI) (H : List O) (x : C) (i : Int) : Option (List Prop × C) :=
  match x with
  | .isl es n get _ => match Nat.beq es te.size with
    | true => some ([0 ≤ i, i < n], .ip es fun j => get i.toNat j)
    | false => none
  | .sl id es len tot _ => match Nat.beq es te.size with
    | true => match getL H id with
      | some (.arr _ _ n _) => some ([0 ≤ i, i < len, tot = n], .ep id i.toNat 0 tot)
      | _ => none
    | false => none
  | _ => none

theorem indexK_ok {P : Program} {Γ : Env} (hΓ : EnvOk P Γ) {K : Keep} {F : Mem} {H : List O} {μ : Nat → Value} {w : World} (hw : HSat K F H μ w) {t e : Nat} {te : TI} (he : elemOf Γ t = some (e, te))
    {x c : C} {k : IntKind} {i : Int} {v : Value} {ns : List Prop} (hx : RepC F H μ x v) (h : indexK te H x i = some (ns, c)) (hn : ∀ q ∈ ns, q) :
    ∃ r, (Instr.indexAt t v (.int k i)).run P w = .ok r w ∧ RepC F H μ c r := by
  obtain ⟨hu, hte⟩ := elemOf_ok hΓ he
  have run : ∀ (a : Addr) (n cap : Nat), 0 ≤ i → i < n → (Instr.indexAt t (.slice (some a) n cap) (.int k i)).run P w = .ok (.pointer (some (a.add (i.toNat * te.size)))) w := by
    intro a n cap h0 h1
    have hs := sizeOf_ok hte w
    simp [Instr.indexAt, asIntOf, run_underlying hu, h0, h1, hs]
  cases x with
  | isl es n get tight =>
    simp only [indexK] at h
    cases hb : Nat.beq es te.size with
    | false => simp [hb] at h
    | true =>
      have hes : es = te.size := Nat.eq_of_beq_eq_true hb
      simp only [hb, Option.some.injEq, Prod.mk.injEq] at h
      obtain ⟨rfl, rfl⟩ := h
      have h0 : 0 ≤ i := hn _ (by simp)
      have h1 : i < n := hn _ (by simp)
      obtain ⟨a, cap, rfl, _, _, _, _, h4⟩ := hx
      rcases h4 with h4 | ⟨b, off, rfl, hc⟩
      · omega
      · refine ⟨_, run _ n cap h0 h1, b, off + i.toNat * es, by rw [add_at, hes], fun j hj => ?_⟩
        obtain ⟨x, x1, x2⟩ := hc i.toNat (by omega) j hj
        exact ⟨x, x1, x2⟩
  | sl id es len tot xq =>
    simp only [indexK] at h
    cases hb : Nat.beq es te.size with
    | false => simp [hb] at h
    | true =>
      have hes : es = te.size := Nat.eq_of_beq_eq_true hb
      simp only [hb] at h
      obtain ⟨_, e', n, g, h1, h2, h2', h3⟩ := hx
      simp only [h1, Option.some.injEq, Prod.mk.injEq] at h
      obtain ⟨rfl, rfl⟩ := h
      have h0 : 0 ≤ i := hn _ (by simp)
      have hl : i < len := hn _ (by simp)
      have ht : tot = n := hn _ (by simp)
      obtain ⟨a, cap, m1, rfl, _⟩ := h3 ht
      obtain ⟨xs, o1, _, _⟩ := hw.ob id _ h1
      rcases o1.2 with ⟨q1, q2⟩ | ⟨b, cap', cur, q1, _⟩
      · omega
      · rw [m1] at q1
        simp only [Value.slice.injEq, true_and] at q1
        obtain ⟨rfl, rfl⟩ := q1
        refine ⟨_, run _ len cap h0 hl, rfl, e', es, n, g, h1, h2, fun _ => ⟨b, cap, m1, by omega, ?_⟩⟩
        rw [add_at, hes]; simp
  | _ => simp [indexK] at h

/-- Part of a struct. -/
def fieldV (Γ : Env) (t f : Nat) (cs : List C) : Option S :=
  match Γ.at t with
  | some i => match i.td with
    | .strct fs => match getL fs f with
      | some x => match Γ.at x.2 with
        | some j => match cut cs x.1 j.size with
          | some xs => mkS j.agg xs
          | none => none
        | none => none
      | none => none
    | _ => none
  | none => none

theorem part_ok {P : Program} {F : Mem} {H : List O} {μ : Nat → Value} {t : Nat} {i : TI} (ht : TIok P t i) {cs : List C} {vs : Array Value} {off : Nat} {xs : List C} {s : S} (w : World)
    (hl : RepL F H μ cs vs) (hc : cut cs off i.size = some xs) (hs : mkS i.agg xs = some s) : ∃ r, (part t vs off).run P w = .ok r w ∧ RepS F H μ s r := by
  obtain ⟨e1, e2⟩ := cut_ok _ _ _ _ hc
  unfold part
  rw [bind_ok (isAgg_ok ht w)]
  cases ha : i.agg with
  | true =>
    rw [ha] at hs
    simp only [mkS, Option.some.injEq] at hs
    subst hs
    simp only [if_true]
    rw [bind_ok (sizeOf_ok ht w)]
    refine ⟨_, rfl, _, rfl, ?_, fun j x hx => ?_⟩
    · have hlen : off + i.size ≤ cs.length ∨ i.size = 0 := by
        by_cases h0 : i.size = 0
        · exact .inr h0
        · left
          have := e2 (i.size - 1) (xs[i.size - 1]'(by omega)) (by rw [getL_eq]; simp)
          rw [getL_eq] at this
          have := (List.getElem?_eq_some_iff.1 this).1
          omega
      have := hl.1
      simp only [Array.size_extract]
      omega
    · have hj : j < i.size := by rw [← e1]; rw [getL_eq] at hx; exact (List.getElem?_eq_some_iff.1 hx).1
      obtain ⟨v, v1, v2⟩ := hl.2 (off + j) x (e2 j x hx)
      have hlt : off + j < vs.size := (Array.getElem?_eq_some_iff.1 v1).1
      refine ⟨v, ?_, v2⟩
      rw [Array.getElem?_extract]
      rw [if_pos (by omega)]
      exact v1
  | false =>
    rw [ha] at hs
    match xs, hs, e1, e2 with
    | [x], hs, e1, e2 =>
      simp only [mkS, Option.some.injEq] at hs
      subst hs
      obtain ⟨v, v1, v2⟩ := hl.2 (off + 0) x (e2 0 x (by simp [getL]))
      rw [Nat.add_zero] at v1
      exact ⟨v, by simp [v1], v2⟩
    | [], hs, _, _ => simp [mkS] at hs
    | _ :: _ :: _, hs, _, _ => simp [mkS] at hs

theorem fieldV_ok {P : Program} {Γ : Env} (hΓ : EnvOk P Γ) {F : Mem} {H : List O} {μ : Nat → Value} {t f : Nat} {cs : List C} {vs : Array Value} {s : S} (w : World) (hl : RepL F H μ cs vs)
    (h : fieldV Γ t f cs = some s) : ∃ r, (Instr.field t (.agg vs) f).run P w = .ok r w ∧ RepS F H μ s r := by
  unfold fieldV at h
  cases h1 : Γ.at t with
  | none => simp [h1] at h
  | some i =>
    simp only [h1] at h
    obtain ⟨d, h2, h3⟩ := (hΓ t i h1).und
    cases htd : i.td with
    | strct l =>
      simp only [htd] at h h3
      cases d with
      | struct fs =>
        obtain ⟨e1, e2⟩ := h3
        cases hg : getL l f with
        | none => simp [hg] at h
        | some x =>
          simp only [hg] at h
          cases hj : Γ.at x.2 with
          | none => simp [hj] at h
          | some j =>
            simp only [hj] at h
            cases hc : cut cs x.1 j.size with
            | none => simp [hc] at h
            | some xs =>
              simp only [hc] at h
              rw [getL_eq, e1, List.getElem?_map] at hg
              cases hf : fs.toList[f]? with
              | none => simp [hf] at hg
              | some y =>
                simp only [hf, Option.map_some, Option.some.injEq] at hg
                subst hg
                obtain ⟨r, r1, r2⟩ := part_ok (hΓ _ _ hj) w hl hc h
                refine ⟨r, ?_, r2⟩
                unfold Instr.field
                rw [bind_ok (run_underlying h2 w)]
                have : fs[f]? = some y := by simpa using hf
                simp only [this]
                rw [bind_ok (show (asAgg (.agg vs)).run P w = .ok vs w from rfl)]
                exact r1
      | _ => simp [tdOk] at h3
    | _ => simp [htd] at h

/-- Cells put in from the off-th on. -/
def splice {α : Type} : List α → Nat → List α → Option (List α)
  | l, 0, [] => some l
  | [], 0, _ :: _ => none
  | _ :: r, 0, y :: ys => match splice r 0 ys with
    | some l => some (y :: l)
    | none => none
  | [], _ + 1, _ => none
  | x :: r, k + 1, ys => match splice r k ys with
    | some l => some (x :: l)
    | none => none

theorem splice_ok {α : Type} : ∀ (l : List α) (k : Nat) (ys r : List α), splice l k ys = some r →
    r.length = l.length ∧ k + ys.length ≤ l.length ∧ ∀ (j : Nat), getL r j = if k ≤ j ∧ j < k + ys.length then getL ys (j - k) else getL l j
  | l, 0, [], r, h => by
    have : r = l := by cases l <;> simp [splice] at h <;> first | exact h | exact h.symm
    subst this
    refine ⟨rfl, by simp, fun j => ?_⟩
    rw [if_neg (by simp)]
  | [], 0, _ :: _, r, h => by simp [splice] at h
  | x :: l, 0, y :: ys, r, h => by
    simp only [splice] at h
    cases hs : splice l 0 ys with
    | none => simp [hs] at h
    | some l' =>
      simp only [hs, Option.some.injEq] at h
      subst h
      obtain ⟨h1, h2, h3⟩ := splice_ok l 0 ys l' hs
      refine ⟨by simp [h1], by simp at h2 ⊢; omega, fun j => ?_⟩
      cases j with
      | zero => simp [getL]
      | succ j =>
        simp only [getL, h3 j, List.length_cons]
        by_cases hj : j < ys.length
        · rw [if_pos (by omega), if_pos (by omega)]; simp [getL]
        · rw [if_neg (by omega), if_neg (by omega)]
  | [], k + 1, ys, r, h => by simp [splice] at h
  | x :: l, k + 1, ys, r, h => by
    simp only [splice] at h
    cases hs : splice l k ys with
    | none => simp [hs] at h
    | some l' =>
      simp only [hs, Option.some.injEq] at h
      subst h
      obtain ⟨h1, h2, h3⟩ := splice_ok l k ys l' hs
      refine ⟨by simp [h1], by simp; omega, fun j => ?_⟩
      cases j with
      | zero => simp [getL]
      | succ j =>
        simp only [getL, h3 j]
        by_cases hj : k ≤ j ∧ j < k + ys.length
        · rw [if_pos hj, if_pos (by omega)]; congr 1; omega
        · rw [if_neg hj, if_neg (by omega)]

def S.cells : S → Option (List C)
  | .c x => some [x]
  | .a xs => some xs
  | _ => none

theorem cells_ok {F : Mem} {H : List O} {μ : Nat → Value} {s : S} {v : Value} {xs : List C} (hs : RepS F H μ s v) (h : s.cells = some xs) : RepL F H μ xs v.cells := by
  cases s with
  | c x =>
    simp only [S.cells, Option.some.injEq] at h
    subst h
    have h1 := RepC.one x v hs
    have : v.cells = #[v] := by cases v <;> first | rfl | (simp [Value.oneCell'] at h1)
    rw [this]
    refine ⟨rfl, fun j y hy => ?_⟩
    cases j with
    | zero => simp [getL] at hy; subst hy; exact ⟨v, rfl, hs⟩
    | succ j => simp [getL] at hy
  | a l =>
    simp only [S.cells, Option.some.injEq] at h
    subst h
    obtain ⟨cs, rfl, hl⟩ := hs
    exact hl
  | _ => simp [S.cells] at h

theorem RepL.splice {F : Mem} {H : List O} {μ : Nat → Value} {l ys r : List C} {k : Nat} {cs vs : Array Value} (hl : RepL F H μ l cs) (hy : RepL F H μ ys vs) (h : splice l k ys = some r) :
    RepL F H μ r (vs.zipIdx.foldl (fun cs (c, j) => cs.setIfInBounds (k + j) c) cs) := by
  obtain ⟨h1, h2, h3⟩ := splice_ok l k ys r h
  have key : ∀ (us : List Value) (m : Nat) (cs : Array Value), k + m + us.length ≤ cs.size →
      ((us.zipIdx m).foldl (fun cs (c, j) => cs.setIfInBounds (k + j) c) cs).size = cs.size ∧
      ∀ q : Nat, ((us.zipIdx m).foldl (fun cs (c, j) => cs.setIfInBounds (k + j) c) cs)[q]? = if k + m ≤ q ∧ q < k + m + us.length then us[q - (k + m)]? else cs[q]? := by
    intro us
    induction us with
    | nil => intro m cs _; exact ⟨rfl, fun q => by simp; omega⟩
    | cons u us ih =>
      intro m cs hm
      simp only [List.length_cons] at hm
      rw [List.zipIdx_cons, List.foldl_cons]
      obtain ⟨i1, i2⟩ := ih (m + 1) (cs.setIfInBounds (k + m) u) (by rw [Array.size_setIfInBounds]; omega)
      refine ⟨by rw [i1]; simp, fun q => ?_⟩
      rw [i2 q]
      simp only [List.length_cons]
      by_cases c1 : k + m = q
      · subst c1
        have hlt : k + m < cs.size := by omega
        rw [if_neg (by omega), if_pos (by omega)]
        simp [hlt]
      · by_cases c2 : k + m ≤ q ∧ q < k + m + (us.length + 1)
        · rw [if_pos (by omega), if_pos c2]
          rw [show q - (k + m) = (q - (k + (m + 1))) + 1 by omega]
          simp
        · rw [if_neg (by omega), if_neg c2, Array.getElem?_setIfInBounds_ne c1]
  have hz : vs.zipIdx.foldl (fun cs (c, j) => cs.setIfInBounds (k + j) c) cs = (vs.toList.zipIdx 0).foldl (fun cs (c, j) => cs.setIfInBounds (k + j) c) cs := by
    rw [← Array.foldl_toList, Array.toList_zipIdx]
  have hsz : k + vs.size ≤ cs.size := by rw [hl.1, hy.1]; exact h2
  obtain ⟨z1, z2⟩ := key vs.toList 0 cs (by simp; exact hsz)
  rw [hz]
  refine ⟨by rw [z1, hl.1, h1], fun j x hx => ?_⟩
  rw [h3 j] at hx
  rw [z2 j]
  have hys := hy.1
  simp only [Nat.add_zero, Array.length_toList]
  by_cases c : k ≤ j ∧ j < k + ys.length
  · rw [if_pos c] at hx
    rw [if_pos (by omega)]
    obtain ⟨v, v1, v2⟩ := hy.2 _ x hx
    exact ⟨v, by simpa using v1, v2⟩
  · rw [if_neg c] at hx
    rw [if_neg (by omega)]
    exact hl.2 j x hx

end Go.Am
