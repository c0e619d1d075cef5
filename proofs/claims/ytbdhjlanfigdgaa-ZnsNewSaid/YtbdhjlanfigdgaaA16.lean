import Derived.Test.YtbdhjlanfigdgaaA15
/- THE ABSTRACT MACHINE, PART 16: weakening, for use. -/
namespace Go.Am

abbrev idN : Nat → Nat := fun i => i

theorem wkC.imm {ρ : Nat → Nat} {n : Nat} {c : C} (h : c.imm = true) : wkC ρ n c c := by
  cases c with
  | ptr => cases h
  | ep => cases h
  | sl => cases h
  | fn f m g =>
    have : m = 0 := Nat.eq_of_beq_eq_true h
    exact ⟨rfl, rfl, fun j hj => by omega⟩
  | junk => trivial
  | _ => exact ⟨rfl, fun _ _ h => h⟩

theorem wkC.int {ρ : Nat → Nat} {n : Nat} {k : IntKind} {a b : Int} (h : a = b) : wkC ρ n (.int k a) (.int k b) := by subst h; exact wkC.imm rfl
theorem wkC.bool {ρ : Nat → Nat} {n : Nat} {a b : Bool} (h : a = b) : wkC ρ n (.bool a) (.bool b) := by subst h; exact wkC.imm rfl
theorem wkC.str {ρ : Nat → Nat} {n : Nat} {a b : ByteArray} (h : a = b) : wkC ρ n (.str a) (.str b) := by subst h; exact wkC.imm rfl
theorem wkC.ptr {n id o : Nat} (h : id < n) : wkC idN n (.ptr id o) (.ptr id o) := ⟨rfl, rfl, h⟩
theorem wkC.ep {n id i j t : Nat} (h : id < n) : wkC idN n (.ep id i j t) (.ep id i j t) := ⟨rfl, rfl, rfl, rfl, h⟩
theorem wkC.sl {n id es l t l' t' : Nat} {x x' : Bool} (h : id < n) (hl : l = l') (ht : t = t') (hx : x' = true → x = true) : wkC idN n (.sl id es l t x) (.sl id es l' t' x') := ⟨rfl, rfl, hl, ht, h, hx⟩
theorem wkC.isl {ρ : Nat → Nat} {n es m m' : Nat} {g g' : Nat → Nat → C} {t t' : Bool} (hm : m = m') (hg : ∀ i, i < m → ∀ j, j < es → g i j = g' i j) (ht : t' = true → t = true) : wkC ρ n (.isl es m g t) (.isl es m' g' t') := by
  subst hm
  refine ⟨rfl, fun F v ⟨a, cap, h1, h2, h3, h4, h5, h6⟩ => ⟨a, cap, h1, h2, h3, fun e => h4 (ht e), h5, ?_⟩⟩
  rcases h6 with h6 | ⟨b, off, h7, h8⟩
  · exact .inl h6
  · exact .inr ⟨b, off, h7, fun i hi j hj => by rw [← hg i hi j hj]; exact h8 i hi j hj⟩
theorem wkC.nil {ρ : Nat → Nat} {n es m : Nat} {g : Nat → Nat → C} {t : Bool} (hm : m = 0) : wkC ρ n .nils (.isl es m g t) := by
  subst hm
  exact ⟨rfl, fun F v h => ⟨none, 0, h, Nat.zero_le _, Nat.le_refl _, fun _ => rfl, fun _ => rfl, .inl rfl⟩⟩

theorem wkS.u {ρ : Nat → Nat} {n : Nat} {s : S} : wkS ρ n s .u := by cases s <;> trivial
theorem wkS.c {ρ : Nat → Nat} {n : Nat} {x y : C} (h : wkC ρ n x y) : wkS ρ n (.c x) (.c y) := h

def wkL (ρ : Nat → Nat) (n : Nat) : List C → List C → Prop
  | [], [] => True
  | x :: r, y :: r' => wkC ρ n x y ∧ wkL ρ n r r'
  | _, _ => False

theorem wkL_get {ρ : Nat → Nat} {n : Nat} : ∀ {xs ys : List C}, wkL ρ n xs ys → xs.length = ys.length ∧ ∀ (j : Nat) x y, getL xs j = some x → getL ys j = some y → wkC ρ n x y
  | [], [], _ => ⟨rfl, fun j x y h => by simp [getL] at h⟩
  | x :: r, y :: r', h => by
    obtain ⟨h1, h2⟩ := wkL_get h.2
    refine ⟨by simp [h1], fun j a b ha hb => ?_⟩
    cases j with
    | zero => simp only [getL, Option.some.injEq] at ha hb; subst ha; subst hb; exact h.1
    | succ j => simp only [getL] at ha hb; exact h2 j a b ha hb
  | [], _ :: _, h => h.elim
  | _ :: _, [], h => h.elim

theorem wkS.a {ρ : Nat → Nat} {n : Nat} {xs ys : List C} (h : wkL ρ n xs ys) : wkS ρ n (.a xs) (.a ys) := wkL_get h

theorem immL_wk {ρ : Nat → Nat} {n : Nat} : ∀ {xs : List C}, xs.all C.imm = true → wkL ρ n xs xs
  | [], _ => trivial
  | x :: r, h => by
    simp only [List.all_cons, Bool.and_eq_true] at h
    exact ⟨wkC.imm h.1, immL_wk h.2⟩

def wkTL (ρ : Nat → Nat) (n : Nat) : List (C ⊕ List C) → List (C ⊕ List C) → Prop
  | [], [] => True
  | .inl x :: r, .inl y :: r' => wkC ρ n x y ∧ wkTL ρ n r r'
  | .inr x :: r, .inr y :: r' => wkL ρ n x y ∧ wkTL ρ n r r'
  | _, _ => False

theorem wkTL_get {ρ : Nat → Nat} {n : Nat} : ∀ {xs ys : List (C ⊕ List C)}, wkTL ρ n xs ys → xs.length = ys.length ∧ ∀ (j : Nat) x y, getL xs j = some x → getL ys j = some y → wkE ρ n x y
  | [], [], _ => ⟨rfl, fun j x y h => by simp [getL] at h⟩
  | .inl x :: r, .inl y :: r', h => by
    obtain ⟨h1, h2⟩ := wkTL_get h.2
    refine ⟨by simp [h1], fun j a b ha hb => ?_⟩
    cases j with
    | zero => simp only [getL, Option.some.injEq] at ha hb; subst ha; subst hb; exact h.1
    | succ j => simp only [getL] at ha hb; exact h2 j a b ha hb
  | .inr x :: r, .inr y :: r', h => by
    obtain ⟨h1, h2⟩ := wkTL_get h.2
    refine ⟨by simp [h1], fun j a b ha hb => ?_⟩
    cases j with
    | zero => simp only [getL, Option.some.injEq] at ha hb; subst ha; subst hb; exact wkL_get h.1
    | succ j => simp only [getL] at ha hb; exact h2 j a b ha hb
  | [], _ :: _, h => h.elim
  | .inl _ :: _, [], h => h.elim
  | .inr _ :: _, [], h => h.elim
  | .inl _ :: _, .inr _ :: _, h => h.elim
  | .inr _ :: _, .inl _ :: _, h => h.elim

theorem wkS.t {ρ : Nat → Nat} {n : Nat} {xs ys : List (C ⊕ List C)} (h : wkTL ρ n xs ys) : wkS ρ n (.t xs) (.t ys) := wkTL_get h

theorem wkS.imm {ρ : Nat → Nat} {n : Nat} : ∀ {s : S}, s.imm = true → wkS ρ n s s
  | .u, _ => trivial
  | .c _, h => wkC.imm h
  | .a _, h => wkS.a (immL_wk h)
  | .t l, h => by
    refine wkS.t ?_
    have : ∀ l : List (C ⊕ List C), l.all E.imm = true → wkTL ρ n l l := by
      intro l
      induction l with
      | nil => intro _; trivial
      | cons x r ih =>
        intro h
        simp only [List.all_cons, Bool.and_eq_true] at h
        cases x with
        | inl c => exact ⟨wkC.imm h.1, ih h.2⟩
        | inr cs => exact ⟨immL_wk h.1, ih h.2⟩
    exact this l h
  | .lz _ s, h => ⟨rfl, wkS.imm (s := s) h⟩

theorem O.wk.vr {ρ : Nat → Nat} {n : Nat} {xs ys : List C} (h : wkL ρ n xs ys) : O.wk ρ n (.vr xs) (.vr ys) := wkL_get h
theorem O.wk.arr {ρ : Nat → Nat} {n e es m m' : Nat} {g g' : Nat → Nat → C} (hm : m = m') (h : ∀ i, i < m → ∀ j, j < es → wkC ρ n (g i j) (g' i j)) : O.wk ρ n (.arr e es m g) (.arr e es m' g') := ⟨rfl, rfl, hm, h⟩

def HWkL (ρ : Nat → Nat) (n : Nat) : List O → List O → Prop
  | _, [] => True
  | o :: r, o' :: r' => O.wk ρ n o o' ∧ HWkL ρ n r r'
  | [], _ :: _ => False

theorem HWkL_get {n : Nat} : ∀ {H H' : List O}, HWkL idN n H H' → ∀ i o', getL H' i = some o' → ∃ o, getL H i = some o ∧ O.wk idN n o o'
  | _, [], _, i, o', h => by simp [getL] at h
  | o :: r, o' :: r', h, i, x, hx => by
    cases i with
    | zero => simp only [getL, Option.some.injEq] at hx; subst hx; exact ⟨o, rfl, h.1⟩
    | succ i => simp only [getL] at hx; simpa [getL] using HWkL_get h.2 i x hx
  | [], _ :: _, h, _, _, _ => h.elim

theorem Wk.mk' {n0 : Nat} {ts ts' : Ts} {H H' : List O} (n : Nat) (hn : H'.length = n) (h : HWkL idN n H H') (t : wkT idN n ts ts') (h0 : n0 ≤ n) : Wk n0 ts H ts' H' := by
  subst hn
  exact ⟨⟨fun i o' hi => HWkL_get h i o' hi, fun i j _ _ e => e⟩, t, h0⟩

theorem Mv.mk' {X : Cx} {ts ts' : Ts} {H H' : List O} (n : Nat) (hn : H'.length = n) (h : HWkL idN n H H') (t : wkT idN n ts ts') (h0 : X.n0 ≤ n) : Mv X ts H ts' H' := Mv.wk (Wk.mk' n hn h t h0)

theorem leA.cons {s s' : S} {r r' : List S} (h1 : s.imm = true) (h2 : wkS idN 0 s s') (h3 : leA r r') : leA (s :: r) (s' :: r') := ⟨⟨h1, h2⟩, h3⟩
theorem leA.refl : ∀ {l : List S}, l.all S.imm = true → leA l l
  | [], _ => trivial
  | s :: r, h => by
    simp only [List.all_cons, Bool.and_eq_true] at h
    exact ⟨⟨h.1, wkS.imm h.1⟩, leA.refl h.2⟩

end Go.Am
namespace Go.Am
theorem Br.lt {a b : Int} {x y : Prop} (h : a < b → x) (h' : b ≤ a → y) : Br (decide (a < b)) x y := Br.mk (fun e => h (by simpa using e)) (fun e => h' (by simpa using e))
theorem Br.le {a b : Int} {x y : Prop} (h : a ≤ b → x) (h' : b < a → y) : Br (decide (a ≤ b)) x y := Br.mk (fun e => h (by simpa using e)) (fun e => h' (by simpa using e))
theorem Br.gt {a b : Int} {x y : Prop} (h : b < a → x) (h' : a ≤ b → y) : Br (decide (a > b)) x y := Br.mk (fun e => h (by simpa using e)) (fun e => h' (by simpa using e))
theorem Br.ge {a b : Int} {x y : Prop} (h : b ≤ a → x) (h' : a < b → y) : Br (decide (a ≥ b)) x y := Br.mk (fun e => h (by simpa using e)) (fun e => h' (by simpa using e))
theorem Br.eq {a b : Int} {x y : Prop} (h : a = b → x) (h' : a ≠ b → y) : Br (a == b) x y := Br.mk (fun e => h (by simpa using e)) (fun e => h' (by simpa using e))
theorem Br.ne {a b : Int} {x y : Prop} (h : a ≠ b → x) (h' : a = b → y) : Br (a != b) x y := Br.mk (fun e => h (by simpa using e)) (fun e => h' (by simpa using e))
theorem Br.str {a b : ByteArray} {x y : Prop} (h : a = b → x) (h' : a ≠ b → y) : Br (decide (a = b)) x y := Br.mk (fun e => h (by simpa using e)) (fun e => h' (by simpa using e))
theorem Br.not {b : Bool} {x y : Prop} (h : b = false → x) (h' : b = true → y) : Br (!b) x y := Br.mk (fun e => h (by simpa using e)) (fun e => h' (by simpa using e))

/-- Frozen cells that say as much as others. -/
def leF (c c' : C) : Prop := ∀ F v, RepF F c v → RepF F c' v
theorem leF.refl {c : C} : leF c c := fun _ _ h => h
theorem leF.of_eq {c c' : C} (h : c = c') : leF c c' := by subst h; exact leF.refl
theorem leF.trans {a b c : C} (h : leF a b) (k : leF b c) : leF a c := fun F v x => k F v (h F v x)
theorem leF.nil {es m : Nat} {g : Nat → Nat → C} {t : Bool} (hm : m = 0) : leF .nils (.isl es m g t) := by
  subst hm
  exact fun F v h => ⟨none, 0, h, Nat.zero_le _, Nat.le_refl _, fun _ => rfl, fun _ => rfl, .inl rfl⟩
theorem leF.isl {es m m' : Nat} {g g' : Nat → Nat → C} {t t' : Bool} (hm : m = m') (hg : ∀ i, i < m → ∀ j, j < es → leF (g i j) (g' i j)) (ht : t' = true → t = true) : leF (.isl es m g t) (.isl es m' g' t') := by
  subst hm
  intro F v ⟨a, cap, h1, h2, h3, h4, h5, h6⟩
  refine ⟨a, cap, h1, h2, h3, fun e => h4 (ht e), h5, ?_⟩
  rcases h6 with h6 | ⟨b, off, h7, h8⟩
  · exact .inl h6
  · refine .inr ⟨b, off, h7, fun i hi j hj => ?_⟩
    obtain ⟨x, x1, x2⟩ := h8 i hi j hj
    exact ⟨x, x1, hg i hi j hj F x x2⟩
theorem leF.flag {es m : Nat} {g : Nat → Nat → C} {t : Bool} : leF (.isl es m g t) (.isl es m g false) := leF.isl rfl (fun _ _ _ _ => leF.refl) (fun e => by cases e)
theorem wkC.isl' {ρ : Nat → Nat} {n es m m' : Nat} {g g' : Nat → Nat → C} {t t' : Bool} (h : leF (.isl es m g t) (.isl es m' g' t')) : wkC ρ n (.isl es m g t) (.isl es m' g' t') := ⟨rfl, h⟩
end Go.Am
