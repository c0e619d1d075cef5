/- Contracts, lemmas; no condition. -/
import Derived.Test.YtjjlblnbeggejaaGreatP07
set_option linter.all false
section
namespace Go.Am
variable {ρ : Nat → Nat} {es m : Nat} {g : Nat → Nat → C} {x y : Prop}
abbrev idN : Nat → Nat := fun i => i
theorem wkC.imm {ρ : Nat → Nat} {n : Nat} {c : C} (h : c.imm = true) : wkC ρ n c c := by
 cases c with
 | ptr => cases h
 | ep => cases h
 | sl => cases h
 | mpr => cases h
 | fn f m g =>
  have : m = 0 := QxD h
  exact ⟨rfl, rfl, fun j hj => by omega⟩
 | junk => trivial
 | _ => exact ⟨rfl, fun _ _ h => h⟩
theorem wkC.int {ρ : Nat → Nat} {n : Nat} {k : IntKind} {a b : Int} (h : a = b) : wkC ρ n (.int k a) (.int k b) := by subst h; exact wkC.imm rfl
theorem wkC.bool {ρ : Nat → Nat} {n : Nat} {a b : Bool} (h : a = b) : wkC ρ n (.bool a) (.bool b) := by subst h; exact wkC.imm rfl
theorem wkC.str {ρ : Nat → Nat} {n : Nat} {a b : ByteArray} (h : a = b) : wkC ρ n (.str a) (.str b) := by subst h; exact wkC.imm rfl
theorem wkC.ptr {n id o : Nat} (h : id < n) : wkC idN n (.ptr id o) (.ptr id o) := ⟨rfl, rfl, h⟩
theorem wkC.sl {n id es l t l' t' : Nat} {x x' : Bool} (h : id < n) (hl : l = l') (ht : t = t') (hx : x' = true → x = true) : wkC idN n (.sl id es l t x) (.sl id es l' t' x') := ⟨rfl, rfl, hl, ht, h, hx⟩
theorem wkC.isl {ρ : Nat → Nat} {n es m m' : Nat} {g g' : Nat → Nat → C} {t t' : Bool} (hm : m = m') (hg : ∀ i, i < m → ∀ j, j < es → g i j = g' i j) (ht : t' = true → t = true) : wkC ρ n (.isl es m g t) (.isl es m' g' t') := by
 subst hm
 refine ⟨rfl, fun F v ⟨a, cap, h1, h2, h3, h4, h5, h6⟩ => ⟨a, cap, h1, h2, h3, fun e => h4 (ht e), h5, ?_⟩⟩
 rcases h6 with h6 | ⟨b, off, h7, h8⟩
 ·exact .inl h6
 ·exact .inr ⟨b, off, h7, fun i hi j hj => by rw [← hg i hi j hj]; exact h8 i hi j hj⟩
theorem wkC.nil {n : Nat} {t : Bool} (hm : m = 0) : wkC ρ n .nils (.isl es m g t) := by
 subst hm
 exact ⟨rfl, fun F v h => ⟨none, 0, h, Qxx _, QxB _, fun _ => rfl, fun _ => rfl, .inl rfl⟩⟩
theorem wkS.u {ρ : Nat → Nat} {n : Nat} {s : S} : wkS ρ n s .u := by cases s <;> trivial
theorem wkS.c {ρ : Nat → Nat} {n : Nat} {x y : C} (h : wkC ρ n x y) : wkS ρ n (.c x) (.c y) := h
def wkL (ρ : Nat → Nat) (n : Nat) : List C → List C → Prop
 | [], [] => True
 | x :: r, y :: r' => wkC ρ n x y ∧ wkL ρ n r r'
 | _, _ => False
theorem Qhs {ρ : Nat → Nat} {n : Nat} : ∀ {xs ys : List C}, wkL ρ n xs ys → xs.length = ys.length ∧ ∀ (j : Nat) x y, getL xs j = some x → getL ys j = some y → wkC ρ n x y
 | [], [], _ => ⟨rfl, fun j x y h => by simp [getL] at h⟩
 | x :: r, y :: r', h => by
  obtain ⟨h1, h2⟩ := Qhs h.2
  refine ⟨by simp [h1], fun j a b ha hb => ?_⟩
  cases j with
  | zero => simp only [getL, Qxv] at ha hb; subst ha; subst hb; exact h.1
  | succ j => simp only [getL] at ha hb; exact h2 j a b ha hb
 | [], _ :: _, h => h.elim
 | _ :: _, [], h => h.elim
theorem wkS.a {ρ : Nat → Nat} {n : Nat} {xs ys : List C} (h : wkL ρ n xs ys) : wkS ρ n (.a xs) (.a ys) := Qhs h
theorem Qv {ρ : Nat → Nat} {n : Nat} : ∀ {xs : List C}, xs.all C.imm = true → wkL ρ n xs xs
 | [], _ => trivial
 | x :: r, h => by
  simp only [Qzf, QxA] at h
  exact ⟨wkC.imm h.1, Qv h.2⟩
def wkTL (ρ : Nat → Nat) (n : Nat) : List (C ⊕ List C) → List (C ⊕ List C) → Prop
 | [], [] => True
 | .inl x :: r, .inl y :: r' => wkC ρ n x y ∧ wkTL ρ n r r'
 | .inr x :: r, .inr y :: r' => wkL ρ n x y ∧ wkTL ρ n r r'
 | _, _ => False
theorem Qir {ρ : Nat → Nat} {n : Nat} : ∀ {xs ys : List (C ⊕ List C)}, wkTL ρ n xs ys → xs.length = ys.length ∧ ∀ (j : Nat) x y, getL xs j = some x → getL ys j = some y → wkE ρ n x y
 | [], [], _ => ⟨rfl, fun j x y h => by simp [getL] at h⟩
 | .inl x :: r, .inl y :: r', h => by
  obtain ⟨h1, h2⟩ := Qir h.2
  refine ⟨by simp [h1], fun j a b ha hb => ?_⟩
  cases j with
  | zero => simp only [getL, Qxv] at ha hb; subst ha; subst hb; exact h.1
  | succ j => simp only [getL] at ha hb; exact h2 j a b ha hb
 | .inr x :: r, .inr y :: r', h => by
  obtain ⟨h1, h2⟩ := Qir h.2
  refine ⟨by simp [h1], fun j a b ha hb => ?_⟩
  cases j with
  | zero => simp only [getL, Qxv] at ha hb; subst ha; subst hb; exact Qhs h.1
  | succ j => simp only [getL] at ha hb; exact h2 j a b ha hb
 | [], _ :: _, h => h.elim
 | .inl _ :: _, [], h => h.elim
 | .inr _ :: _, [], h => h.elim
 | .inl _ :: _, .inr _ :: _, h => h.elim
 | .inr _ :: _, .inl _ :: _, h => h.elim
theorem wkS.t {ρ : Nat → Nat} {n : Nat} {xs ys : List (C ⊕ List C)} (h : wkTL ρ n xs ys) : wkS ρ n (.t xs) (.t ys) := Qir h
theorem wkS.imm {ρ : Nat → Nat} {n : Nat} : ∀ {s : S}, s.imm = true → wkS ρ n s s
 | .u, _ => trivial
 | .c _, h => wkC.imm h
 | .a _, h => wkS.a (Qv h)
 | .t l, h => by
  refine wkS.t ?_
  have : ∀ l : List (C ⊕ List C), l.all E.imm = true → wkTL ρ n l l := by
   intro l
   induction l with
   | nil => intro _; trivial
   | cons x r ih =>
    intro h
    simp only [Qzf, QxA] at h
    cases x with
    | inl c => exact ⟨wkC.imm h.1, ih h.2⟩
    | inr cs => exact ⟨Qv h.1, ih h.2⟩
  exact this l h
 | .lz _ s, h => ⟨rfl, wkS.imm (s := s) h⟩
 | .so .., h => by cases h
theorem O.wk.vr {ρ : Nat → Nat} {n : Nat} {xs ys : List C} (h : wkL ρ n xs ys) : O.wk ρ n (.vr xs) (.vr ys) := Qhs h
theorem O.wk.arr {ρ : Nat → Nat} {n e es m m' : Nat} {g g' : Nat → Nat → C} (hm : m = m') (h : ∀ i, i < m → ∀ j, j < es → wkC ρ n (g i j) (g' i j)) : O.wk ρ n (.arr e es m g) (.arr e es m' g') := ⟨rfl, rfl, hm, h⟩
def HWkL (ρ : Nat → Nat) (n : Nat) : List O → List O → Prop
 | _, [] => True
 | o :: r, o' :: r' => O.wk ρ n o o' ∧ HWkL ρ n r r'
 | [], _ :: _ => False
theorem QfF {n : Nat} : ∀ {H H' : List O}, HWkL idN n H H' → ∀ i o', getL H' i = some o' → ∃ o, getL H i = some o ∧ O.wk idN n o o'
 | _, [], _, i, o', h => by simp [getL] at h
 | o :: r, o' :: r', h, i, x, hx => by
  cases i with
  | zero => simp only [getL, Qxv] at hx; subst hx; exact ⟨o, rfl, h.1⟩
  | succ i => simp only [getL] at hx; simpa [getL] using QfF h.2 i x hx
 | [], _ :: _, h, _, _, _ => h.elim
theorem Wk.mk' {n0 : Nat} {ts ts' : Ts} {H H' : List O} (n : Nat) (hn : H'.length = n) (h : HWkL idN n H H') (t : wkT idN n ts ts') (h0 : n0 ≤ n) : Wk n0 ts H ts' H' := by
 subst hn
 exact ⟨⟨fun i o' hi => QfF h i o' hi, fun i j _ _ e => e⟩, t, h0⟩
theorem Mv.mk' {X : Cx} {ts ts' : Ts} {H H' : List O} (n : Nat) (hn : H'.length = n) (h : HWkL idN n H H') (t : wkT idN n ts ts') (h0 : X.n0 ≤ n) : Mv X ts H ts' H' := Mv.wk (Wk.mk' n hn h t h0)
theorem leA.cons {s s' : S} {r r' : List S} (h1 : s.imm = true) (h2 : wkS idN 0 s s') (h3 : leA r r') : leA (s :: r) (s' :: r') := ⟨⟨h1, h2⟩, h3⟩
theorem leA.refl : ∀ {l : List S}, l.all S.imm = true → leA l l
 | [], _ => trivial
 | s :: r, h => by
  simp only [Qzf, QxA] at h
  exact ⟨⟨h.1, wkS.imm h.1⟩, leA.refl h.2⟩
theorem Br.le {a b : Int} (h : a ≤ b → x) (h' : b < a → y) : Br (decide (a ≤ b)) x y := Br.mk (fun e => h (by simpa using e)) (fun e => h' (by simpa using e))
theorem Br.eq {a b : Int} (h : a = b → x) (h' : a ≠ b → y) : Br (a == b) x y := Br.mk (fun e => h (by simpa using e)) (fun e => h' (by simpa using e))
theorem Br.str {a b : ByteArray} (h : a = b → x) (h' : a ≠ b → y) : Br (decide (a = b)) x y := Br.mk (fun e => h (by simpa using e)) (fun e => h' (by simpa using e))
def leF (c c' : C) : Prop := ∀ F v, RepF F c v → RepF F c' v
theorem leF.refl {c : C} : leF c c := fun _ _ h => h
theorem leF.of_eq {c c' : C} (h : c = c') : leF c c' := by subst h; exact leF.refl
theorem leF.trans {a b c : C} (h : leF a b) (k : leF b c) : leF a c := fun F v x => k F v (h F v x)
theorem leF.nil {t : Bool} (hm : m = 0) : leF .nils (.isl es m g t) := by
 subst hm
 exact fun F v h => ⟨none, 0, h, Qxx _, QxB _, fun _ => rfl, fun _ => rfl, .inl rfl⟩
theorem leF.isl {es m m' : Nat} {g g' : Nat → Nat → C} {t t' : Bool} (hm : m = m') (hg : ∀ i, i < m → ∀ j, j < es → leF (g i j) (g' i j)) (ht : t' = true → t = true) : leF (.isl es m g t) (.isl es m' g' t') := by
 subst hm
 intro F v ⟨a, cap, h1, h2, h3, h4, h5, h6⟩
 refine ⟨a, cap, h1, h2, h3, fun e => h4 (ht e), h5, ?_⟩
 rcases h6 with h6 | ⟨b, off, h7, h8⟩
 ·exact .inl h6
 ·refine .inr ⟨b, off, h7, fun i hi j hj => ?_⟩
  obtain ⟨x, x1, x2⟩ := h8 i hi j hj
  exact ⟨x, x1, hg i hi j hj F x x2⟩
theorem Qxd {t : Bool} : leF (.isl es m g t) (.isl es m g false) := leF.isl rfl (fun _ _ _ _ => leF.refl) (fun e => by cases e)
theorem Qxc {n m' : Nat} {g' : Nat → Nat → C} {t t' : Bool} (h : leF (.isl es m g t) (.isl es m' g' t')) : wkC ρ n (.isl es m g t) (.isl es m' g' t') := ⟨rfl, h⟩
theorem leA.nil : leA [] [] := trivial
end Go.Am
end

section
namespace Go.Am
variable {H H' : List O} {r : List Prop × S} {c x : C} {te : TI} {Γ : Env} {ts ts' : Ts} {op : Op}
def idC : C → Option Nat
 | .ptr id _ => some id
 | .ep id _ _ _ => some id
 | .sl id _ _ _ _ => some id
 | .mpr id => some id
 | _ => none
def idS : S → Option Nat
 | .c x => idC x
 | .lz _ s => idS s
 | .so id _ _ _ _ => some id
 | _ => none
theorem Qdd : ∀ {s s' : S} {p : List Prop}, bare s = (p, s') → idS s' = idS s
 | .lz g s, s', p, h => by
  simp only [bare] at h
  cases hb : bare s with
  | mk q t =>
   simp only [hb, QxI] at h
   obtain ⟨_, rfl⟩ := h
   show idS t = idS s
   exact Qdd hb
 | .u, _, _, h => by simp only [bare, QxI] at h; obtain ⟨_, rfl⟩ := h; rfl
 | .c _, _, _, h => by simp only [bare, QxI] at h; obtain ⟨_, rfl⟩ := h; rfl
 | .a _, _, _, h => by simp only [bare, QxI] at h; obtain ⟨_, rfl⟩ := h; rfl
 | .t _, _, _, h => by simp only [bare, QxI] at h; obtain ⟨_, rfl⟩ := h; rfl
 | .so .., _, _, h => by simp only [bare, QxI] at h; obtain ⟨_, rfl⟩ := h; rfl
def Sees (H H' : List O) (id : Option Nat) : Prop := ∀ i, id = some i → ∀ o, getL H i = some o → getL H' i = some o
theorem QpV {i : TI} {p : C} (h : Qb0 i H p = some r) (hs : Sees H H' (idC p)) : Qb0 i H' p = some r := by
 cases p with
 | ptr id off =>
  simp only [Qb0] at h ⊢
  cases hg : getL H id with
  | none => simp [hg] at h
  | some o => rw [hs id rfl o hg]; rw [hg] at h; exact h
 | ep id k j tot =>
  simp only [Qb0] at h ⊢
  cases hg : getL H id with
  | none => simp [hg] at h
  | some o => rw [hs id rfl o hg]; rw [hg] at h; exact h
 | _ => exact h
theorem QpG {r : List Prop} (h : QeQ H c = some r) (hs : Sees H H' (idC c)) : QeQ H' c = some r := by
 cases c with
 | ep id k j tot =>
  simp only [QeQ] at h ⊢
  cases hg : getL H id with
  | none => simp [hg] at h
  | some o => rw [hs id rfl o hg]; rw [hg] at h; exact h
 | fn f n g => cases f <;> exact h
 | _ => exact h
theorem QnB {r : List Prop} (h : QgM H c = some r) (hs : Sees H H' (idC c)) : QgM H' c = some r := by
 cases c with
 | ep id k j tot =>
  simp only [QgM] at h ⊢
  cases hg : getL H id with
  | none => simp [hg] at h
  | some o => rw [hs id rfl o hg]; rw [hg] at h; exact h
 | _ => exact h
theorem Qok {i : Int} {r : List Prop × C} (h : QdS te H x i = some r) (hs : Sees H H' (idC x)) : QdS te H' x i = some r := by
 cases x with
 | sl id es len tot xq =>
  simp only [QdS] at h ⊢
  cases hb : Nat.beq es te.size with
  | false => simp [hb] at h
  | true =>
   simp only [hb] at h ⊢
   cases hg : getL H id with
   | none => simp [hg] at h
   | some o => rw [hs id rfl o hg]; rw [hg] at h; exact h
 | _ => exact h
theorem Qof {lo hi mx : Option Int} (h : QdL te H x lo hi mx = some r) (hs : Sees H H' (idC x)) : QdL te H' x lo hi mx = some r := by
 cases x with
 | sl id es len tot xq =>
  simp only [QdL] at h ⊢
  cases hb : Nat.beq es te.size with
  | false => simp [hb] at h
  | true =>
   simp only [hb] at h ⊢
   cases ho : getL H id with
   | none => simp [ho] at h
   | some o =>
    rw [hs id rfl o ho]
    rw [ho] at h
    exact h
 | _ => simp [QdL] at h
theorem Qpm {src dst : Nat} {r : List Prop × C} (h : Qd9 Γ src dst H x = some r) (hs : Sees H H' (idC x)) : Qd9 Γ src dst H' x = some r := by
 cases x with
 | sl id es len tot xq =>
  simp only [Qd9] at h ⊢
  cases hg : getL H id with
  | none =>
   simp only [hg] at h
   repeat' split at h
   all_goals cases h
  | some o => rw [hs id rfl o hg]; rw [hg] at h; exact h
 | _ => exact h
theorem Qgy {Γ : Env} {fs : List (Nat × Nat)} {ts ts' : Ts} : ∀ (parts : List (Nat × Operand)) (cells : List C), (∀ x ∈ parts.map (·.2), opnd ts' x = opnd ts x) → Qci Γ fs ts' parts cells = Qci Γ fs ts parts cells
 | [], _, _ => rfl
 | (i, x) :: r, cells, h => by
  have hx : opnd ts' x = opnd ts x := h x (by simp)
  have ih : ∀ cells', Qci Γ fs ts' r cells' = Qci Γ fs ts r cells' := fun cells' => Qgy r cells' (fun y hy => h y (by simp at hy ⊢; exact .inr hy))
  simp only [Qci, hx, ih]
theorem QhP {ts ts' : Ts} : ∀ (parts : List (Nat × Operand)), (∀ x ∈ parts.map (·.2), opnd ts' x = opnd ts x) → QaD ts' parts = QaD ts parts
 | [], _ => rfl
 | (i, x) :: r, h => by
  have hx : opnd ts' x = opnd ts x := h x (by simp)
  simp only [QaD, hx, QhP r (fun y hy => h y (by simp at hy ⊢; exact .inr hy))]
theorem Qhb {es : Nat} {ts ts' : Ts} : ∀ (parts : List (Nat × Operand)) (cells : List C), (∀ x ∈ parts.map (·.2), opnd ts' x = opnd ts x) → Qcb es ts' parts cells = Qcb es ts parts cells
 | [], _, _ => rfl
 | (i, x) :: r, cells, h => by
  have hx : opnd ts' x = opnd ts x := h x (by simp)
  have ih : ∀ cells', Qcb es ts' r cells' = Qcb es ts r cells' := fun cells' => Qhb r cells' (fun y hy => h y (by simp at hy ⊢; exact .inr hy))
  simp only [Qcb, hx, ih]
theorem QgE {ts ts' : Ts} : ∀ (xs : List Operand), (∀ x ∈ xs, opnd ts' x = opnd ts x) → Qce ts' xs = Qce ts xs
 | [], _ => rfl
 | x :: r, h => by
  have hx : opnd ts' x = opnd ts x := h x (by simp)
  have ih := QgE r (fun y hy => h y (by simp [hy]))
  simp only [Qce, hx, ih]
theorem Qet (x : Option Operand) (h : ∀ y ∈ x.toList, opnd ts' y = opnd ts y) : Qbf ts' x = Qbf ts x := by
 cases x with
 | none => rfl
 | some x => simp only [Qbf, h x (by simp)]
theorem Qim (h : val Γ ts H op = some r) (he : ∀ x ∈ op.operands, opnd ts' x = opnd ts x) (hs : ∀ x ∈ op.operands, Sees H H' (idS (opnd ts x))) :
  val Γ ts' H' op = some r := by
 have B : ∀ {x : Operand} {p : List Prop} {c : C}, x ∈ op.operands → bare (opnd ts x) = (p, .c c) → Sees H H' (idC c) := by
  intro x p c hx hb
  have := Qdd hb
  have h2 := hs x hx
  rw [← this] at h2
  exact h2
 unfold val at h ⊢
 split at h
 case h_1 x => simp only [he x (by simp [Op.operands])]; exact h
 case h_2 x => simp only [he x (by simp [Op.operands])]; exact h
 case h_3 c a b =>
  simp only [he c (by simp [Op.operands]), he a (by simp [Op.operands]), he b (by simp [Op.operands])]; exact h
 case h_13 t x ix ok =>
  simp only [he x (by simp [Op.operands]), he ix (by simp [Op.operands])]
  split at h
  ·split at h
   ·split at h
    ·rename_i p id hb
     split at h
     split at h
     ·split at h
      ·split at h
       ·rename_i hg
        have hg' := B (by simp [Op.operands]) hb id rfl _ hg
        simp_all
       ·cases h
      ·cases h
     ·cases h
    ·cases h
   ·cases h
  ·cases h
 case h_4 t a =>
  simp only [he a (by simp [Op.operands])]
  split at h
  ·rename_i i hi
   split at h
   ·rename_i p c hb
    try simp only [hb]
    split at h
    ·rename_i q s hl
     rw [QpV hl (B (x := a) (by simp [Op.operands]) hb)]
     exact h
    ·cases h
   ·cases h
  ·cases h
 case h_5 x =>
  simp only [he x (by simp [Op.operands])]
  split at h
  ·rename_i p c hb
   try simp only [hb]
   split at h
   ·rename_i q hl
    rw [QpG hl (B (x := x) (by simp [Op.operands]) hb)]
    exact h
   ·cases h
  ·cases h
 case h_6 t x f =>
  simp only [he x (by simp [Op.operands])]
  split at h
  ·rename_i o ho
   try simp only [ho]
   split at h
   ·rename_i p c hb
    try simp only [hb]
    split at h
    ·rename_i r' hr
     try simp only [hr]
     split at h
     ·rename_i q hq
      rw [QnB hq (B (x := x) (by simp [Op.operands]) hb)]
      exact h
     ·cases h
    ·cases h
   ·cases h
  ·cases h
 case h_7 t x f => simp only [he x (by simp [Op.operands])]; exact h
 case h_8 t x i =>
  simp only [he x (by simp [Op.operands]), he i (by simp [Op.operands])]
  split at h
  ·rename_i e te het
   try simp only [het]
   split at h
   ·rename_i p x' hb
    try simp only [hb]
    split at h
    ·rename_i q k i' hb2
     try simp only [hb2]
     split at h
     ·rename_i r' c hc
      rw [Qok hc (B (x := x) (by simp [Op.operands]) hb)]
      exact h
     ·cases h
    ·cases h
   ·cases h
  ·rename_i het
   try simp only [het]
   exact h
 case h_9 t x i => simp only [he x (by simp [Op.operands]), he i (by simp [Op.operands])]; exact h
 case h_10 o t x y yt => simp only [he x (by simp [Op.operands]), he y (by simp [Op.operands])]; exact h
 case h_11 o t x => simp only [he x (by simp [Op.operands])]; exact h
 case h_12 src dst x =>
  simp only [he x (by simp [Op.operands])]
  split at h
  ·rename_i p c hb
   try simp only [hb]
   split at h
   ·rename_i q v hl
    rw [Qpm hl (B (x := x) (by simp [Op.operands]) hb)]
    exact h
   ·cases h
  ·cases h
 case h_14 x i => simp only [he x (by simp [Op.operands])]; exact h
 case h_15 t parts =>
  have : Qfy Γ ts' t parts.toList = Qfy Γ ts t parts.toList := by
   unfold Qfy
   have := fun fs cells => Qgy (Γ := Γ) (fs := fs) parts.toList cells (fun x hx => he x (by simpa [Op.operands] using hx))
   have this2 := fun es cells => Qhb (es := es) parts.toList cells (fun x hx => he x (by simpa [Op.operands] using hx))
   simp only [this, this2]
  have this3 : QaD ts' parts.toList = QaD ts parts.toList := QhP _ (fun x hx => he x (by simpa [Op.operands] using hx))
  simp only [this, this3]; exact h
 case h_16 f first captured =>
  have : Qce ts' captured.toList = Qce ts captured.toList := QgE _ (fun x hx => he x (by simp only [Op.operands, Array.mem_append]; right; simpa using hx))
  simp only [this]; exact h
 case h_17 t x lo hi mx =>
  have h1 : Qbf ts' lo = Qbf ts lo := Qet lo (fun y hy => he y (by simp only [Op.operands, Array.mem_append]; left; left; right; simpa using hy))
  have h2 : Qbf ts' hi = Qbf ts hi := Qet hi (fun y hy => he y (by simp only [Op.operands, Array.mem_append]; left; right; simpa using hy))
  have h3 : Qbf ts' mx = Qbf ts mx := Qet mx (fun y hy => he y (by simp only [Op.operands, Array.mem_append]; right; simpa using hy))
  simp only [he x (by simp [Op.operands]), h1, h2, h3]
  split at h
  ·rename_i p x' hb
   try simp only [hb]
   split at h
   ·rename_i p1 lo' hlo
    try simp only [hlo]
    split at h
    ·rename_i p2 hi' hhi
     try simp only [hhi]
     split at h
     ·rename_i p3 mx' hmx
      try simp only [hmx]
      cases x' with
      | sl id es len tot xq =>
       simp only at h ⊢
       split at h
       ·rename_i e te het
        try simp only [het]
        split at h
        ·rename_i q s0 hso
         rw [Qof hso (B (x := x) (by simp [Op.operands]) hb)]
         exact h
        ·cases h
       ·cases h
      | _ => exact h
     ·cases h
    ·cases h
   ·cases h
  ·cases h
 case h_18 args argTypes =>
  split at h
  ·rename_i x hargs
   have hx : x ∈ (Op.call { callee := .builtin .len, args, argTypes }).operands := by
    have ha : args = #[x] := by apply QxV.1; simpa using hargs
    subst ha
    simp [Op.operands, Call.operands]
   try simp only [hargs]
   split at h
   ·rename_i t ht
    try simp only [ht]
    try simp only [he x hx]
    split at h
    ·rename_i p c hb
     try simp only [hb]
     split at h
     ·rename_i n hn
      try simp only [hn]
      have hsee := B hx hb
      split at h
      ·exact h
      ·rename_i id es len tot xq
       split at h
       ·rename_i pr hpr
        try simp only [hpr]
        split at h
        ·rename_i hg
         rw [hsee id rfl _ hg]
         exact h
        ·cases h
       ·cases h
      ·exact h
     ·rename_i hn
      try simp only [hn]
      have hsee := B hx hb
      split at h
      ·rename_i id
       split at h
       ·rename_i hg
        have hg' := hsee id rfl _ hg
        simp_all
       ·cases h
      ·cases h
    ·cases h
   ·cases h
  ·cases h
 case h_19 args argTypes =>
  split at h
  ·rename_i x y hargs
   have ha : args = #[x, y] := by apply QxV.1; simpa using hargs
   subst ha
   simp only [he x (by simp [Op.operands, Call.operands]), he y (by simp [Op.operands, Call.operands])]; exact h
  ·cases h
 case h_20 args argTypes =>
  split at h
  ·rename_i x y hargs
   have ha : args = #[x, y] := by apply QxV.1; simpa using hargs
   subst ha
   simp only [he x (by simp [Op.operands, Call.operands]), he y (by simp [Op.operands, Call.operands])]; exact h
  ·cases h
 case h_21 => cases h
theorem Qkt (he : ∀ x ∈ op.operands, opnd ts' x = opnd ts x) : eff Γ ts' H op = eff Γ ts H op := by
 unfold eff
 split
 ·rfl
 ·rename_i t x; simp only [he x (by simp [Op.operands])]
 ·rename_i t a x; simp only [he x (by simp [Op.operands]), he a (by simp [Op.operands])]
 ·rename_i t l c; simp only [he l (by simp [Op.operands]), he c (by simp [Op.operands])]
 ·rename_i t len parts
  have : ∀ e te, Qdg e te ts' H len parts.toList = Qdg e te ts H len parts.toList := by
   intro e te
   unfold Qdg
   have key : ∀ (ps : List (Nat × Operand)) (cells : List C), (∀ x ∈ ps.map (·.2), opnd ts' x = opnd ts x) → Qbr te.size ts' ps cells = Qbr te.size ts ps cells := by
    intro ps
    induction ps with
    | nil => intro cells _; rfl
    | cons p ps ih =>
     intro cells h
     obtain ⟨i, x⟩ := p
     have hx : opnd ts' x = opnd ts x := h x (by simp)
     have ih' : ∀ cells', Qbr te.size ts' ps cells' = Qbr te.size ts ps cells' := fun cells' => ih cells' (fun y hy => h y (by simp at hy ⊢; exact .inr hy))
     simp only [Qbr, hx, ih']
   rw [key _ _ (fun x hx => he x (by simpa [Op.operands] using hx))]
  have this2 : QaD ts' parts.toList = QaD ts parts.toList := by
   have key : ∀ (ps : List (Nat × Operand)), (∀ x ∈ ps.map (·.2), opnd ts' x = opnd ts x) → QaD ts' ps = QaD ts ps := by
    intro ps
    induction ps with
    | nil => intro _; rfl
    | cons p ps ih =>
     intro h
     obtain ⟨i, x⟩ := p
     have hx : opnd ts' x = opnd ts x := h x (by simp)
     simp only [QaD, hx, ih (fun y hy => h y (by simp at hy ⊢; exact .inr hy))]
   exact key _ (fun x hx => he x (by simpa [Op.operands] using hx))
  simp only [this, this2]
 ·rename_i args argTypes
  split
  ·rename_i x y hargs
   have ha : args = #[x, y] := by apply QxV.1; simpa using hargs
   subst ha
   simp only [he x (by simp [Op.operands, Call.operands]), he y (by simp [Op.operands, Call.operands])]
  ·rfl
 ·rename_i args argTypes
  split
  ·rename_i x y hargs
   have ha : args = #[x, y] := by apply QxV.1; simpa using hargs
   subst ha
   simp only [he x (by simp [Op.operands, Call.operands]), he y (by simp [Op.operands, Call.operands])]
  ·rfl
 ·rename_i args argTypes
  split
  ·rename_i x hargs
   have ha : args = #[x] := by apply QxV.1; simpa using hargs
   subst ha
   simp only [he x (by simp [Op.operands, Call.operands])]
  ·rfl
 ·rfl
 ·rename_i t m k x; simp only [Qhm, he m (by simp [Op.operands]), he k (by simp [Op.operands]), he x (by simp [Op.operands])]
 ·rename_i t m k x; simp only [Qhm, he m (by simp [Op.operands]), he k (by simp [Op.operands]), he x (by simp [Op.operands])]
 ·rename_i args argTypes
  split
  ·rename_i x y hargs
   have ha : args = #[x, y] := by apply QxV.1; simpa using hargs
   subst ha
   simp only [QlP, he x (by simp [Op.operands, Call.operands]), he y (by simp [Op.operands, Call.operands])]
  ·rfl
 ·rfl
theorem QhI {ts ts' : Ts} : ∀ (xs : List Operand), (∀ x ∈ xs, opnd ts' x = opnd ts x) → Qb4 ts' xs = Qb4 ts xs
 | [], _ => rfl
 | x :: r, h => by
  have hx : opnd ts' x = opnd ts x := h x (by simp)
  have ih := QhI r (fun y hy => h y (by simp [hy]))
  simp only [Qb4, hx, ih]
theorem Qes (he : ∀ x ∈ op.operands, opnd ts' x = opnd ts x) : Qa6 ts' op = Qa6 ts op := by
 unfold Qa6
 split
 ·rename_i f args argTypes
  have h1 : opnd ts' f = opnd ts f := he f (by simp [Op.operands, Call.operands])
  have h2 : Qb4 ts' args.toList = Qb4 ts args.toList := QhI _ (fun x hx => he x (by simp only [Op.operands, Call.operands, Array.mem_append]; right; simpa using hx))
  simp only [h1, h2]
 ·rfl
end Go.Am
end

section
namespace Go.Am
def fzC (id n : Nat) (g : Nat → Nat → C) : C → C
 | .sl a es l t x => match Nat.beq a id with
  | true => match Nat.beq t n with
   | true => .isl es l g (Nat.beq l t && x)
   | false => .junk
  | false => .sl a es l t x
 | .ep a i j t => match Nat.beq a id with
  | true => .junk
  | false => .ep a i j t
 | .fn f m get => .fn f m fun j => fzC id n g (get j)
 | c => c
def fzL (id n : Nat) (g : Nat → Nat → C) : List C → List C
 | [] => []
 | x :: r => fzC id n g x :: fzL id n g r
def fzE (id n : Nat) (g : Nat → Nat → C) : C ⊕ List C → C ⊕ List C
 | .inl x => .inl (fzC id n g x)
 | .inr xs => .inr (fzL id n g xs)
def fzEL (id n : Nat) (g : Nat → Nat → C) : List (C ⊕ List C) → List (C ⊕ List C)
 | [] => []
 | x :: r => fzE id n g x :: fzEL id n g r
def fzS (id n : Nat) (g : Nat → Nat → C) : S → S
 | .u => .u
 | .c x => .c (fzC id n g x)
 | .a xs => .a (fzL id n g xs)
 | .t l => .t (fzEL id n g l)
 | .lz b s => .lz b (fzS id n g s)
 | .so .. => .u
def fzO (id n : Nat) (g : Nat → Nat → C) : O → O
 | .vr cs => .vr (fzL id n g cs)
 | .arr e es m h => .arr e es m fun i j => fzC id n g (h i j)
 | .dead => .dead
 | .mp sh z va ks val => .mp sh z va ks val
def fzHL (id n : Nat) (g : Nat → Nat → C) : List O → List O
 | [] => []
 | o :: r => fzO id n g o :: fzHL id n g r
def fzHK (id n : Nat) (g : Nat → Nat → C) : Nat → List O → List O
 | _, [] => []
 | 0, _ :: r => .dead :: fzHL id n g r
 | k + 1, o :: r => fzO id n g o :: fzHK id n g k r
def fzH (id n : Nat) (g : Nat → Nat → C) (H : List O) : List O := fzHK id n g id H
def fzT (id n : Nat) (g : Nat → Nat → C) : Ts → Ts
 | [] => []
 | (t, s) :: r => (t, fzS id n g s) :: fzT id n g r
def fzA (id n : Nat) (g : Nat → Nat → C) : List S → List S
 | [] => []
 | s :: r => fzS id n g s :: fzA id n g r
section
variable {id n : Nat} {g : Nat → Nat → C}
theorem QoO : ∀ l : List C, (fzL id n g l).length = l.length
 | [] => rfl
 | _ :: r => by simp [fzL, QoO r]
theorem QoP : ∀ (l : List C) (j : Nat), getL (fzL id n g l) j = (getL l j).map (fzC id n g)
 | [], _ => rfl
 | _ :: _, 0 => rfl
 | _ :: r, j + 1 => by simp only [fzL, getL]; exact QoP r j
theorem Qmn : ∀ l : List (C ⊕ List C), (fzEL id n g l).length = l.length
 | [] => rfl
 | _ :: r => by simp [fzEL, Qmn r]
theorem QlY : ∀ (l : List (C ⊕ List C)) (j : Nat), getL (fzEL id n g l) j = (getL l j).map (fzE id n g)
 | [], _ => rfl
 | _ :: _, 0 => rfl
 | _ :: r, j + 1 => by simp only [fzEL, getL]; exact QlY r j
theorem Qow : ∀ l : List S, (fzA id n g l).length = l.length
 | [] => rfl
 | _ :: r => by simp [fzA, Qow r]
theorem QoX : ∀ (l : List S) (j : Nat), getL (fzA id n g l) j = (getL l j).map (fzS id n g)
 | [], _ => rfl
 | _ :: _, 0 => rfl
 | _ :: r, j + 1 => by simp only [fzA, getL]; exact QoX r j
theorem QmQ : ∀ (l : List O) (j : Nat), getL (fzHL id n g l) j = (getL l j).map (fzO id n g)
 | [], _ => rfl
 | _ :: _, 0 => rfl
 | _ :: r, j + 1 => by simp only [fzHL, getL]; exact QmQ r j
theorem Qmu : ∀ (k : Nat) (l : List O) (j : Nat), getL (fzHK id n g k l) j = (getL l j).map fun o => if j = k then .dead else fzO id n g o
 | 0, [], _ => rfl
 | _ + 1, [], _ => rfl
 | 0, _ :: _, 0 => rfl
 | 0, _ :: r, j + 1 => by simp [fzHK, getL, QmQ]
 | k + 1, _ :: r, 0 => by simp [fzHK, getL]
 | k + 1, _ :: r, j + 1 => by simp only [fzHK, getL, Qmu k r j]; simp
theorem QbZ (H : List O) (j : Nat) : getL (fzH id n g H) j = (getL H j).map fun o => if j = id then .dead else fzO id n g o := Qmu id H j
theorem Qm1 : ∀ (ts : Ts) (t : Nat), find t (fzT id n g ts) = fzS id n g (find t ts)
 | [], _ => rfl
 | (u, s) :: r, t => by
  simp only [fzT, find]
  cases Nat.beq u t with
  | true => rfl
  | false => exact Qm1 r t
noncomputable def fzM (F : Mem) (H : List O) (μ : Nat → Value) (w : World) (id : Nat) : Mem := open Classical in fun b => if QS H μ id b then w.heap[b]? else F b
variable {K : Keep} {F : Mem} {H : List O} {μ : Nat → Value} {w : World} {e es : Nat}
theorem QdV (hw : HSat K F H μ w) : F.le (fzM F H μ w id) := by
 intro b o h
 simp only [fzM]
 split
 ·rename_i ho
  rw [(hw.sp id b ho).1] at h
  cases h
 ·exact h
theorem QjF (hw : HSat K F H μ w) (hid : getL H id = some (.arr e es n g)) (him : ∀ i, i < n → ∀ j, j < es → (g i j).imm = true) : ∀ (c : C) (v : Value), RepC F H μ c v → RepC (fzM F H μ w id) (fzH id n g H) μ (fzC id n g c) v := by
 have hle := QdV (id := id) hw
 intro c
 induction c with
 | ptr a off =>
  intro v hv
  obtain ⟨⟨cs, h1⟩, b, h2, h3⟩ := hv
  refine ⟨⟨fzL id n g cs, ?_⟩, b, h2, h3⟩
  rw [QbZ, h1]
  have : a ≠ id := fun q => by subst q; rw [hid] at h1; cases h1
  simp [this, fzO]
 | ep a i j t =>
  intro v hv
  simp only [fzC]
  split
  ·exact RepC.one _ _ hv
  ·rename_i hb
   have hne : a ≠ id := fun q => by subst q; simp at hb
   obtain ⟨h0, e', es', m, g', h1, h2, h3⟩ := hv
   exact ⟨h0, e', es', m, fun i j => fzC id n g (g' i j), by rw [QbZ, h1]; simp only [Qyd, Qxu hne, fzO], h2, h3⟩
 | sl a es' l t x =>
  intro v hv
  simp only [fzC]
  split
  ·rename_i hb
   have : a = id := QxD hb
   subst this
   split
   ·rename_i ht
    have : t = n := QxD ht
    subst this
    obtain ⟨h0, e', n', g', h1, h2, h3, h4⟩ := hv
    rw [hid] at h1
    cases h1
    obtain ⟨a', cap, q1, q2, q3⟩ := h4 rfl
    obtain ⟨xs, ⟨r1, r2⟩, r3, r4, r5⟩ := hw.ob a _ hid
    show RepF _ _ _
    rcases r2 with ⟨s1, s2⟩ | ⟨b, cap', cur, s1, _, s3, s4, s5, s6, s7⟩
    ·rw [q1] at s1
     cases s1
     exact ⟨none, 0, q2, om, om, fun _ => by omega, fun _ => rfl, .inl om⟩
    ·rw [q1] at s1
     cases s1
     refine ⟨_, _, q2, om, om, fun q => ?_, fun q => (by cases q), .inr ⟨b, 0, rfl, fun i hi j hj => ?_⟩⟩
     ·simp only [QxA] at q
      have := QxD q.1
      rw [q3 q.2, this]
     ·obtain ⟨y, y1, y2⟩ := r4 i om j hj
      have hlt : i * es + j < t * es := Nat.lt_of_lt_of_le (show i * es + j < (i + 1) * es by rw [Qyh]; omega) (QxF es om)
      refine ⟨y, ?_, RepF.mono hle _ _ (Qcn (him i om j hj) y2)⟩
      simp only [Mem.cell, fzM]
      rw [Qxt (show QS H μ a b from ⟨⟨_, hid, by simp⟩, by rw [q1]; rfl⟩), s3]
      simp only [QxX]
      rw [← s7] at y1
      rw [Qyb (by simpa using hlt)] at y1
      simpa using y1
   ·exact RepC.one _ _ hv
  ·rename_i hb
   have hne : a ≠ id := fun q => by subst q; simp at hb
   obtain ⟨h0, e', m, g', h1, h2, h3, h4⟩ := hv
   exact ⟨h0, e', m, fun i j => fzC id n g (g' i j), by rw [QbZ, h1]; simp only [Qyd, Qxu hne, fzO], h2, h3, h4⟩
 | fn f m get ih =>
  intro v hv
  obtain ⟨cs, h1, h2, h3⟩ := hv
  refine ⟨cs, h1, h2, fun j hj => ?_⟩
  obtain ⟨x, x1, x2⟩ := h3 j hj
  exact ⟨x, x1, ih j x x2⟩
 | mpr a =>
  intro v hv
  obtain ⟨⟨sh, z, va, ks, val, h1⟩, b, h2, h3⟩ := hv
  refine ⟨⟨sh, z, va, ks, val, ?_⟩, b, h2, h3⟩
  rw [QbZ, h1]
  have : a ≠ id := fun q => by subst q; rw [hid] at h1; cases h1
  simp [this, fzO]
 | _ => intro v hv; exact RepF.mono hle _ v hv
theorem QmC (hw : HSat K F H μ w) (hid : getL H id = some (.arr e es n g)) (him : ∀ i, i < n → ∀ j, j < es → (g i j).imm = true) {xs : List C} {cs : Array Value} (h : RepL F H μ xs cs) :
  RepL (fzM F H μ w id) (fzH id n g H) μ (fzL id n g xs) cs := by
 refine ⟨by rw [QoO]; exact h.1, fun j x hx => ?_⟩
 rw [QoP] at hx
 cases hy : getL xs j with
 | none => rw [hy] at hx; cases hx
 | some y =>
  rw [hy] at hx
  cases hx
  obtain ⟨v, v1, v2⟩ := h.2 j y hy
  exact ⟨v, v1, QjF hw hid him y v v2⟩
theorem Qfp (hw : HSat K F H μ w) (hid : getL H id = some (.arr e es n g)) (him : ∀ i, i < n → ∀ j, j < es → (g i j).imm = true) : ∀ {s : S} {v : Value}, RepS F H μ s v → RepS (fzM F H μ w id) (fzH id n g H) μ (fzS id n g s) v
 | .u, _, _ => trivial
 | .c x, v, h => QjF hw hid him x v h
 | .a _, _, ⟨cs, h1, h2⟩ => ⟨cs, h1, QmC hw hid him h2⟩
 | .t l, _, ⟨vs, h1, h2, h3⟩ => by
  refine ⟨vs, h1, by rw [Qmn]; exact h2, fun j x hx => ?_⟩
  rw [QlY] at hx
  cases hy : getL l j with
  | none => rw [hy] at hx; cases hx
  | some y =>
   rw [hy] at hx
   cases hx
   obtain ⟨u, u1, u2⟩ := h3 j y hy
   refine ⟨u, u1, ?_⟩
   cases y with
   | inl c => exact QjF hw hid him c u u2
   | inr cs => obtain ⟨k, k1, k2⟩ := u2; exact ⟨k, k1, QmC hw hid him k2⟩
 | .lz _ s, _, h => ⟨fun hg => Qfp hw hid him (s := s) (h.1 hg), h.2⟩
 | .so .., _, _ => trivial
theorem QiS (hw : HSat K F H μ w) (hid : getL H id = some (.arr e es n g)) (him : ∀ i, i < n → ∀ j, j < es → (g i j).imm = true) : HSat K (fzM F H μ w id) (fzH id n g H) μ w := by
 have own : ∀ i b, QS (fzH id n g H) μ i b → i ≠ id ∧ QS H μ i b := by
  intro i b ⟨⟨o, o1, o2⟩, hb⟩
  rw [QbZ] at o1
  cases ho : getL H i with
  | none => rw [ho] at o1; cases o1
  | some p =>
   rw [ho] at o1
   simp only [Qyd, Qxv] at o1
   by_cases hi : i = id
   ·rw [Qxt hi] at o1; exact absurd o1.symm o2
   ·refine ⟨hi, ⟨p, ho, fun q => ?_⟩, hb⟩
    subst q
    rw [Qxu hi] at o1
    exact o2 o1.symm
 refine ⟨hw.os, hw.tape, hw.output, fun b o hb => ?_, hw.kp, fun i o hi => ?_, fun i b hb => ?_, fun i j b hi hj => hw.ij i j b (own i b hi).2 (own j b hj).2, fun b o hb => ?_⟩
 ·simp only [fzM] at hb
  split at hb
  ·exact hb
  ·exact hw.fr b o hb
 ·rw [QbZ] at hi
  cases ho : getL H i with
  | none => rw [ho] at hi; cases hi
  | some p =>
   rw [ho] at hi
   simp only [Qyd, Qxv] at hi
   by_cases hx : i = id
   ·rw [Qxt hx] at hi; subst hi; trivial
   ·rw [Qxu hx] at hi
    subst hi
    have hp := hw.ob i p ho
    cases p with
    | vr cs =>
     obtain ⟨b, c, T, h1, h2, h3⟩ := hp
     exact ⟨b, c, T, h1, h2, QmC hw hid him h3⟩
    | arr e' es' m g' =>
     obtain ⟨xs, h1, h2, h3, h4⟩ := hp
     refine ⟨xs, h1, h2, fun k hk j hj => ?_, h4⟩
     obtain ⟨v, v1, v2⟩ := h3 k hk j hj
     exact ⟨v, v1, QjF hw hid him _ v v2⟩
    | dead => trivial
    | mp sh z va ks val =>
     obtain ⟨b, es', ck, h1, h2, h3⟩ := hp
     exact ⟨b, es', ck, h1, h2, h3.1.mono (QdV hw), h3.2⟩
 ·obtain ⟨h1, h2⟩ := own i b hb
  refine ⟨?_, (hw.sp i b h2).2⟩
  simp only [fzM]
  rw [Qxu (fun q => h1 (hw.ij i id b h2 q))]
  exact (hw.sp i b h2).1
 ·simp only [fzM] at hb
  split at hb
  ·rename_i ho
   exact (hw.sp id b ho).2
  ·exact hw.dj b o hb
theorem Ext.fz {H0 : List O} {μ0 : Nat → Value} (h : Ext H0 μ0 H μ) (hid : H0.length ≤ id) : Ext H0 μ0 (fzH id n g H) μ := by
 refine ⟨fun a cs ha => ?_, fun a e es m g' ha => ?_, fun a sh z va ks val ha => ?_⟩
 ·have := Qt ha
  obtain ⟨⟨cs', h1⟩, h2⟩ := h.1 a cs ha
  exact ⟨⟨fzL id n g cs', by rw [QbZ, h1]; simp only [Qyd, Qxu (show ¬ a = id by omega), fzO]⟩, h2⟩
 ·have := Qt ha
  obtain ⟨n', g'', h1, h2, h3⟩ := h.2.1 a e es m g' ha
  exact ⟨n', fun i j => fzC id n g (g'' i j), by rw [QbZ, h1]; simp only [Qyd, Qxu (show ¬ a = id by omega), fzO], h2, h3⟩
 ·have := Qt ha
  obtain ⟨⟨ks', val', h1⟩, h2⟩ := h.2.2 a sh z va ks val ha
  exact ⟨⟨ks', val', by rw [QbZ, h1]; simp only [Qyd, Qxu (show ¬ a = id by omega), fzO]⟩, h2⟩
end
end Go.Am
end
