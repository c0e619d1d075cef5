import Derived.Test.YtbdhjlanfigdgaaA13
/- THE ABSTRACT MACHINE, PART 14: weakening; loops; calls. -/
namespace Go.Am

/-- What is frozen, or has no memory. -/
def C.imm : C → Bool
  | .ptr .. => false
  | .ep .. => false
  | .sl .. => false
  | .fn _ n _ => Nat.beq n 0
  | _ => true

/-- A cell says as much as another one, whose objects have other numbers. -/
def wkC (ρ : Nat → Nat) (n : Nat) : C → C → Prop
  | .ptr a o, .ptr b o' => a = ρ b ∧ o = o' ∧ b < n
  | .ep a i j t, .ep b i' j' t' => a = ρ b ∧ i = i' ∧ j = j' ∧ t = t' ∧ b < n
  | .sl a es l t x, .sl b es' l' t' x' => a = ρ b ∧ es = es' ∧ l = l' ∧ t = t' ∧ b < n ∧ (x' = true → x = true)
  | .fn f m g, .fn f' m' g' => f = f' ∧ m = m' ∧ ∀ j, j < m → wkC ρ n (g j) (g' j)
  | _, .junk => True
  | c, c' => c.imm = true ∧ ∀ F v, RepF F c v → RepF F c' v

def O.wk (ρ : Nat → Nat) (n : Nat) : O → O → Prop
  | .vr cs, .vr cs' => cs.length = cs'.length ∧ ∀ (j : Nat) x y, getL cs j = some x → getL cs' j = some y → wkC ρ n x y
  | .arr e es m g, .arr e' es' m' g' => e = e' ∧ es = es' ∧ m = m' ∧ ∀ i, i < m → ∀ j, j < es → wkC ρ n (g i j) (g' i j)
  | .dead, .dead => True
  | _, _ => False

def wkE (ρ : Nat → Nat) (n : Nat) : C ⊕ List C → C ⊕ List C → Prop
  | .inl x, .inl y => wkC ρ n x y
  | .inr xs, .inr ys => xs.length = ys.length ∧ ∀ (j : Nat) x y, getL xs j = some x → getL ys j = some y → wkC ρ n x y
  | _, _ => False

def wkS (ρ : Nat → Nat) (n : Nat) : S → S → Prop
  | _, .u => True
  | .c x, .c y => wkC ρ n x y
  | .a xs, .a ys => xs.length = ys.length ∧ ∀ (j : Nat) x y, getL xs j = some x → getL ys j = some y → wkC ρ n x y
  | .t l, .t l' => l.length = l'.length ∧ ∀ (j : Nat) x y, getL l j = some x → getL l' j = some y → wkE ρ n x y
  | .lz g s, .lz g' s' => g = g' ∧ wkS ρ n s s'
  | _, _ => False

/-- The tracked objects, some of them, under other numbers. -/
structure HWk (ρ : Nat → Nat) (H H' : List O) : Prop where
  ob : ∀ i o', getL H' i = some o' → ∃ o, getL H (ρ i) = some o ∧ O.wk ρ H'.length o o'
  inj : ∀ i j, i < H'.length → j < H'.length → ρ i = ρ j → i = j

theorem HWk.kind_vr {ρ : Nat → Nat} {H H' : List O} (h : HWk ρ H H') {b : Nat} (hb : b < H'.length) {cs : List C} (hc : getL H (ρ b) = some (.vr cs)) : ∃ cs', getL H' b = some (.vr cs') := by
  obtain ⟨o, h1, h2⟩ := h.ob b H'[b] (by rw [getL_eq]; simp [hb])
  rw [hc] at h1
  cases h1
  cases ho : H'[b] with
  | vr cs' => exact ⟨cs', by rw [getL_eq]; simp [hb, ho]⟩
  | arr => rw [ho] at h2; exact h2.elim
  | dead => rw [ho] at h2; exact h2.elim

theorem HWk.kind_arr {ρ : Nat → Nat} {H H' : List O} (h : HWk ρ H H') {b : Nat} (hb : b < H'.length) {e es n : Nat} {g : Nat → Nat → C} (hc : getL H (ρ b) = some (.arr e es n g)) : ∃ g', getL H' b = some (.arr e es n g') := by
  obtain ⟨o, h1, h2⟩ := h.ob b H'[b] (by rw [getL_eq]; simp [hb])
  rw [hc] at h1
  cases h1
  cases ho : H'[b] with
  | arr e' es' n' g' =>
    rw [ho] at h2
    obtain ⟨rfl, rfl, rfl, _⟩ := h2
    exact ⟨g', by rw [getL_eq]; simp [hb, ho]⟩
  | vr => rw [ho] at h2; exact h2.elim
  | dead => rw [ho] at h2; exact h2.elim

theorem imm_rep {F : Mem} {H : List O} {μ : Nat → Value} {c : C} (hc : c.imm = true) {v : Value} (h : RepC F H μ c v) : RepF F c v := by
  cases c with
  | ptr => cases hc
  | ep => cases hc
  | sl => cases hc
  | fn f n g =>
    have hn : n = 0 := Nat.eq_of_beq_eq_true hc
    obtain ⟨cs, h1, h2, _⟩ := h
    exact ⟨cs, h1, h2, fun j hj => by omega⟩
  | _ => exact h

theorem wkC_ok {ρ : Nat → Nat} {H H' : List O} (h : HWk ρ H H') {F : Mem} {μ : Nat → Value} : ∀ (c c' : C), wkC ρ H'.length c c' → ∀ v, RepC F H μ c v → RepC F H' (fun i => μ (ρ i)) c' v := by
  have plain : ∀ (c c' : C), (c.imm = true ∧ ∀ F v, RepF F c v → RepF F c' v) → ∀ v, RepC F H μ c v → RepC F H' (fun i => μ (ρ i)) c' v :=
    fun c c' hw v hv => RepF.toC _ _ c' v (hw.2 F v (imm_rep hw.1 hv))
  have junk : ∀ (c : C), ∀ v, RepC F H μ c v → RepC F H' (fun i => μ (ρ i)) .junk v := fun c v hv => RepC.one c v hv
  intro c
  induction c with
  | fn f m g ih =>
    intro c' hw v hv
    cases c' with
    | fn f' m' g' =>
      obtain ⟨rfl, rfl, hg⟩ := hw
      obtain ⟨cs, h1, h2, h3⟩ := hv
      refine ⟨cs, h1, h2, fun j hj => ?_⟩
      obtain ⟨x, x1, x2⟩ := h3 j hj
      exact ⟨x, x1, ih j _ (hg j hj) x x2⟩
    | junk => exact junk _ v hv
    | _ => exact plain _ _ hw v hv
  | ptr a o =>
    intro c' hw v hv
    cases c' with
    | ptr b o' =>
      obtain ⟨rfl, rfl, hb⟩ := hw
      obtain ⟨⟨cs, h1⟩, b', h2, h3⟩ := hv
      exact ⟨h.kind_vr hb h1, b', h2, h3⟩
    | junk => exact junk _ v hv
    | _ => exact plain _ _ hw v hv
  | ep a i j t =>
    intro c' hw v hv
    cases c' with
    | ep b i' j' t' =>
      obtain ⟨rfl, rfl, rfl, rfl, hb⟩ := hw
      obtain ⟨h0, e, es, n, g, h1, h2, h3⟩ := hv
      obtain ⟨g', hg'⟩ := h.kind_arr hb h1
      exact ⟨h0, e, es, n, g', hg', h2, h3⟩
    | junk => exact junk _ v hv
    | _ => exact plain _ _ hw v hv
  | sl a es l t xq =>
    intro c' hw v hv
    cases c' with
    | sl b es' l' t' xq' =>
      obtain ⟨rfl, rfl, rfl, rfl, hb, hx⟩ := hw
      obtain ⟨h0, e, n, g, h1, h2, h3, h4⟩ := hv
      obtain ⟨g', hg'⟩ := h.kind_arr hb h1
      exact ⟨h0, e, n, g', hg', h2, h3, fun q => let ⟨a, cap, q1, q2, q3⟩ := h4 q; ⟨a, cap, q1, q2, fun e => q3 (hx e)⟩⟩
    | junk => exact junk _ v hv
    | _ => exact plain _ _ hw v hv
  | _ =>
    intro c' hw v hv
    cases c' with
    | junk => exact junk _ v hv
    | _ => exact plain _ _ hw v hv

theorem wkL_ok {ρ : Nat → Nat} {H H' : List O} (h : HWk ρ H H') {F : Mem} {μ : Nat → Value} {xs ys : List C} (hl : xs.length = ys.length)
    (hw : ∀ (j : Nat) x y, getL xs j = some x → getL ys j = some y → wkC ρ H'.length x y) {cs : Array Value} (hx : RepL F H μ xs cs) : RepL F H' (fun i => μ (ρ i)) ys cs := by
  refine ⟨hx.1.trans hl, fun j y hy => ?_⟩
  have hj := getL_lt hy
  have hgx : getL xs j = some (xs[j]'(by omega)) := by rw [getL_eq]; simp
  obtain ⟨v, v1, v2⟩ := hx.2 j _ hgx
  exact ⟨v, v1, wkC_ok h _ _ (hw j _ y hgx hy) v v2⟩

theorem wkE_ok {ρ : Nat → Nat} {H H' : List O} (h : HWk ρ H H') {F : Mem} {μ : Nat → Value} : ∀ (x y : C ⊕ List C), wkE ρ H'.length x y → ∀ v, RepE F H μ x v → RepE F H' (fun i => μ (ρ i)) y v
  | .inl _, .inl _, hw, v, hv => wkC_ok h _ _ hw v hv
  | .inr _, .inr _, ⟨h1, h2⟩, _, ⟨cs, c1, c2⟩ => ⟨cs, c1, wkL_ok h h1 h2 c2⟩
  | .inl _, .inr _, hw, _, _ => hw.elim
  | .inr _, .inl _, hw, _, _ => hw.elim

theorem wkS_ok {ρ : Nat → Nat} {H H' : List O} (h : HWk ρ H H') {F : Mem} {μ : Nat → Value} : ∀ (s s' : S), wkS ρ H'.length s s' → ∀ v, RepS F H μ s v → RepS F H' (fun i => μ (ρ i)) s' v := by
  intro s
  induction s with
  | u => intro s' hw v _; cases s' <;> first | trivial | exact hw.elim
  | c x => intro s' hw v hv; cases s' <;> first | trivial | exact wkC_ok h _ _ hw v hv | exact hw.elim
  | a xs =>
    intro s' hw v hv
    cases s' with
    | u => trivial
    | a ys => obtain ⟨cs, c1, c2⟩ := hv; exact ⟨cs, c1, wkL_ok h hw.1 hw.2 c2⟩
    | _ => exact hw.elim
  | t l =>
    intro s' hw v hv
    cases s' with
    | u => trivial
    | t l' =>
      obtain ⟨vs, c1, c2, c3⟩ := hv
      refine ⟨vs, c1, c2.trans hw.1, fun j y hy => ?_⟩
      have hj := getL_lt hy
      have hl := hw.1
      have hgx : getL l j = some (l[j]'(by omega)) := by rw [getL_eq]; simp
      obtain ⟨v, v1, v2⟩ := c3 j _ hgx
      exact ⟨v, v1, wkE_ok h _ _ (hw.2 j _ y hgx hy) v v2⟩
    | _ => exact hw.elim
  | lz g s ih =>
    intro s' hw v hv
    cases s' with
    | u => trivial
    | lz g' s'' =>
      obtain ⟨rfl, h2⟩ := hw
      exact ⟨fun hg => ih s'' h2 v (hv.1 hg), hv.2⟩
    | _ => exact hw.elim

theorem HSat.wk {ρ : Nat → Nat} {K : Keep} {F : Mem} {H H' : List O} {μ : Nat → Value} {w : World} (hw : HSat K F H μ w) (h : HWk ρ H H') : HSat K F H' (fun i => μ (ρ i)) w := by
  have own : ∀ i b, owned H' (fun i => μ (ρ i)) i b → i < H'.length ∧ owned H μ (ρ i) b := by
    intro i b ⟨⟨o, o1, o2⟩, hb⟩
    obtain ⟨p, p1, p2⟩ := h.ob i o o1
    refine ⟨getL_lt o1, ⟨p, p1, fun e => ?_⟩, hb⟩
    subst e
    cases o with
    | dead => exact o2 rfl
    | vr => exact p2.elim
    | arr => exact p2.elim
  refine ⟨hw.os, hw.tape, hw.output, hw.fr, hw.kp, fun i o hi => ?_, fun i b hb => hw.sp _ b (own i b hb).2, fun i j b hi hj => ?_, hw.dj⟩
  · obtain ⟨p, p1, p2⟩ := h.ob i o hi
    have hp := hw.ob _ p p1
    cases o with
    | vr cs' =>
      cases p with
      | vr cs =>
        obtain ⟨b, c, T, q1, q2, q3⟩ := hp
        exact ⟨b, c, T, q1, q2, wkL_ok h p2.1 p2.2 q3⟩
      | _ => exact p2.elim
    | arr e es n g =>
      cases p with
      | arr e' es' n' g' =>
        obtain ⟨rfl, rfl, rfl, hg⟩ := p2
        obtain ⟨xs, q1, q2, q3⟩ := hp
        refine ⟨xs, q1, q2, fun k hk j hj => ?_⟩
        obtain ⟨v, v1, v2⟩ := q3 k hk j hj
        exact ⟨v, v1, wkC_ok h _ _ (hg k hk j hj) v v2⟩
      | _ => exact p2.elim
    | dead => trivial
  · obtain ⟨h1, h2⟩ := own i b hi
    obtain ⟨h3, h4⟩ := own j b hj
    exact h.inj i j h1 h3 (hw.ij _ _ b h2 h4)

/-- Slots, some of them, under other numbers. -/
def wkT (ρ : Nat → Nat) (n : Nat) (ts : Ts) : Ts → Prop
  | [] => True
  | (t, s) :: r => wkS ρ n (find t ts) s ∧ wkT ρ n ts r

theorem wkT_find {ρ : Nat → Nat} {n : Nat} {ts : Ts} (t : Nat) : ∀ {ts' : Ts}, wkT ρ n ts ts' → wkS ρ n (find t ts) (find t ts')
  | [], _ => by simp only [find]; cases find t ts <;> trivial
  | (u, s) :: r, h => by
    simp only [find]
    cases hb : Nat.beq u t with
    | true =>
      have : u = t := Nat.eq_of_beq_eq_true hb
      subst this
      exact h.1
    | false => exact wkT_find t h.2

theorem TSat.wk {ρ : Nat → Nat} {F : Mem} {H H' : List O} {μ : Nat → Value} (h : HWk ρ H H') {ts ts' : Ts} {tmps : Array Value} (hw : wkT ρ H'.length ts ts') (ht : TSat F H μ ts tmps) : TSat F H' (fun i => μ (ρ i)) ts' tmps :=
  fun t => wkS_ok h _ _ (wkT_find t hw) _ (ht t)

/-- From one state of slots and objects to one that says less: the objects' numbers stay, the last ones may fall away. -/
structure Wk (n0 : Nat) (ts : Ts) (H : List O) (ts' : Ts) (H' : List O) : Prop where
  h : HWk (fun i => i) H H'
  t : wkT (fun i => i) H'.length ts ts'
  n : n0 ≤ H'.length

theorem Ext.wk {H0 H H' : List O} {μ0 μ : Nat → Value} (h : Ext H0 μ0 H μ) (k : HWk (fun i => i) H H') (hn : H0.length ≤ H'.length) : Ext H0 μ0 H' μ := by
  refine ⟨fun id cs hc => ?_, fun id e es n g hc => ?_⟩
  · have := getL_lt hc
    obtain ⟨⟨cs', h1⟩, h2⟩ := h.1 id cs hc
    exact ⟨k.kind_vr (b := id) (by omega) h1, h2⟩
  · have := getL_lt hc
    obtain ⟨n', g', h1, h2, h3⟩ := h.2 id e es n g hc
    obtain ⟨g'', h4⟩ := k.kind_arr (b := id) (by omega) h1
    exact ⟨n', g'', h4, h2, h3⟩

theorem Sat.wk {X : Cx} {K : Keep} {F0 : Mem} {H0 : List O} {μ0 : Nat → Value} {ts ts' : Ts} {H H' : List O} {F : Mem} {μ : Nat → Value} {a : Act} {w : World} (h : Sat X K F0 H0 μ0 ts H F μ a w) (hw : Wk X.n0 ts H ts' H') :
    Sat X K F0 H0 μ0 ts' H' F μ a w :=
  ⟨h.le, h.ext.wk hw.h (Nat.le_trans h.n0 hw.n), h.hs.wk hw.h, h.tp.wk hw.h hw.t, h.sz, h.df, h.n0⟩

theorem exists_least {p : Nat → Prop} (h : ∃ n, p n) : ∃ n, p n ∧ ∀ m, p m → n ≤ m := by
  obtain ⟨n, hn⟩ := h
  induction n using Nat.strongRecOn with
  | _ n ih =>
    by_cases c : ∃ m, m < n ∧ p m
    · obtain ⟨m, h1, h2⟩ := c
      exact ih m h1 h2
    · exact ⟨n, hn, fun m hm => by
        rcases Nat.lt_or_ge m n with h | h
        · exact absurd ⟨m, h, hm⟩ c
        · exact h⟩

/-- From slots and objects to others that say less. -/
def Mv (X : Cx) (ts : Ts) (H : List O) (ts' : Ts) (H' : List O) : Prop :=
  ∀ K F0 H0 μ0 F μ a w, Sat X K F0 H0 μ0 ts H F μ a w → ∃ F' μ', Sat X K F0 H0 μ0 ts' H' F' μ' a w

theorem Mv.wk {X : Cx} {ts ts' : Ts} {H H' : List O} (h : Wk X.n0 ts H ts' H') : Mv X ts H ts' H' := fun _ _ _ _ F μ _ _ hs => ⟨F, μ, hs.wk h⟩
theorem Mv.trans {X : Cx} {ts ts' ts'' : Ts} {H H' H'' : List O} (h : Mv X ts H ts' H') (k : Mv X ts' H' ts'' H'') : Mv X ts H ts'' H'' := by
  intro K F0 H0 μ0 F μ a w hs
  obtain ⟨F', μ', hs'⟩ := h K F0 H0 μ0 F μ a w hs
  exact k K F0 H0 μ0 F' μ' a w hs'

/-- A loop, by an invariant and a measure. -/
theorem Lp.mk {X : Cx} (hΓ : EnvOk X.P X.Γ) {c : Code} {ts : Ts} {H : List O} {k : Kp} {ι : Type} (st : ι → Ts) (Hs : ι → List O) (ok : ι → Prop) (m : ι → Nat) (i0 : ι) (h0 : ok i0) (hw : Mv X ts H (st i0) (Hs i0))
    (round : ∀ i, ok i → vc X c (st i) (Hs i) fun e ts' H' => match e with
      | .normal => ∃ j, ok j ∧ m j < m i ∧ Mv X ts' H' (st j) (Hs j)
      | .exit id => k (.exit id) ts' H'
      | .ret => k .ret ts' H') : Lp X c ts H k := by
  refine ⟨?_⟩
  intro K F0 H0 μ0 F μ a w hs
  let I : Nat → Act → World → Prop := fun n a w => ∃ i F μ, m i = n ∧ ok i ∧ Sat X K F0 H0 μ0 (st i) (Hs i) F μ a w
  have step : ∀ n a w, I n a w → c.wp X.P (Exit.then (fun a' w' => ∃ n', n' < n ∧ I n' a' w') (Post X K F0 H0 μ0 k)) a w := by
    rintro n a w ⟨i, F, μ, rfl, hi, hs⟩
    refine wp_mono (vc_sound hΓ c (round i hi) K F0 H0 μ0 F μ a w hs) ?_
    rintro e a' w' ⟨ts', H', F', μ', hs', he⟩
    cases e with
    | normal =>
      obtain ⟨j, j1, j2, j3⟩ := he
      obtain ⟨F'', μ'', hs''⟩ := j3 _ _ _ _ _ _ _ _ hs'
      exact ⟨m j, j2, j, F'', μ'', rfl, j1, hs''⟩
    | exit id => exact ⟨ts', H', F', μ', hs', he⟩
    | ret => exact ⟨ts', H', F', μ', hs', he⟩
    | goto l => exact he.elim
    | panic ch => exact he.elim
    | outgrown => exact he.elim
  classical
  let least : Act → World → Nat := fun a w => if h : ∃ n, I n a w then (exists_least h).choose else 0
  obtain ⟨F1, μ1, hs1⟩ := hw _ _ _ _ _ _ _ _ hs
  refine wp_loop (fun a w => ∃ n, I n a w) least ⟨m i0, i0, F1, μ1, rfl, h0, hs1⟩ ?_
  intro a w hI
  have hl : least a w = (exists_least hI).choose := by simp only [least]; rw [dif_pos hI]
  refine wp_mono (step (least a w) a w (by rw [hl]; exact (exists_least hI).choose_spec.1)) ?_
  intro e a' w' he
  cases e with
  | normal =>
    obtain ⟨n', n1, n2⟩ := he
    have hI' : ∃ n, I n a' w' := ⟨n', n2⟩
    refine ⟨hI', ?_⟩
    have hl' : least a' w' = (exists_least hI').choose := by simp only [least]; rw [dif_pos hI']
    rw [hl']
    exact Nat.lt_of_le_of_lt ((exists_least hI').choose_spec.2 n' n2) n1
  | _ => exact he

/-- 'nil' taken for an array of the call's own, without elements: for a loop that appends. -/
theorem Lp.reserve {X : Cx} {c : Code} {ts : Ts} {H : List O} {k : Kp} (e es : Nat) (g : Nat → Nat → C) (t : Nat) (ht : find t ts = .c .nils)
    (h : Lp X c ((t, .c (.sl H.length es 0 0 false)) :: ts) (H ++ [.arr e es 0 g]) k) : Lp X c ts H k := by
  replace h := h.out
  refine ⟨?_⟩
  intro K F0 H0 μ0 F μ a w hs
  have hE := Ext.push H μ (.arr e es 0 g) (.slice none 0 0)
  have hw : HSat K F (H ++ [.arr e es 0 g]) (upd μ H.length (.slice none 0 0)) w := hs.hs.push _ _ ⟨rfl, rfl, rfl, Nat.le_refl _, fun _ _ _ => rfl⟩ (fun b hb => by cases hb) (by
    refine ⟨[], ?_, Nat.zero_le _, fun i hi => by omega⟩
    simp only [upd, if_true]
    exact World.ownsRow_nil w 0 e es)
  refine h K F0 H0 μ0 F _ a w ⟨hs.le, hs.ext.trans hE, hw, ?_, hs.sz, hs.df, hs.n0⟩
  intro u
  simp only [find]
  cases hb : Nat.beq t u with
  | true =>
    have : t = u := Nat.eq_of_beq_eq_true hb
    subst this
    have hv := hs.tp t
    rw [ht] at hv
    have hv' : a.tmps.getD t undef = .slice none 0 0 := hv
    rw [hv']
    exact ⟨rfl, e, 0, g, getL_append_eq _ _, Nat.le_refl _, Nat.le_refl _, fun _ => ⟨none, 0, by simp [upd], rfl, fun e => by cases e⟩⟩
  | false => exact RepS.mono (Mem.le_refl F) hE _ _ (hs.tp u)

/-- The slots of a call's arguments. -/
def params : Nat → List S → Ts
  | _, [] => []
  | i, s :: r => (i, s) :: params (i + 1) r

theorem params_find : ∀ (l : List S) (i t : Nat), find t (params i l) = .u ∨ ∃ j s, t = i + j ∧ getL l j = some s ∧ find t (params i l) = s
  | [], _, _ => .inl rfl
  | s :: r, i, t => by
    simp only [params, find]
    cases hb : Nat.beq i t with
    | true =>
      have : i = t := Nat.eq_of_beq_eq_true hb
      subst this
      exact .inr ⟨0, s, rfl, rfl, rfl⟩
    | false =>
      rcases params_find r (i + 1) t with h | ⟨j, s', h1, h2, h3⟩
      · exact .inl h
      · exact .inr ⟨j + 1, s', by omega, h2, h3⟩

/-- A result. -/
def resV (Γ : Env) (ts : Ts) (H : List O) : ResultVar → Option (List Prop × S)
  | .tmp t => some (bare (find t ts))
  | .cell a t => match Γ.at t with
    | some i => match find a ts with
      | .c p => loadK i H p
      | _ => none
    | none => none

def resE : S → Option (C ⊕ List C)
  | .c x => some (.inl x)
  | .a xs => some (.inr xs)
  | _ => none

def resL (Γ : Env) (ts : Ts) (H : List O) : List ResultVar → Option (List Prop × List (C ⊕ List C))
  | [] => some ([], [])
  | r :: rs => match resV Γ ts H r with
    | some (p, s) => match resE s with
      | some x => match resL Γ ts H rs with
        | some (q, l) => some (p ++ q, x :: l)
        | none => none
      | none => none
    | none => none

def resK (Γ : Env) (rs : List ResultVar) (ts : Ts) (H : List O) (Q : S → List O → Prop) : Prop :=
  match rs with
  | [r] => match resV Γ ts H r with
    | some (p, s) => needs p (forceS s fun s' => Q s' H)
    | none => StuckC .ret ts H
  | rs => match resL Γ ts H rs with
    | some (p, l) => needs p (Q (.t l) H)
    | none => StuckC .ret ts H

def retK (Γ : Env) (rs : List ResultVar) (Q : S → List O → Prop) : Kp := fun e ts H => match e with
  | .exit _ => False
  | _ => resK Γ rs ts H Q

def resM (tmps : Array Value) : ResultVar → Sem Value
  | .tmp t => pure (tmps.getD t undef)
  | .cell a t => do loadVar t (← asAddr (tmps.getD a undef))

theorem resV_ok {P : Program} {Γ : Env} (hΓ : EnvOk P Γ) {K : Keep} {F : Mem} {H : List O} {μ : Nat → Value} {w : World} (hw : HSat K F H μ w) {ts : Ts} {tmps : Array Value} (hT : TSat F H μ ts tmps) {r : ResultVar} {p : List Prop} {s : S}
    (h : resV Γ ts H r = some (p, s)) (hp : ∀ q ∈ p, q) : ∃ v, (resM tmps r).run P w = .ok v w ∧ RepS F H μ s v := by
  cases r with
  | tmp t =>
    simp only [resV, Option.some.injEq] at h
    exact ⟨_, rfl, bare_ok (hT t) h hp⟩
  | cell a t =>
    simp only [resV] at h
    split at h
    · rename_i i hi
      split at h
      · rename_i c hc
        have hv := hT a
        rw [hc] at hv
        obtain ⟨v, v1, v2⟩ := loadK_ok (P := P) (hΓ t i hi) hw hv h hp
        refine ⟨v, ?_, v2⟩
        have hptr : ∃ b, tmps.getD a undef = .pointer (some b) := by
          cases c with
          | ptr id off => obtain ⟨_, b, _, h3⟩ := hv; exact ⟨_, h3⟩
          | ip n g => obtain ⟨b, off, h3, _⟩ := hv; exact ⟨_, h3⟩
          | ep id k j tot =>
            obtain ⟨_, e, es, n, g, h1, h2, h3⟩ := hv
            simp only [loadK, h1] at h
            split at h
            · rename_i s' hm
              simp only [Option.some.injEq, Prod.mk.injEq] at h
              obtain ⟨rfl, _⟩ := h
              obtain ⟨b, cap, _, _, h4⟩ := h3 (hp _ (by simp))
              exact ⟨_, h4⟩
            · cases h
          | _ => simp [loadK] at h
        obtain ⟨b, hb⟩ := hptr
        rw [hb] at v1
        simp only [resM, hb]
        simpa [Instr.loadAt, Instr.sureAddr, asAddr] using v1
      · cases h
    · cases h

theorem results_eq (fn : Func) (tmps : Array Value) : results fn tmps = (do let vs ← fn.results.mapM (resM tmps); pure (if h : vs.size = 1 then vs[0] else .tuple vs)) := by
  unfold results
  have : (fun r : ResultVar => match r with
    | .tmp t => (pure (tmps.getD t undef) : Sem Value)
    | .cell a t => do loadVar t (← asAddr (tmps.getD a undef))) = resM tmps := by
    funext r; cases r <;> rfl
  rw [← this]
  rfl

theorem resL_ok {P : Program} {Γ : Env} (hΓ : EnvOk P Γ) {K : Keep} {F : Mem} {H : List O} {μ : Nat → Value} {w : World} (hw : HSat K F H μ w) {ts : Ts} {tmps : Array Value} (hT : TSat F H μ ts tmps) :
    ∀ (rs : List ResultVar) (p : List Prop) (l : List (C ⊕ List C)), resL Γ ts H rs = some (p, l) → (∀ q ∈ p, q) →
      ∃ vs : List Value, (rs.mapM (resM tmps)).run P w = .ok vs w ∧ vs.length = l.length ∧ rs.length = l.length ∧ ∀ (j : Nat) x, getL l j = some x → ∃ u, vs[j]? = some u ∧ RepE F H μ x u
  | [], p, l, h, _ => by
    simp only [resL, Option.some.injEq, Prod.mk.injEq] at h
    obtain ⟨_, rfl⟩ := h
    exact ⟨[], rfl, rfl, rfl, by simp [getL]⟩
  | r :: rs, p, l, h, hp => by
    simp only [resL] at h
    split at h
    · rename_i p1 s h1
      split at h
      · rename_i x hx
        split at h
        · rename_i q l' h2
          simp only [Option.some.injEq, Prod.mk.injEq] at h
          obtain ⟨rfl, rfl⟩ := h
          obtain ⟨v, v1, v2⟩ := resV_ok (P := P) hΓ hw hT h1 (all_left hp)
          obtain ⟨vs, w1, w2, w3, w4⟩ := resL_ok hΓ hw hT rs q l' h2 (all_right hp)
          refine ⟨v :: vs, ?_, by simp [w2], by simp [w3], fun j y hy => ?_⟩
          · rw [List.mapM_cons, bind_ok v1, bind_ok w1]; rfl
          · cases j with
            | zero =>
              simp [getL] at hy
              subst hy
              refine ⟨v, by simp, ?_⟩
              cases s with
              | c c => simp only [resE, Option.some.injEq] at hx; subst hx; exact v2
              | a xs => simp only [resE, Option.some.injEq] at hx; subst hx; exact v2
              | _ => simp [resE] at hx
            | succ j => simp only [getL] at hy; simpa using w4 j y hy
        · cases h
      · cases h
    · cases h

theorem resK_ok {P : Program} {Γ : Env} (hΓ : EnvOk P Γ) {K : Keep} {F : Mem} {H : List O} {μ : Nat → Value} {w : World} (hw : HSat K F H μ w) {ts : Ts} {tmps : Array Value} (hT : TSat F H μ ts tmps) {fn : Func} {Q : S → List O → Prop}
    (h : resK Γ fn.results.toList ts H Q) : ∃ v s, (results fn tmps).run P w = .ok v w ∧ RepS F H μ s v ∧ Q s H := by
  rw [results_eq]
  unfold resK at h
  split at h
  · rename_i r hr
    split at h
    · rename_i p s hs
      obtain ⟨h1, h2⟩ := needs_out h
      rw [forceS_eq] at h2
      obtain ⟨v, v1, v2⟩ := resV_ok (P := P) hΓ hw hT hs h1
      refine ⟨v, s, ?_, v2, h2⟩
      have hres : fn.results = #[r] := by apply Array.toList_inj.1; simpa using hr
      rw [hres]
      have : ((#[r] : Array ResultVar).mapM (resM tmps)).run P w = .ok #[v] w := by
        rw [Array.mapM_eq_mapM_toList]
        simp [v1]
      rw [bind_ok this]
      rfl
    · exact (stuckC_out h).elim
  · rename_i hne
    split at h
    · rename_i p l hl
      obtain ⟨h1, h2⟩ := needs_out h
      obtain ⟨vs, w1, w2, w3, w4⟩ := resL_ok (P := P) hΓ hw hT _ p l hl h1
      refine ⟨.tuple vs.toArray, .t l, ?_, ⟨vs.toArray, rfl, by simpa using w2, fun j x hx => by simpa using w4 j x hx⟩, h2⟩
      have : (fn.results.mapM (resM tmps)).run P w = .ok vs.toArray w := by
        rw [Array.mapM_eq_mapM_toList]
        simp [w1]
      rw [bind_ok this]
      have hsz : ¬ vs.toArray.size = 1 := by
        intro e
        have : fn.results.toList.length = 1 := by rw [w3, ← w2]; simpa using e
        match hq : fn.results.toList, this with
        | [r], _ => exact hne r hq
      rw [dif_neg hsz]
      rfl
    · exact (stuckC_out h).elim

def paramsK : Nat → List S → (Ts → Prop) → Prop
  | _, [], k => k []
  | i, s :: r, k => paramsK (i + 1) r fun ts => k ((i, s) :: ts)

theorem paramsK_eq : ∀ (l : List S) (i : Nat) (k : Ts → Prop), paramsK i l k = k (params i l)
  | [], _, _ => rfl
  | s :: r, i, k => by simp only [paramsK, params, paramsK_eq r]

/-- A function by its text. -/
theorem CSpec.of_vc {P : Program} {Γ : Env} (hΓ : EnvOk P Γ) {f : FuncId} {fn : Func} {c : Code} (hf : P.funcs[f]? = some fn) (hb : fn.body = some c) {args : List S} {H : List O} {Q : S → List O → Prop} (nt n0 : Nat) (rs : List ResultVar)
    (hnt : fn.ntmps = nt) (hn0 : H.length = n0) (hrs : fn.results.toList = rs) (hn : Nat.ble args.length nt = true) (h : paramsK 0 args fun ts => vc ⟨P, Γ, nt, n0⟩ c ts H (retK Γ rs Q)) : CSpec P f args H Q := by
  subst hnt
  subst hn0
  subst hrs
  rw [paramsK_eq] at h
  have hn := Nat.le_of_ble_eq_true hn
  intro K F μ w vs hw hA
  refine calls_of_wp hf hb ?_
  have hsz : (vs ++ Array.replicate (fn.ntmps - vs.size) undef).size = fn.ntmps := by
    rw [Array.size_append, Array.size_replicate, hA.1]; omega
  have hT : TSat F H μ (params 0 args) (vs ++ Array.replicate (fn.ntmps - vs.size) undef) := by
    intro t
    rcases params_find args 0 t with e | ⟨j, s, rfl, e1, e2⟩
    · rw [e]; trivial
    · rw [e2]
      obtain ⟨v, v1, v2⟩ := hA.2 j s e1
      have hlt : j < vs.size := (Array.getElem?_eq_some_iff.1 v1).1
      rw [Nat.zero_add, Array.getD_eq_getD_getElem?, Array.getElem?_append_left hlt, v1]
      exact v2
  have hs : Sat ⟨P, Γ, fn.ntmps, H.length⟩ K F H μ (params 0 args) H F μ ⟨vs ++ Array.replicate (fn.ntmps - vs.size) undef, []⟩ w :=
    ⟨Mem.le_refl F, Ext.refl H μ, hw, hT, hsz, rfl, Nat.le_refl _⟩
  refine wp_mono (vc_sound (X := ⟨P, Γ, fn.ntmps, H.length⟩) hΓ c h K F H μ F μ _ w hs) ?_
  rintro e a' w' ⟨ts', H', F', μ', hs', he⟩
  have fin : resK Γ fn.results.toList ts' H' Q → a'.defers = [] ∧ ∃ v, (results fn a'.tmps).run P w' = .ok v w' ∧ (fun e w' => ∃ v F' μ' s H', e = Ending.returned v ∧ F.le F' ∧ HSat K F' H' μ' w' ∧ Ext H μ H' μ' ∧ RepS F' H' μ' s v ∧ Q s H') (.returned v) w' := by
    intro hr
    obtain ⟨v, s, r1, r2, r3⟩ := resK_ok (P := P) hΓ hs'.hs hs'.tp hr
    exact ⟨hs'.df, v, r1, v, F', μ', s, H', rfl, hs'.le, hs'.hs, hs'.ext, r2, r3⟩
  cases e with
  | normal => exact fin he
  | ret => exact fin he
  | exit id => exact he.elim
  | goto l => exact he.elim
  | panic ch => exact he.elim
  | outgrown => exact he.elim

end Go.Am
