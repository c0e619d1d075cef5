/- Part of the proofs of laws of this seat: contracts and plain lemmas; no condition is added to a statement. -/
import Derived.Test.YtmpoogflpmaijaaGreatAmB
set_option linter.unusedSimpArgs false
set_option linter.unusedVariables false
section
/- THE ABSTRACT MACHINE, PART 14: weakening; loops; calls. -/
namespace Go.Am

/-- A cell says as much as another one, whose objects have other numbers. -/
def wkC (ρ : Nat → Nat) (n : Nat) : C → C → Prop
  | .ptr a o, .ptr b o' => a = ρ b ∧ o = o' ∧ b < n
  | .ep a i j t, .ep b i' j' t' => a = ρ b ∧ i = i' ∧ j = j' ∧ t = t' ∧ b < n
  | .sl a es l t x, .sl b es' l' t' x' => a = ρ b ∧ es = es' ∧ l = l' ∧ t = t' ∧ b < n ∧ (x' = true → x = true)
  | .fn f m g, .fn f' m' g' => f = f' ∧ m = m' ∧ ∀ j, j < m → wkC ρ n (g j) (g' j)
  | .mpr a, .mpr b => a = ρ b ∧ b < n
  | _, .junk => True
  | c, c' => c.imm = true ∧ ∀ F v, RepF F c v → RepF F c' v

theorem RepV.wk {F : Mem} {va : Bool} {m : Nat} {cs cs' : Nat → C} {v : Value} (h : RepV F va m cs v) (hv : ∀ j, j < m → ∀ F v, RepF F (cs j) v → RepF F (cs' j) v) : RepV F va m cs' v :=
  ⟨h.1, h.2.1, h.2.2.1, fun j hj => let ⟨x, h1, h2⟩ := h.2.2.2 j hj; ⟨x, h1, hv j hj F x h2⟩⟩
theorem MRep.wk {F : Mem} {sh : KS} {z : List Z} {va : Bool} {ks : List Key} {val val' : Key → Nat → C} {es : List MapEntry} (h : MRep F sh z va ks val es) (hv : ∀ k j, k.sh = sh → j < z.length → ∀ F v, RepF F (val k j) v → RepF F (val' k j) v) : MRep F sh z va ks val' es :=
  ⟨h.nd, h.shp, h.keys, fun i e k h1 h2 => (h.vals i e k h1 h2).wk fun j hj => hv k j (h.shp k (List.mem_of_getElem? h2)) hj, fun k hs hk j hj => let ⟨x, h1, h2⟩ := h.none k hs hk j hj; ⟨x, h1, hv k j hs hj F x.toV h2⟩⟩

def O.wk (ρ : Nat → Nat) (n : Nat) : O → O → Prop
  | .vr cs, .vr cs' => cs.length = cs'.length ∧ ∀ (j : Nat) x y, getL cs j = some x → getL cs' j = some y → wkC ρ n x y
  | .arr e es m g, .arr e' es' m' g' => e = e' ∧ es = es' ∧ m = m' ∧ ∀ i, i < m → ∀ j, j < es → wkC ρ n (g i j) (g' i j)
  | .dead, .dead => True
  | .mp sh z va ks val, .mp sh' z' va' ks' val' => sh = sh' ∧ z = z' ∧ va = va' ∧ ks = ks' ∧ ∀ k j, k.sh = sh → j < z.length → ∀ F v, RepF F (val k j) v → RepF F (val' k j) v
  | _, _ => False

def wkE (ρ : Nat → Nat) (n : Nat) : C ⊕ List C → C ⊕ List C → Prop
  | .inl x, .inl y => wkC ρ n x y
  | .inr xs, .inr ys => xs.length = ys.length ∧ ∀ (j : Nat) x y, getL xs j = some x → getL ys j = some y → wkC ρ n x y
  | _, _ => False

def wkS (ρ : Nat → Nat) (n : Nat) : S → S → Prop
  | _, .u => True
  | .c x, .c y => wkC ρ n x y
  | .a xs, .a ys => xs.length = ys.length ∧ ∀ (j : Nat) x y, getL xs j = some x → getL ys j = some y → wkC ρ n x y
  | .t l, .t l' => l.length = l'.length ∧ ∀ (j : Nat) x y, getL l j = some x → getL l' j = some y → wkE ρ n x y
  | .lz g s, .lz g' s' => g = g' ∧ wkS ρ n s s'
  | _, _ => False

/-- The tracked objects, some of them, under other numbers. -/
structure HWk (ρ : Nat → Nat) (H H' : List O) : Prop where
  ob : ∀ i o', getL H' i = some o' → ∃ o, getL H (ρ i) = some o ∧ O.wk ρ H'.length o o'
  inj : ∀ i j, i < H'.length → j < H'.length → ρ i = ρ j → i = j

theorem HWk.kind_vr {ρ : Nat → Nat} {H H' : List O} (h : HWk ρ H H') {b : Nat} (hb : b < H'.length) {cs : List C} (hc : getL H (ρ b) = some (.vr cs)) : ∃ cs', getL H' b = some (.vr cs') := by
  obtain ⟨o, h1, h2⟩ := h.ob b H'[b] (by rw [getL_eq]; simp [hb])
  rw [hc] at h1
  cases h1
  cases ho : H'[b] with
  | vr cs' => exact ⟨cs', by rw [getL_eq]; simp [hb, ho]⟩
  | _ => rw [ho] at h2; exact h2.elim

theorem HWk.kind_mp {ρ : Nat → Nat} {H H' : List O} (h : HWk ρ H H') {b : Nat} (hb : b < H'.length) {sh : KS} {z : List Z} {va : Bool} {ks : List Key} {val : Key → Nat → C} (hc : getL H (ρ b) = some (.mp sh z va ks val)) : ∃ ks' val', getL H' b = some (.mp sh z va ks' val') := by
  obtain ⟨o, h1, h2⟩ := h.ob b H'[b] (by rw [getL_eq]; simp [hb])
  rw [hc] at h1
  cases h1
  cases ho : H'[b] with
  | mp sh' z' va' ks' val' =>
    rw [ho] at h2
    obtain ⟨rfl, rfl, rfl, _⟩ := h2
    exact ⟨ks', val', by rw [getL_eq]; simp [hb, ho]⟩
  | _ => rw [ho] at h2; exact h2.elim

theorem HWk.kind_arr {ρ : Nat → Nat} {H H' : List O} (h : HWk ρ H H') {b : Nat} (hb : b < H'.length) {e es n : Nat} {g : Nat → Nat → C} (hc : getL H (ρ b) = some (.arr e es n g)) : ∃ g', getL H' b = some (.arr e es n g') := by
  obtain ⟨o, h1, h2⟩ := h.ob b H'[b] (by rw [getL_eq]; simp [hb])
  rw [hc] at h1
  cases h1
  cases ho : H'[b] with
  | arr e' es' n' g' =>
    rw [ho] at h2
    obtain ⟨rfl, rfl, rfl, _⟩ := h2
    exact ⟨g', by rw [getL_eq]; simp [hb, ho]⟩
  | _ => rw [ho] at h2; exact h2.elim

theorem wkC_ok {ρ : Nat → Nat} {H H' : List O} (h : HWk ρ H H') {F : Mem} {μ : Nat → Value} : ∀ (c c' : C), wkC ρ H'.length c c' → ∀ v, RepC F H μ c v → RepC F H' (fun i => μ (ρ i)) c' v := by
  have plain : ∀ (c c' : C), (c.imm = true ∧ ∀ F v, RepF F c v → RepF F c' v) → ∀ v, RepC F H μ c v → RepC F H' (fun i => μ (ρ i)) c' v :=
    fun c c' hw v hv => RepF.toC _ _ c' v (hw.2 F v (imm_rep hw.1 hv))
  have junk : ∀ (c : C), ∀ v, RepC F H μ c v → RepC F H' (fun i => μ (ρ i)) .junk v := fun c v hv => RepC.one c v hv
  intro c
  induction c with
  | fn f m g ih =>
    intro c' hw v hv
    cases c' with
    | fn f' m' g' =>
      obtain ⟨rfl, rfl, hg⟩ := hw
      obtain ⟨cs, h1, h2, h3⟩ := hv
      refine ⟨cs, h1, h2, fun j hj => ?_⟩
      obtain ⟨x, x1, x2⟩ := h3 j hj
      exact ⟨x, x1, ih j _ (hg j hj) x x2⟩
    | junk => exact junk _ v hv
    | _ => exact plain _ _ hw v hv
  | ptr a o =>
    intro c' hw v hv
    cases c' with
    | ptr b o' =>
      obtain ⟨rfl, rfl, hb⟩ := hw
      obtain ⟨⟨cs, h1⟩, b', h2, h3⟩ := hv
      exact ⟨h.kind_vr hb h1, b', h2, h3⟩
    | junk => exact junk _ v hv
    | _ => exact plain _ _ hw v hv
  | ep a i j t =>
    intro c' hw v hv
    cases c' with
    | ep b i' j' t' =>
      obtain ⟨rfl, rfl, rfl, rfl, hb⟩ := hw
      obtain ⟨h0, e, es, n, g, h1, h2, h3⟩ := hv
      obtain ⟨g', hg'⟩ := h.kind_arr hb h1
      exact ⟨h0, e, es, n, g', hg', h2, h3⟩
    | junk => exact junk _ v hv
    | _ => exact plain _ _ hw v hv
  | sl a es l t xq =>
    intro c' hw v hv
    cases c' with
    | sl b es' l' t' xq' =>
      obtain ⟨rfl, rfl, rfl, rfl, hb, hx⟩ := hw
      obtain ⟨h0, e, n, g, h1, h2, h3, h4⟩ := hv
      obtain ⟨g', hg'⟩ := h.kind_arr hb h1
      exact ⟨h0, e, n, g', hg', h2, h3, fun q => let ⟨a, cap, q1, q2, q3⟩ := h4 q; ⟨a, cap, q1, q2, fun e => q3 (hx e)⟩⟩
    | junk => exact junk _ v hv
    | _ => exact plain _ _ hw v hv
  | mpr a =>
    intro c' hw v hv
    cases c' with
    | mpr b =>
      obtain ⟨rfl, hb⟩ := hw
      obtain ⟨⟨sh, z, va, ks, val, h1⟩, b', h2, h3⟩ := hv
      obtain ⟨ks', val', hq⟩ := h.kind_mp hb h1
      exact ⟨⟨sh, z, va, ks', val', hq⟩, b', h2, h3⟩
    | junk => exact junk _ v hv
    | _ => exact plain _ _ hw v hv
  | _ =>
    intro c' hw v hv
    cases c' with
    | junk => exact junk _ v hv
    | _ => exact plain _ _ hw v hv

theorem wkL_ok {ρ : Nat → Nat} {H H' : List O} (h : HWk ρ H H') {F : Mem} {μ : Nat → Value} {xs ys : List C} (hl : xs.length = ys.length)
    (hw : ∀ (j : Nat) x y, getL xs j = some x → getL ys j = some y → wkC ρ H'.length x y) {cs : Array Value} (hx : RepL F H μ xs cs) : RepL F H' (fun i => μ (ρ i)) ys cs := by
  refine ⟨hx.1.trans hl, fun j y hy => ?_⟩
  have hj := getL_lt hy
  have hgx : getL xs j = some (xs[j]'(by omega)) := by rw [getL_eq]; simp
  obtain ⟨v, v1, v2⟩ := hx.2 j _ hgx
  exact ⟨v, v1, wkC_ok h _ _ (hw j _ y hgx hy) v v2⟩

theorem wkE_ok {ρ : Nat → Nat} {H H' : List O} (h : HWk ρ H H') {F : Mem} {μ : Nat → Value} : ∀ (x y : C ⊕ List C), wkE ρ H'.length x y → ∀ v, RepE F H μ x v → RepE F H' (fun i => μ (ρ i)) y v
  | .inl _, .inl _, hw, v, hv => wkC_ok h _ _ hw v hv
  | .inr _, .inr _, ⟨h1, h2⟩, _, ⟨cs, c1, c2⟩ => ⟨cs, c1, wkL_ok h h1 h2 c2⟩
  | .inl _, .inr _, hw, _, _ => hw.elim
  | .inr _, .inl _, hw, _, _ => hw.elim

theorem wkS_ok {ρ : Nat → Nat} {H H' : List O} (h : HWk ρ H H') {F : Mem} {μ : Nat → Value} : ∀ (s s' : S), wkS ρ H'.length s s' → ∀ v, RepS F H μ s v → RepS F H' (fun i => μ (ρ i)) s' v := by
  intro s
  induction s with
  | u => intro s' hw v _; cases s' <;> first | trivial | exact hw.elim
  | c x => intro s' hw v hv; cases s' <;> first | trivial | exact wkC_ok h _ _ hw v hv | exact hw.elim
  | a xs =>
    intro s' hw v hv
    cases s' with
    | u => trivial
    | a ys => obtain ⟨cs, c1, c2⟩ := hv; exact ⟨cs, c1, wkL_ok h hw.1 hw.2 c2⟩
    | _ => exact hw.elim
  | t l =>
    intro s' hw v hv
    cases s' with
    | u => trivial
    | t l' =>
      obtain ⟨vs, c1, c2, c3⟩ := hv
      refine ⟨vs, c1, c2.trans hw.1, fun j y hy => ?_⟩
      have hj := getL_lt hy
      have hl := hw.1
      have hgx : getL l j = some (l[j]'(by omega)) := by rw [getL_eq]; simp
      obtain ⟨v, v1, v2⟩ := c3 j _ hgx
      exact ⟨v, v1, wkE_ok h _ _ (hw.2 j _ y hgx hy) v v2⟩
    | _ => exact hw.elim
  | lz g s ih =>
    intro s' hw v hv
    cases s' with
    | u => trivial
    | lz g' s'' =>
      obtain ⟨rfl, h2⟩ := hw
      exact ⟨fun hg => ih s'' h2 v (hv.1 hg), hv.2⟩
    | _ => exact hw.elim
  | so id es off len tot => intro s' hw v hv; cases s' <;> first | trivial | exact hw.elim

theorem HSat.wk {ρ : Nat → Nat} {K : Keep} {F : Mem} {H H' : List O} {μ : Nat → Value} {w : World} (hw : HSat K F H μ w) (h : HWk ρ H H') : HSat K F H' (fun i => μ (ρ i)) w := by
  have own : ∀ i b, owned H' (fun i => μ (ρ i)) i b → i < H'.length ∧ owned H μ (ρ i) b := by
    intro i b ⟨⟨o, o1, o2⟩, hb⟩
    obtain ⟨p, p1, p2⟩ := h.ob i o o1
    refine ⟨getL_lt o1, ⟨p, p1, fun e => ?_⟩, hb⟩
    subst e
    cases o with
    | dead => exact o2 rfl
    | vr => exact p2.elim
    | arr => exact p2.elim
    | mp => exact p2.elim
  refine ⟨hw.os, hw.tape, hw.output, hw.fr, hw.kp, fun i o hi => ?_, fun i b hb => hw.sp _ b (own i b hb).2, fun i j b hi hj => ?_, hw.dj⟩
  · obtain ⟨p, p1, p2⟩ := h.ob i o hi
    have hp := hw.ob _ p p1
    cases o with
    | vr cs' =>
      cases p with
      | vr cs =>
        obtain ⟨b, c, T, q1, q2, q3⟩ := hp
        exact ⟨b, c, T, q1, q2, wkL_ok h p2.1 p2.2 q3⟩
      | _ => exact p2.elim
    | arr e es n g =>
      cases p with
      | arr e' es' n' g' =>
        obtain ⟨rfl, rfl, rfl, hg⟩ := p2
        obtain ⟨xs, q1, q2, q3, q4⟩ := hp
        refine ⟨xs, q1, q2, fun k hk j hj => ?_, q4⟩
        obtain ⟨v, v1, v2⟩ := q3 k hk j hj
        exact ⟨v, v1, wkC_ok h _ _ (hg k hk j hj) v v2⟩
      | _ => exact p2.elim
    | dead => trivial
    | mp sh z va ks val =>
      cases p with
      | mp sh' z' va' ks' val' =>
        obtain ⟨rfl, rfl, rfl, rfl, hv⟩ := p2
        obtain ⟨b, es, ck, q1, q2, q3, q4⟩ := hp
        exact ⟨b, es, ck, q1, q2, q3.wk hv, q4⟩
      | _ => exact p2.elim
  · obtain ⟨h1, h2⟩ := own i b hi
    obtain ⟨h3, h4⟩ := own j b hj
    exact h.inj i j h1 h3 (hw.ij _ _ b h2 h4)

/-- Slots, some of them, under other numbers. -/
def wkT (ρ : Nat → Nat) (n : Nat) (ts : Ts) : Ts → Prop
  | [] => True
  | (t, s) :: r => wkS ρ n (find t ts) s ∧ wkT ρ n ts r

theorem wkT_find {ρ : Nat → Nat} {n : Nat} {ts : Ts} (t : Nat) : ∀ {ts' : Ts}, wkT ρ n ts ts' → wkS ρ n (find t ts) (find t ts')
  | [], _ => by simp only [find]; cases find t ts <;> trivial
  | (u, s) :: r, h => by
    simp only [find]
    cases hb : Nat.beq u t with
    | true =>
      have : u = t := Nat.eq_of_beq_eq_true hb
      subst this
      exact h.1
    | false => exact wkT_find t h.2

theorem TSat.wk {ρ : Nat → Nat} {F : Mem} {H H' : List O} {μ : Nat → Value} (h : HWk ρ H H') {ts ts' : Ts} {tmps : Array Value} (hw : wkT ρ H'.length ts ts') (ht : TSat F H μ ts tmps) : TSat F H' (fun i => μ (ρ i)) ts' tmps :=
  fun t => wkS_ok h _ _ (wkT_find t hw) _ (ht t)

/-- From one state of slots and objects to one that says less: the objects' numbers stay, the last ones may fall away. -/
structure Wk (n0 : Nat) (ts : Ts) (H : List O) (ts' : Ts) (H' : List O) : Prop where
  h : HWk (fun i => i) H H'
  t : wkT (fun i => i) H'.length ts ts'
  n : n0 ≤ H'.length

theorem Ext.wk {H0 H H' : List O} {μ0 μ : Nat → Value} (h : Ext H0 μ0 H μ) (k : HWk (fun i => i) H H') (hn : H0.length ≤ H'.length) : Ext H0 μ0 H' μ := by
  refine ⟨fun id cs hc => ?_, fun id e es n g hc => ?_, fun id sh z va ks val hc => ?_⟩
  · have := getL_lt hc
    obtain ⟨⟨cs', h1⟩, h2⟩ := h.1 id cs hc
    exact ⟨k.kind_vr (b := id) (by omega) h1, h2⟩
  · have := getL_lt hc
    obtain ⟨n', g', h1, h2, h3⟩ := h.2.1 id e es n g hc
    obtain ⟨g'', h4⟩ := k.kind_arr (b := id) (by omega) h1
    exact ⟨n', g'', h4, h2, h3⟩
  · have := getL_lt hc
    obtain ⟨⟨ks', val', h1⟩, h2⟩ := h.2.2 id sh z va ks val hc
    exact ⟨k.kind_mp (b := id) (by omega) h1, h2⟩

theorem Sat.wk {X : Cx} {K : Keep} {F0 : Mem} {H0 : List O} {μ0 : Nat → Value} {ts ts' : Ts} {H H' : List O} {F : Mem} {μ : Nat → Value} {a : Act} {w : World} (h : Sat X K F0 H0 μ0 ts H F μ a w) (hw : Wk X.n0 ts H ts' H') :
    Sat X K F0 H0 μ0 ts' H' F μ a w :=
  ⟨h.le, h.ext.wk hw.h (Nat.le_trans h.n0 hw.n), h.hs.wk hw.h, h.tp.wk hw.h hw.t, h.sz, h.df, h.n0⟩

theorem exists_least {p : Nat → Prop} (h : ∃ n, p n) : ∃ n, p n ∧ ∀ m, p m → n ≤ m := by
  obtain ⟨n, hn⟩ := h
  induction n using Nat.strongRecOn with
  | _ n ih =>
    by_cases c : ∃ m, m < n ∧ p m
    · obtain ⟨m, h1, h2⟩ := c
      exact ih m h1 h2
    · exact ⟨n, hn, fun m hm => by
        rcases Nat.lt_or_ge m n with h | h
        · exact absurd ⟨m, h, hm⟩ c
        · exact h⟩

/-- From slots and objects to others that say less. -/
def Mv (X : Cx) (ts : Ts) (H : List O) (ts' : Ts) (H' : List O) : Prop :=
  ∀ K F0 H0 μ0 F μ a w, Sat X K F0 H0 μ0 ts H F μ a w → ∃ F' μ', Sat X K F0 H0 μ0 ts' H' F' μ' a w

theorem Mv.wk {X : Cx} {ts ts' : Ts} {H H' : List O} (h : Wk X.n0 ts H ts' H') : Mv X ts H ts' H' := fun _ _ _ _ F μ _ _ hs => ⟨F, μ, hs.wk h⟩
theorem Mv.trans {X : Cx} {ts ts' ts'' : Ts} {H H' H'' : List O} (h : Mv X ts H ts' H') (k : Mv X ts' H' ts'' H'') : Mv X ts H ts'' H'' := by
  intro K F0 H0 μ0 F μ a w hs
  obtain ⟨F', μ', hs'⟩ := h K F0 H0 μ0 F μ a w hs
  exact k K F0 H0 μ0 F' μ' a w hs'

/-- A loop, by an invariant and a measure. -/
theorem Lp.mk {X : Cx} (hΓ : EnvOk X.P X.Γ) {c : Code} {ts : Ts} {H : List O} {k : Kp} {ι : Type} (st : ι → Ts) (Hs : ι → List O) (ok : ι → Prop) (m : ι → Nat) (i0 : ι) (h0 : ok i0) (hw : Mv X ts H (st i0) (Hs i0))
    (round : ∀ i, ok i → vc X c (st i) (Hs i) fun e ts' H' => match e with
      | .normal => ∃ j, ok j ∧ m j < m i ∧ Mv X ts' H' (st j) (Hs j)
      | .exit id => k (.exit id) ts' H'
      | .ret => k .ret ts' H') : Lp X c ts H k := by
  refine ⟨?_⟩
  intro K F0 H0 μ0 F μ a w hs
  let I : Nat → Act → World → Prop := fun n a w => ∃ i F μ, m i = n ∧ ok i ∧ Sat X K F0 H0 μ0 (st i) (Hs i) F μ a w
  have step : ∀ n a w, I n a w → c.wp X.P (Exit.then (fun a' w' => ∃ n', n' < n ∧ I n' a' w') (Post X K F0 H0 μ0 k)) a w := by
    rintro n a w ⟨i, F, μ, rfl, hi, hs⟩
    refine wp_mono (vc_sound hΓ c (round i hi) K F0 H0 μ0 F μ a w hs) ?_
    rintro e a' w' ⟨ts', H', F', μ', hs', he⟩
    cases e with
    | normal =>
      obtain ⟨j, j1, j2, j3⟩ := he
      obtain ⟨F'', μ'', hs''⟩ := j3 _ _ _ _ _ _ _ _ hs'
      exact ⟨m j, j2, j, F'', μ'', rfl, j1, hs''⟩
    | exit id => exact ⟨ts', H', F', μ', hs', he⟩
    | ret => exact ⟨ts', H', F', μ', hs', he⟩
    | goto l => exact he.elim
    | panic ch => exact he.elim
    | outgrown => exact he.elim
  classical
  let least : Act → World → Nat := fun a w => if h : ∃ n, I n a w then (exists_least h).choose else 0
  obtain ⟨F1, μ1, hs1⟩ := hw _ _ _ _ _ _ _ _ hs
  refine wp_loop (fun a w => ∃ n, I n a w) least ⟨m i0, i0, F1, μ1, rfl, h0, hs1⟩ ?_
  intro a w hI
  have hl : least a w = (exists_least hI).choose := by simp only [least]; rw [dif_pos hI]
  refine wp_mono (step (least a w) a w (by rw [hl]; exact (exists_least hI).choose_spec.1)) ?_
  intro e a' w' he
  cases e with
  | normal =>
    obtain ⟨n', n1, n2⟩ := he
    have hI' : ∃ n, I n a' w' := ⟨n', n2⟩
    refine ⟨hI', ?_⟩
    have hl' : least a' w' = (exists_least hI').choose := by simp only [least]; rw [dif_pos hI']
    rw [hl']
    exact Nat.lt_of_le_of_lt ((exists_least hI').choose_spec.2 n' n2) n1
  | _ => exact he

/-- 'nil' taken for an array of the call's own, without elements: for a loop that appends. -/
theorem Lp.reserve {X : Cx} {c : Code} {ts : Ts} {H : List O} {k : Kp} (e es : Nat) (g : Nat → Nat → C) (t : Nat) (ht : find t ts = .c .nils)
    (h : Lp X c ((t, .c (.sl H.length es 0 0 false)) :: ts) (H ++ [.arr e es 0 g]) k) : Lp X c ts H k := by
  replace h := h.out
  refine ⟨?_⟩
  intro K F0 H0 μ0 F μ a w hs
  have hE := Ext.push H μ (.arr e es 0 g) (.slice none 0 0)
  have hw : HSat K F (H ++ [.arr e es 0 g]) (upd μ H.length (.slice none 0 0)) w := hs.hs.push _ _ ⟨rfl, rfl, rfl, Nat.le_refl _, fun _ _ _ => rfl⟩ (fun b hb => by cases hb) (by
    refine ⟨[], ?_, Nat.zero_le _, fun i hi => by omega, Sp.none (by simp [upd, blk])⟩
    simp only [upd, if_true]
    exact World.ownsRow_nil w 0 e es)
  refine h K F0 H0 μ0 F _ a w ⟨hs.le, hs.ext.trans hE, hw, ?_, hs.sz, hs.df, hs.n0⟩
  intro u
  simp only [find]
  cases hb : Nat.beq t u with
  | true =>
    have : t = u := Nat.eq_of_beq_eq_true hb
    subst this
    have hv := hs.tp t
    rw [ht] at hv
    have hv' : a.tmps.getD t undef = .slice none 0 0 := hv
    rw [hv']
    exact ⟨rfl, e, 0, g, getL_append_eq _ _, Nat.le_refl _, Nat.le_refl _, fun _ => ⟨none, 0, by simp [upd], rfl, fun e => by cases e⟩⟩
  | false => exact RepS.mono (Mem.le_refl F) hE _ _ (hs.tp u)

/-- The slots of a call's arguments. -/
def params : Nat → List S → Ts
  | _, [] => []
  | i, s :: r => (i, s) :: params (i + 1) r

theorem params_find : ∀ (l : List S) (i t : Nat), find t (params i l) = .u ∨ ∃ j s, t = i + j ∧ getL l j = some s ∧ find t (params i l) = s
  | [], _, _ => .inl rfl
  | s :: r, i, t => by
    simp only [params, find]
    cases hb : Nat.beq i t with
    | true =>
      have : i = t := Nat.eq_of_beq_eq_true hb
      subst this
      exact .inr ⟨0, s, rfl, rfl, rfl⟩
    | false =>
      rcases params_find r (i + 1) t with h | ⟨j, s', h1, h2, h3⟩
      · exact .inl h
      · exact .inr ⟨j + 1, s', by omega, h2, h3⟩

/-- A result. -/
def resV (Γ : Env) (ts : Ts) (H : List O) : ResultVar → Option (List Prop × S)
  | .tmp t => some (bare (find t ts))
  | .cell a t => match Γ.at t with
    | some i => match find a ts with
      | .c p => loadK i H p
      | _ => none
    | none => none

def resE : S → Option (C ⊕ List C)
  | .c x => some (.inl x)
  | .a xs => some (.inr xs)
  | _ => none

def resL (Γ : Env) (ts : Ts) (H : List O) : List ResultVar → Option (List Prop × List (C ⊕ List C))
  | [] => some ([], [])
  | r :: rs => match resV Γ ts H r with
    | some (p, s) => match resE s with
      | some x => match resL Γ ts H rs with
        | some (q, l) => some (p ++ q, x :: l)
        | none => none
      | none => none
    | none => none

def resK (Γ : Env) (rs : List ResultVar) (ts : Ts) (H : List O) (Q : S → List O → Prop) : Prop :=
  match rs with
  | [r] => match resV Γ ts H r with
    | some (p, s) => needs p (forceS s fun s' => Q s' H)
    | none => StuckC .ret ts H
  | rs => match resL Γ ts H rs with
    | some (p, l) => needs p (Q (.t l) H)
    | none => StuckC .ret ts H

def retK (Γ : Env) (rs : List ResultVar) (Q : S → List O → Prop) : Kp := fun e ts H => match e with
  | .exit _ => False
  | _ => resK Γ rs ts H Q

def resM (tmps : Array Value) : ResultVar → Sem Value
  | .tmp t => pure (tmps.getD t undef)
  | .cell a t => do loadVar t (← asAddr (tmps.getD a undef))

theorem resV_ok {P : Program} {Γ : Env} (hΓ : EnvOk P Γ) {K : Keep} {F : Mem} {H : List O} {μ : Nat → Value} {w : World} (hw : HSat K F H μ w) {ts : Ts} {tmps : Array Value} (hT : TSat F H μ ts tmps) {r : ResultVar} {p : List Prop} {s : S}
    (h : resV Γ ts H r = some (p, s)) (hp : ∀ q ∈ p, q) : ∃ v, (resM tmps r).run P w = .ok v w ∧ RepS F H μ s v := by
  cases r with
  | tmp t =>
    simp only [resV, Option.some.injEq] at h
    exact ⟨_, rfl, bare_ok (hT t) h hp⟩
  | cell a t =>
    simp only [resV] at h
    split at h
    · rename_i i hi
      split at h
      · rename_i c hc
        have hv := hT a
        rw [hc] at hv
        obtain ⟨v, v1, v2⟩ := loadK_ok (P := P) (hΓ t i hi) hw hv h hp
        refine ⟨v, ?_, v2⟩
        have hptr : ∃ b, tmps.getD a undef = .pointer (some b) := by
          cases c with
          | ptr id off => obtain ⟨_, b, _, h3⟩ := hv; exact ⟨_, h3⟩
          | ip n g => obtain ⟨b, off, h3, _⟩ := hv; exact ⟨_, h3⟩
          | ep id k j tot =>
            obtain ⟨_, e, es, n, g, h1, h2, h3⟩ := hv
            simp only [loadK, h1] at h
            split at h
            · rename_i s' hm
              simp only [Option.some.injEq, Prod.mk.injEq] at h
              obtain ⟨rfl, _⟩ := h
              obtain ⟨b, cap, _, _, h4⟩ := h3 (hp _ (by simp))
              exact ⟨_, h4⟩
            · cases h
          | _ => simp [loadK] at h
        obtain ⟨b, hb⟩ := hptr
        rw [hb] at v1
        simp only [resM, hb]
        simpa [Instr.loadAt, Instr.sureAddr, asAddr] using v1
      · cases h
    · cases h

theorem results_eq (fn : Func) (tmps : Array Value) : results fn tmps = (do let vs ← fn.results.mapM (resM tmps); pure (if h : vs.size = 1 then vs[0] else .tuple vs)) := by
  unfold results
  have : (fun r : ResultVar => match r with
    | .tmp t => (pure (tmps.getD t undef) : Sem Value)
    | .cell a t => do loadVar t (← asAddr (tmps.getD a undef))) = resM tmps := by
    funext r; cases r <;> rfl
  rw [← this]
  rfl

theorem resL_ok {P : Program} {Γ : Env} (hΓ : EnvOk P Γ) {K : Keep} {F : Mem} {H : List O} {μ : Nat → Value} {w : World} (hw : HSat K F H μ w) {ts : Ts} {tmps : Array Value} (hT : TSat F H μ ts tmps) :
    ∀ (rs : List ResultVar) (p : List Prop) (l : List (C ⊕ List C)), resL Γ ts H rs = some (p, l) → (∀ q ∈ p, q) →
      ∃ vs : List Value, (rs.mapM (resM tmps)).run P w = .ok vs w ∧ vs.length = l.length ∧ rs.length = l.length ∧ ∀ (j : Nat) x, getL l j = some x → ∃ u, vs[j]? = some u ∧ RepE F H μ x u
  | [], p, l, h, _ => by
    simp only [resL, Option.some.injEq, Prod.mk.injEq] at h
    obtain ⟨_, rfl⟩ := h
    exact ⟨[], rfl, rfl, rfl, by simp [getL]⟩
  | r :: rs, p, l, h, hp => by
    simp only [resL] at h
    split at h
    · rename_i p1 s h1
      split at h
      · rename_i x hx
        split at h
        · rename_i q l' h2
          simp only [Option.some.injEq, Prod.mk.injEq] at h
          obtain ⟨rfl, rfl⟩ := h
          obtain ⟨v, v1, v2⟩ := resV_ok (P := P) hΓ hw hT h1 (all_left hp)
          obtain ⟨vs, w1, w2, w3, w4⟩ := resL_ok hΓ hw hT rs q l' h2 (all_right hp)
          refine ⟨v :: vs, ?_, by simp [w2], by simp [w3], fun j y hy => ?_⟩
          · rw [List.mapM_cons, bind_ok v1, bind_ok w1]; rfl
          · cases j with
            | zero =>
              simp [getL] at hy
              subst hy
              refine ⟨v, by simp, ?_⟩
              cases s with
              | c c => simp only [resE, Option.some.injEq] at hx; subst hx; exact v2
              | a xs => simp only [resE, Option.some.injEq] at hx; subst hx; exact v2
              | _ => simp [resE] at hx
            | succ j => simp only [getL] at hy; simpa using w4 j y hy
        · cases h
      · cases h
    · cases h

theorem resK_ok {P : Program} {Γ : Env} (hΓ : EnvOk P Γ) {K : Keep} {F : Mem} {H : List O} {μ : Nat → Value} {w : World} (hw : HSat K F H μ w) {ts : Ts} {tmps : Array Value} (hT : TSat F H μ ts tmps) {fn : Func} {Q : S → List O → Prop}
    (h : resK Γ fn.results.toList ts H Q) : ∃ v s, (results fn tmps).run P w = .ok v w ∧ RepS F H μ s v ∧ Q s H := by
  rw [results_eq]
  unfold resK at h
  split at h
  · rename_i r hr
    split at h
    · rename_i p s hs
      obtain ⟨h1, h2⟩ := needs_out h
      rw [forceS_eq] at h2
      obtain ⟨v, v1, v2⟩ := resV_ok (P := P) hΓ hw hT hs h1
      refine ⟨v, s, ?_, v2, h2⟩
      have hres : fn.results = #[r] := by apply Array.toList_inj.1; simpa using hr
      rw [hres]
      have : ((#[r] : Array ResultVar).mapM (resM tmps)).run P w = .ok #[v] w := by
        rw [Array.mapM_eq_mapM_toList]
        simp [v1]
      rw [bind_ok this]
      rfl
    · exact (stuckC_out h).elim
  · rename_i hne
    split at h
    · rename_i p l hl
      obtain ⟨h1, h2⟩ := needs_out h
      obtain ⟨vs, w1, w2, w3, w4⟩ := resL_ok (P := P) hΓ hw hT _ p l hl h1
      refine ⟨.tuple vs.toArray, .t l, ?_, ⟨vs.toArray, rfl, by simpa using w2, fun j x hx => by simpa using w4 j x hx⟩, h2⟩
      have : (fn.results.mapM (resM tmps)).run P w = .ok vs.toArray w := by
        rw [Array.mapM_eq_mapM_toList]
        simp [w1]
      rw [bind_ok this]
      have hsz : ¬ vs.toArray.size = 1 := by
        intro e
        have : fn.results.toList.length = 1 := by rw [w3, ← w2]; simpa using e
        match hq : fn.results.toList, this with
        | [r], _ => exact hne r hq
      rw [dif_neg hsz]
      rfl
    · exact (stuckC_out h).elim

def paramsK : Nat → List S → (Ts → Prop) → Prop
  | _, [], k => k []
  | i, s :: r, k => paramsK (i + 1) r fun ts => k ((i, s) :: ts)

theorem paramsK_eq : ∀ (l : List S) (i : Nat) (k : Ts → Prop), paramsK i l k = k (params i l)
  | [], _, _ => rfl
  | s :: r, i, k => by simp only [paramsK, params, paramsK_eq r]

/-- What is deferred is no part of the memory that is kept. -/
theorem HSat.ds {K : Keep} {F : Mem} {H : List O} {μ : Nat → Value} {w : World} (h : HSat K F H μ w) (d : List Deferred) : HSat { K with ds := d } F H μ w := ⟨h.os, h.tape, h.output, h.fr, h.kp, h.ob, h.sp, h.ij, h.dj⟩

/-- A function by its text. -/
theorem CSpec.of_vc {P : Program} {Γ : Env} (hΓ : EnvOk P Γ) {f : FuncId} {fn : Func} {c : Code} (hf : P.funcs[f]? = some fn) (hb : fn.body = some c) {args : List S} {H : List O} {Q : S → List O → Prop} (nt n0 : Nat) (rs : List ResultVar)
    (hnt : fn.ntmps = nt) (hn0 : H.length = n0) (hrs : fn.results.toList = rs) (hn : Nat.ble args.length nt = true) (h : paramsK 0 args fun ts => vc ⟨P, Γ, nt, n0⟩ c ts H (retK Γ rs Q)) : CSpec P f args H Q := by
  subst hnt
  subst hn0
  subst hrs
  rw [paramsK_eq] at h
  have hn := Nat.le_of_ble_eq_true hn
  intro K F μ w vs hw hA
  refine calls_of_wp hf hb ?_
  have hsz : (vs ++ Array.replicate (fn.ntmps - vs.size) undef).size = fn.ntmps := by
    rw [Array.size_append, Array.size_replicate, hA.1]; omega
  have hT : TSat F H μ (params 0 args) (vs ++ Array.replicate (fn.ntmps - vs.size) undef) := by
    intro t
    rcases params_find args 0 t with e | ⟨j, s, rfl, e1, e2⟩
    · rw [e]; trivial
    · rw [e2]
      obtain ⟨v, v1, v2⟩ := hA.2 j s e1
      have hlt : j < vs.size := (Array.getElem?_eq_some_iff.1 v1).1
      rw [Nat.zero_add, Array.getD_eq_getD_getElem?, Array.getElem?_append_left hlt, v1]
      exact v2
  have hs : Sat ⟨P, Γ, fn.ntmps, H.length⟩ { K with ds := [] } F H μ (params 0 args) H F μ ⟨vs ++ Array.replicate (fn.ntmps - vs.size) undef, []⟩ w :=
    ⟨Mem.le_refl F, Ext.refl H μ, hw.ds [], hT, hsz, rfl, Nat.le_refl _⟩
  refine wp_mono (vc_sound (X := ⟨P, Γ, fn.ntmps, H.length⟩) hΓ c h { K with ds := [] } F H μ F μ _ w hs) ?_
  rintro e a' w' ⟨ts', H', F', μ', hs', he⟩
  have fin : resK Γ fn.results.toList ts' H' Q → a'.defers = [] ∧ ∃ v, (results fn a'.tmps).run P w' = .ok v w' ∧ (fun e w' => ∃ v F' μ' s H', e = Ending.returned v ∧ F.le F' ∧ HSat K F' H' μ' w' ∧ Ext H μ H' μ' ∧ RepS F' H' μ' s v ∧ Q s H') (.returned v) w' := by
    intro hr
    obtain ⟨v, s, r1, r2, r3⟩ := resK_ok (P := P) hΓ hs'.hs hs'.tp hr
    exact ⟨hs'.df, v, r1, v, F', μ', s, H', rfl, hs'.le, hs'.hs.ds K.ds, hs'.ext, r2, r3⟩
  cases e with
  | normal => exact fin he
  | ret => exact fin he
  | exit id => exact he.elim
  | goto l => exact he.elim
  | panic ch => exact he.elim
  | outgrown => exact he.elim

end Go.Am
end

section
/- THE ABSTRACT MACHINE, PART 15: contracts. -/
namespace Go.Am

def E.imm : C ⊕ List C → Bool
  | .inl y => y.imm
  | .inr ys => ys.all C.imm

def S.imm : S → Bool
  | .u => true
  | .c x => x.imm
  | .a xs => xs.all C.imm
  | .t l => l.all E.imm
  | .lz _ s => s.imm
  | .so .. => false

/-- What is frozen says the same beside any tracked objects. -/
theorem immC {F : Mem} {H H' : List O} {μ μ' : Nat → Value} {c : C} (hc : c.imm = true) {v : Value} (h : RepC F H μ c v) : RepC F H' μ' c v := RepF.toC H' μ' c v (imm_rep hc h)

theorem immL {F : Mem} {H H' : List O} {μ μ' : Nat → Value} {xs : List C} (hc : xs.all C.imm = true) {cs : Array Value} (h : RepL F H μ xs cs) : RepL F H' μ' xs cs :=
  ⟨h.1, fun j x hx => let ⟨v, v1, v2⟩ := h.2 j x hx; ⟨v, v1, immC (all_get hc hx) v2⟩⟩

theorem immS {F : Mem} {H H' : List O} {μ μ' : Nat → Value} : ∀ {s : S}, s.imm = true → ∀ {v : Value}, RepS F H μ s v → RepS F H' μ' s v
  | .u, _, _, _ => trivial
  | .c _, hc, _, h => immC hc h
  | .a _, hc, _, ⟨cs, h1, h2⟩ => ⟨cs, h1, immL hc h2⟩
  | .t l, hc, _, ⟨vs, h1, h2, h3⟩ => ⟨vs, h1, h2, fun j x hx => by
      obtain ⟨u, u1, u2⟩ := h3 j x hx
      refine ⟨u, u1, ?_⟩
      have := all_get (p := E.imm) hc hx
      cases x with
      | inl c => exact immC this u2
      | inr cs => obtain ⟨k, k1, k2⟩ := u2; exact ⟨k, k1, immL this k2⟩⟩
  | .lz _ s, hc, _, h => ⟨fun hg => immS (s := s) hc (h.1 hg), h.2⟩
  | .so .., hc, _, _ => by cases hc

/-- What a function gives that changes nothing: this. -/
def PSpec (P : Program) (f : FuncId) (args : List S) (r : S) : Prop := CSpec P f args [] fun s _ => s = r

/-- The tracked objects put aside, behind what is kept. -/
noncomputable def Keep.with (K : Keep) (H : List O) (μ : Nat → Value) (w : World) : Keep :=
  { K with mem := open Classical in fun b => if ∃ id, owned H μ id b then w.heap[b]? else K.mem b }

theorem HSat.aside {K : Keep} {F : Mem} {H : List O} {μ : Nat → Value} {w : World} (h : HSat K F H μ w) (μ' : Nat → Value) : HSat (K.with H μ w) F [] μ' w := by
  refine ⟨h.os, h.tape, h.output, h.fr, fun b o hb => ?_, fun id o ho => by simp [getL] at ho, fun id b ⟨⟨o, ho, _⟩, _⟩ => by simp [getL] at ho, fun id id' b ⟨⟨o, ho, _⟩, _⟩ => by simp [getL] at ho, fun b o hb => ?_⟩
  · simp only [Keep.with] at hb
    split at hb
    · exact hb
    · exact h.kp b o hb
  · simp only [Keep.with]
    rw [if_neg]
    · exact h.dj b o hb
    · rintro ⟨id, hid⟩
      rw [(h.sp id b hid).1] at hb
      cases hb

theorem owned_some {K : Keep} {F : Mem} {H : List O} {μ : Nat → Value} {w : World} (h : HSat K F H μ w) {id b : Nat} (ho : owned H μ id b) : ∃ o, w.heap[b]? = some o := by
  obtain ⟨⟨o, o1, o2⟩, hb⟩ := ho
  have := h.ob id o o1
  cases o with
  | vr cs =>
    obtain ⟨b', c, T, h1, h2, _⟩ := this
    rw [h1] at hb
    cases hb
    exact ⟨_, h2⟩
  | arr e es n g =>
    obtain ⟨xs, h1, _, _⟩ := this
    rcases h1.2 with ⟨q, _⟩ | ⟨g', cap, cur, q, _, q3, _⟩
    · rw [q] at hb; cases hb
    · rw [q] at hb; cases hb
      exact ⟨_, q3⟩
  | dead => exact absurd rfl o2
  | mp sh z va ks val =>
    obtain ⟨b', es, ck, h1, h2, _⟩ := this
    rw [h1] at hb
    cases hb
    exact ⟨_, h2⟩

theorem HSat.back {K : Keep} {F F' : Mem} {H : List O} {μ μ' : Nat → Value} {w w' : World} (h : HSat K F H μ w) {H'' : List O} (k : HSat (K.with H μ w) F' H'' μ' w') (hF : F.le F') : HSat K F' H μ w' := by
  have own : ∀ id b, owned H μ id b → (K.with H μ w).mem b = w.heap[b]? := by
    intro id b ho
    simp only [Keep.with]
    rw [if_pos ⟨id, ho⟩]
  refine ⟨k.os, k.tape, k.output, k.fr, fun b o hb => k.kp b o ?_, fun id o ho => ?_, fun id b ho => ⟨?_, (h.sp id b ho).2⟩, h.ij, fun b o hb => ?_⟩
  · simp only [Keep.with]
    rw [if_neg]
    · exact hb
    · rintro ⟨id, hid⟩
      rw [(h.sp id b hid).2] at hb
      cases hb
  · have := h.ob id o ho
    cases o with
    | vr cs =>
      obtain ⟨b, c, T, h1, h2, h3⟩ := this
      have hb : owned H μ id b := ⟨⟨_, ho, by simp⟩, by rw [h1]; rfl⟩
      exact ⟨b, c, T, h1, k.kp b _ (by rw [own id b hb]; exact h2), h3.mono hF (Ext.refl H μ)⟩
    | arr e es n g =>
      obtain ⟨xs, h1, h2, h3, h4⟩ := this
      refine ⟨xs, ⟨h1.1, ?_⟩, h2, fun i hi j hj => ?_, h4.kept h1 fun b o hb ho' => k.kp b _ (by rw [own id b ⟨⟨_, ho, by simp⟩, hb⟩]; exact ho')⟩
      · rcases h1.2 with q | ⟨g', cap, cur, q, q2, q3, rest⟩
        · exact .inl q
        · have hb : owned H μ id g' := ⟨⟨_, ho, by simp⟩, by rw [q]; rfl⟩
          exact .inr ⟨g', cap, cur, q, q2, k.kp g' _ (by rw [own id g' hb]; exact q3), rest⟩
      · obtain ⟨v, v1, v2⟩ := h3 i hi j hj
        exact ⟨v, v1, RepC.mono hF (Ext.refl H μ) _ _ v2⟩
    | dead => trivial
    | mp sh z va ks val =>
      obtain ⟨b, es, ck, h1, h2, h3, h4⟩ := this
      have hb : owned H μ id b := ⟨⟨_, ho, by simp⟩, by rw [h1]; rfl⟩
      exact ⟨b, es, ck, h1, k.kp b _ (by rw [own id b hb]; exact h2), h3.mono hF, h4⟩
  · cases hf : F' b with
    | none => rfl
    | some o =>
      have := k.dj b o hf
      rw [own id b ho] at this
      obtain ⟨o', ho'⟩ := owned_some h ho
      rw [ho'] at this
      cases this
  · have := k.dj b o hb
    simp only [Keep.with] at this
    split at this
    · rename_i hid
      obtain ⟨id, hid⟩ := hid
      exact (h.sp id b hid).2
    · exact this

/-- Some arguments say as much as others. -/
def leA : List S → List S → Prop
  | [], [] => True
  | s :: r, s' :: r' => (s.imm = true ∧ wkS (fun i => i) 0 s s') ∧ leA r r'
  | _, _ => False

theorem HWk.nil : HWk (fun i => i) [] [] := ⟨fun i o' h => by simp [getL] at h, fun i j h => by simp at h⟩

theorem leA_ok {F : Mem} {H : List O} {μ : Nat → Value} : ∀ {l l' : List S}, leA l l' → ∀ {vs : Array Value} {o : Nat}, (∀ (j : Nat) s, getL l j = some s → ∃ v, vs[o + j]? = some v ∧ RepS F H μ s v) →
    l.length = l'.length ∧ ∀ (j : Nat) s, getL l' j = some s → ∃ v, vs[o + j]? = some v ∧ RepS F [] μ s v
  | [], [], _, _, _, _ => ⟨rfl, fun j s h => by simp [getL] at h⟩
  | s :: r, s' :: r', ⟨⟨h1, h2⟩, h3⟩, vs, o, h => by
    obtain ⟨k1, k2⟩ := leA_ok (o := o + 1) h3 (fun j t ht => by
      obtain ⟨v, v1, v2⟩ := h (j + 1) t (by simpa [getL] using ht)
      exact ⟨v, by rw [← v1]; congr 1; omega, v2⟩)
    refine ⟨by simp [k1], fun j t ht => ?_⟩
    cases j with
    | zero =>
      simp only [getL, Option.some.injEq] at ht
      subst ht
      obtain ⟨v, v1, v2⟩ := h 0 s rfl
      exact ⟨v, v1, wkS_ok HWk.nil s s' h2 v (immS (H' := []) (μ' := μ) h1 v2)⟩
    | succ j =>
      simp only [getL] at ht
      obtain ⟨v, v1, v2⟩ := k2 j t ht
      exact ⟨v, by rw [← v1]; congr 1; omega, v2⟩
  | [], _ :: _, h, _, _, _ => h.elim
  | _ :: _, [], h, _, _, _ => h.elim

/-- A call by a contract of the plain kind. -/
theorem CSpec.pure {P : Program} {f : FuncId} {args args' : List S} {r : S} {H : List O} (hp : PSpec P f args' r) (ha : leA args args') (hr : r.imm = true) {k : S → List O → Prop} (hk : k r H) : CSpec P f args H k := by
  intro K F μ w vs hw hA
  obtain ⟨l1, l2⟩ := leA_ok (o := 0) ha (fun j s hs => by simpa using hA.2 j s hs)
  refine (hp (K.with H μ w) F μ w vs (hw.aside μ) ⟨hA.1.trans l1, fun j s hs => by simpa using l2 j s hs⟩).mono ?_
  rintro e w' ⟨v, F', μ', s, H', rfl, h1, h2, h3, h4, rfl⟩
  exact ⟨v, F', μ, s, H, rfl, h1, hw.back h2 h1, Ext.refl H μ, immS hr h4, hk⟩

theorem CallN.pure {X : Cx} {f : FuncId} {args args' : List S} {r : S} {dst : Option Tmp} {ts : Ts} {H : List O} (hb : HasBody X.P f) (hp : PSpec X.P f args' r) (ha : leA args args') (hr : r.imm = true) {k : Ts → List O → Prop}
    (hk : forceS r fun s' => putK X.nt dst s' ts fun ts' => k ts' H) : CallN X f args dst ts H k :=
  CallN.spec hb (CSpec.pure hp ha hr (by rw [forceH_eq]; exact hk))

theorem CallG.pure {P : Program} {g : Bool} {f : FuncId} {args args' : List S} {r : S} {H : List O} (hb : HasBody P f) (hp : g = true → PSpec P f args' r) (ha : g = true → leA args args') (hr : r.imm = true) {k : S → List O → Prop} (hk : k r H) : CallG P g f args H k :=
  CallG.mk r (fun hg => ⟨hb, CSpec.pure (hp hg) (ha hg) hr ⟨rfl, rfl⟩⟩) hk

/-- A result that says more than is claimed. -/
theorem PSpec.le {P : Program} {f : FuncId} {args : List S} {r r' : S} (h : PSpec P f args r) (hr : r.imm = true) (hl : wkS (fun i => i) 0 r r') : PSpec P f args r' := by
  intro K F μ w vs hw hA
  refine (h K F μ w vs hw hA).mono ?_
  rintro e w' ⟨v, F', μ', s, H', rfl, h1, h2, h3, h4, rfl⟩
  have hw0 : HSat K F' [] μ w' := hw.back (K := K) (H := []) (by
    have : K.with [] μ w = K := by
      unfold Keep.with
      congr 1
      funext b
      rw [if_neg]
      rintro ⟨id, ⟨o, ho, _⟩, _⟩
      simp [getL] at ho
    rw [this]
    exact h2) h1
  exact ⟨v, F', μ, r', [], rfl, h1, hw0, Ext.refl [] μ, wkS_ok HWk.nil s r' hl v (immS hr h4), rfl⟩

end Go.Am
end

section
/- THE ABSTRACT MACHINE, PART 16: weakening, for use. -/
namespace Go.Am

abbrev idN : Nat → Nat := fun i => i

theorem wkC.imm {ρ : Nat → Nat} {n : Nat} {c : C} (h : c.imm = true) : wkC ρ n c c := by
  cases c with
  | ptr => cases h
  | ep => cases h
  | sl => cases h
  | mpr => cases h
  | fn f m g =>
    have : m = 0 := Nat.eq_of_beq_eq_true h
    exact ⟨rfl, rfl, fun j hj => by omega⟩
  | junk => trivial
  | _ => exact ⟨rfl, fun _ _ h => h⟩

theorem wkC.int {ρ : Nat → Nat} {n : Nat} {k : IntKind} {a b : Int} (h : a = b) : wkC ρ n (.int k a) (.int k b) := by subst h; exact wkC.imm rfl
theorem wkC.bool {ρ : Nat → Nat} {n : Nat} {a b : Bool} (h : a = b) : wkC ρ n (.bool a) (.bool b) := by subst h; exact wkC.imm rfl
theorem wkC.str {ρ : Nat → Nat} {n : Nat} {a b : ByteArray} (h : a = b) : wkC ρ n (.str a) (.str b) := by subst h; exact wkC.imm rfl
theorem wkC.ptr {n id o : Nat} (h : id < n) : wkC idN n (.ptr id o) (.ptr id o) := ⟨rfl, rfl, h⟩
theorem wkC.ep {n id i j t : Nat} (h : id < n) : wkC idN n (.ep id i j t) (.ep id i j t) := ⟨rfl, rfl, rfl, rfl, h⟩
theorem wkC.sl {n id es l t l' t' : Nat} {x x' : Bool} (h : id < n) (hl : l = l') (ht : t = t') (hx : x' = true → x = true) : wkC idN n (.sl id es l t x) (.sl id es l' t' x') := ⟨rfl, rfl, hl, ht, h, hx⟩
theorem wkC.isl {ρ : Nat → Nat} {n es m m' : Nat} {g g' : Nat → Nat → C} {t t' : Bool} (hm : m = m') (hg : ∀ i, i < m → ∀ j, j < es → g i j = g' i j) (ht : t' = true → t = true) : wkC ρ n (.isl es m g t) (.isl es m' g' t') := by
  subst hm
  refine ⟨rfl, fun F v ⟨a, cap, h1, h2, h3, h4, h5, h6⟩ => ⟨a, cap, h1, h2, h3, fun e => h4 (ht e), h5, ?_⟩⟩
  rcases h6 with h6 | ⟨b, off, h7, h8⟩
  · exact .inl h6
  · exact .inr ⟨b, off, h7, fun i hi j hj => by rw [← hg i hi j hj]; exact h8 i hi j hj⟩
theorem wkC.nil {ρ : Nat → Nat} {n es m : Nat} {g : Nat → Nat → C} {t : Bool} (hm : m = 0) : wkC ρ n .nils (.isl es m g t) := by
  subst hm
  exact ⟨rfl, fun F v h => ⟨none, 0, h, Nat.zero_le _, Nat.le_refl _, fun _ => rfl, fun _ => rfl, .inl rfl⟩⟩

theorem wkS.u {ρ : Nat → Nat} {n : Nat} {s : S} : wkS ρ n s .u := by cases s <;> trivial
theorem wkS.c {ρ : Nat → Nat} {n : Nat} {x y : C} (h : wkC ρ n x y) : wkS ρ n (.c x) (.c y) := h

def wkL (ρ : Nat → Nat) (n : Nat) : List C → List C → Prop
  | [], [] => True
  | x :: r, y :: r' => wkC ρ n x y ∧ wkL ρ n r r'
  | _, _ => False

theorem wkL_get {ρ : Nat → Nat} {n : Nat} : ∀ {xs ys : List C}, wkL ρ n xs ys → xs.length = ys.length ∧ ∀ (j : Nat) x y, getL xs j = some x → getL ys j = some y → wkC ρ n x y
  | [], [], _ => ⟨rfl, fun j x y h => by simp [getL] at h⟩
  | x :: r, y :: r', h => by
    obtain ⟨h1, h2⟩ := wkL_get h.2
    refine ⟨by simp [h1], fun j a b ha hb => ?_⟩
    cases j with
    | zero => simp only [getL, Option.some.injEq] at ha hb; subst ha; subst hb; exact h.1
    | succ j => simp only [getL] at ha hb; exact h2 j a b ha hb
  | [], _ :: _, h => h.elim
  | _ :: _, [], h => h.elim

theorem wkS.a {ρ : Nat → Nat} {n : Nat} {xs ys : List C} (h : wkL ρ n xs ys) : wkS ρ n (.a xs) (.a ys) := wkL_get h

theorem immL_wk {ρ : Nat → Nat} {n : Nat} : ∀ {xs : List C}, xs.all C.imm = true → wkL ρ n xs xs
  | [], _ => trivial
  | x :: r, h => by
    simp only [List.all_cons, Bool.and_eq_true] at h
    exact ⟨wkC.imm h.1, immL_wk h.2⟩

def wkTL (ρ : Nat → Nat) (n : Nat) : List (C ⊕ List C) → List (C ⊕ List C) → Prop
  | [], [] => True
  | .inl x :: r, .inl y :: r' => wkC ρ n x y ∧ wkTL ρ n r r'
  | .inr x :: r, .inr y :: r' => wkL ρ n x y ∧ wkTL ρ n r r'
  | _, _ => False

theorem wkTL_get {ρ : Nat → Nat} {n : Nat} : ∀ {xs ys : List (C ⊕ List C)}, wkTL ρ n xs ys → xs.length = ys.length ∧ ∀ (j : Nat) x y, getL xs j = some x → getL ys j = some y → wkE ρ n x y
  | [], [], _ => ⟨rfl, fun j x y h => by simp [getL] at h⟩
  | .inl x :: r, .inl y :: r', h => by
    obtain ⟨h1, h2⟩ := wkTL_get h.2
    refine ⟨by simp [h1], fun j a b ha hb => ?_⟩
    cases j with
    | zero => simp only [getL, Option.some.injEq] at ha hb; subst ha; subst hb; exact h.1
    | succ j => simp only [getL] at ha hb; exact h2 j a b ha hb
  | .inr x :: r, .inr y :: r', h => by
    obtain ⟨h1, h2⟩ := wkTL_get h.2
    refine ⟨by simp [h1], fun j a b ha hb => ?_⟩
    cases j with
    | zero => simp only [getL, Option.some.injEq] at ha hb; subst ha; subst hb; exact wkL_get h.1
    | succ j => simp only [getL] at ha hb; exact h2 j a b ha hb
  | [], _ :: _, h => h.elim
  | .inl _ :: _, [], h => h.elim
  | .inr _ :: _, [], h => h.elim
  | .inl _ :: _, .inr _ :: _, h => h.elim
  | .inr _ :: _, .inl _ :: _, h => h.elim

theorem wkS.t {ρ : Nat → Nat} {n : Nat} {xs ys : List (C ⊕ List C)} (h : wkTL ρ n xs ys) : wkS ρ n (.t xs) (.t ys) := wkTL_get h

theorem wkS.imm {ρ : Nat → Nat} {n : Nat} : ∀ {s : S}, s.imm = true → wkS ρ n s s
  | .u, _ => trivial
  | .c _, h => wkC.imm h
  | .a _, h => wkS.a (immL_wk h)
  | .t l, h => by
    refine wkS.t ?_
    have : ∀ l : List (C ⊕ List C), l.all E.imm = true → wkTL ρ n l l := by
      intro l
      induction l with
      | nil => intro _; trivial
      | cons x r ih =>
        intro h
        simp only [List.all_cons, Bool.and_eq_true] at h
        cases x with
        | inl c => exact ⟨wkC.imm h.1, ih h.2⟩
        | inr cs => exact ⟨immL_wk h.1, ih h.2⟩
    exact this l h
  | .lz _ s, h => ⟨rfl, wkS.imm (s := s) h⟩
  | .so .., h => by cases h

theorem O.wk.vr {ρ : Nat → Nat} {n : Nat} {xs ys : List C} (h : wkL ρ n xs ys) : O.wk ρ n (.vr xs) (.vr ys) := wkL_get h
theorem O.wk.arr {ρ : Nat → Nat} {n e es m m' : Nat} {g g' : Nat → Nat → C} (hm : m = m') (h : ∀ i, i < m → ∀ j, j < es → wkC ρ n (g i j) (g' i j)) : O.wk ρ n (.arr e es m g) (.arr e es m' g') := ⟨rfl, rfl, hm, h⟩

def HWkL (ρ : Nat → Nat) (n : Nat) : List O → List O → Prop
  | _, [] => True
  | o :: r, o' :: r' => O.wk ρ n o o' ∧ HWkL ρ n r r'
  | [], _ :: _ => False

theorem HWkL_get {n : Nat} : ∀ {H H' : List O}, HWkL idN n H H' → ∀ i o', getL H' i = some o' → ∃ o, getL H i = some o ∧ O.wk idN n o o'
  | _, [], _, i, o', h => by simp [getL] at h
  | o :: r, o' :: r', h, i, x, hx => by
    cases i with
    | zero => simp only [getL, Option.some.injEq] at hx; subst hx; exact ⟨o, rfl, h.1⟩
    | succ i => simp only [getL] at hx; simpa [getL] using HWkL_get h.2 i x hx
  | [], _ :: _, h, _, _, _ => h.elim

theorem Wk.mk' {n0 : Nat} {ts ts' : Ts} {H H' : List O} (n : Nat) (hn : H'.length = n) (h : HWkL idN n H H') (t : wkT idN n ts ts') (h0 : n0 ≤ n) : Wk n0 ts H ts' H' := by
  subst hn
  exact ⟨⟨fun i o' hi => HWkL_get h i o' hi, fun i j _ _ e => e⟩, t, h0⟩

theorem Mv.mk' {X : Cx} {ts ts' : Ts} {H H' : List O} (n : Nat) (hn : H'.length = n) (h : HWkL idN n H H') (t : wkT idN n ts ts') (h0 : X.n0 ≤ n) : Mv X ts H ts' H' := Mv.wk (Wk.mk' n hn h t h0)

theorem leA.cons {s s' : S} {r r' : List S} (h1 : s.imm = true) (h2 : wkS idN 0 s s') (h3 : leA r r') : leA (s :: r) (s' :: r') := ⟨⟨h1, h2⟩, h3⟩
theorem leA.refl : ∀ {l : List S}, l.all S.imm = true → leA l l
  | [], _ => trivial
  | s :: r, h => by
    simp only [List.all_cons, Bool.and_eq_true] at h
    exact ⟨⟨h.1, wkS.imm h.1⟩, leA.refl h.2⟩

end Go.Am
namespace Go.Am
theorem Br.lt {a b : Int} {x y : Prop} (h : a < b → x) (h' : b ≤ a → y) : Br (decide (a < b)) x y := Br.mk (fun e => h (by simpa using e)) (fun e => h' (by simpa using e))
theorem Br.le {a b : Int} {x y : Prop} (h : a ≤ b → x) (h' : b < a → y) : Br (decide (a ≤ b)) x y := Br.mk (fun e => h (by simpa using e)) (fun e => h' (by simpa using e))
theorem Br.gt {a b : Int} {x y : Prop} (h : b < a → x) (h' : a ≤ b → y) : Br (decide (a > b)) x y := Br.mk (fun e => h (by simpa using e)) (fun e => h' (by simpa using e))
theorem Br.ge {a b : Int} {x y : Prop} (h : b ≤ a → x) (h' : a < b → y) : Br (decide (a ≥ b)) x y := Br.mk (fun e => h (by simpa using e)) (fun e => h' (by simpa using e))
theorem Br.eq {a b : Int} {x y : Prop} (h : a = b → x) (h' : a ≠ b → y) : Br (a == b) x y := Br.mk (fun e => h (by simpa using e)) (fun e => h' (by simpa using e))
theorem Br.ne {a b : Int} {x y : Prop} (h : a ≠ b → x) (h' : a = b → y) : Br (a != b) x y := Br.mk (fun e => h (by simpa using e)) (fun e => h' (by simpa using e))
theorem Br.str {a b : ByteArray} {x y : Prop} (h : a = b → x) (h' : a ≠ b → y) : Br (decide (a = b)) x y := Br.mk (fun e => h (by simpa using e)) (fun e => h' (by simpa using e))
theorem Br.not {b : Bool} {x y : Prop} (h : b = false → x) (h' : b = true → y) : Br (!b) x y := Br.mk (fun e => h (by simpa using e)) (fun e => h' (by simpa using e))

/-- Frozen cells that say as much as others. -/
def leF (c c' : C) : Prop := ∀ F v, RepF F c v → RepF F c' v
theorem leF.refl {c : C} : leF c c := fun _ _ h => h
theorem leF.of_eq {c c' : C} (h : c = c') : leF c c' := by subst h; exact leF.refl
theorem leF.trans {a b c : C} (h : leF a b) (k : leF b c) : leF a c := fun F v x => k F v (h F v x)
theorem leF.nil {es m : Nat} {g : Nat → Nat → C} {t : Bool} (hm : m = 0) : leF .nils (.isl es m g t) := by
  subst hm
  exact fun F v h => ⟨none, 0, h, Nat.zero_le _, Nat.le_refl _, fun _ => rfl, fun _ => rfl, .inl rfl⟩
theorem leF.isl {es m m' : Nat} {g g' : Nat → Nat → C} {t t' : Bool} (hm : m = m') (hg : ∀ i, i < m → ∀ j, j < es → leF (g i j) (g' i j)) (ht : t' = true → t = true) : leF (.isl es m g t) (.isl es m' g' t') := by
  subst hm
  intro F v ⟨a, cap, h1, h2, h3, h4, h5, h6⟩
  refine ⟨a, cap, h1, h2, h3, fun e => h4 (ht e), h5, ?_⟩
  rcases h6 with h6 | ⟨b, off, h7, h8⟩
  · exact .inl h6
  · refine .inr ⟨b, off, h7, fun i hi j hj => ?_⟩
    obtain ⟨x, x1, x2⟩ := h8 i hi j hj
    exact ⟨x, x1, hg i hi j hj F x x2⟩
theorem leF.flag {es m : Nat} {g : Nat → Nat → C} {t : Bool} : leF (.isl es m g t) (.isl es m g false) := leF.isl rfl (fun _ _ _ _ => leF.refl) (fun e => by cases e)
theorem wkC.isl' {ρ : Nat → Nat} {n es m m' : Nat} {g g' : Nat → Nat → C} {t t' : Bool} (h : leF (.isl es m g t) (.isl es m' g' t')) : wkC ρ n (.isl es m g t) (.isl es m' g' t') := ⟨rfl, h⟩
theorem leA.nil : leA [] [] := trivial
end Go.Am
end

section
/- THE ABSTRACT MACHINE, PART 17: what an operation looks at. -/
namespace Go.Am

def idC : C → Option Nat
  | .ptr id _ => some id
  | .ep id _ _ _ => some id
  | .sl id _ _ _ _ => some id
  | .mpr id => some id
  | _ => none

def idS : S → Option Nat
  | .c x => idC x
  | .lz _ s => idS s
  | .so id _ _ _ _ => some id
  | _ => none

theorem idS_bare : ∀ {s s' : S} {p : List Prop}, bare s = (p, s') → idS s' = idS s
  | .lz g s, s', p, h => by
    simp only [bare] at h
    cases hb : bare s with
    | mk q t =>
      simp only [hb, Prod.mk.injEq] at h
      obtain ⟨_, rfl⟩ := h
      show idS t = idS s
      exact idS_bare hb
  | .u, _, _, h => by simp only [bare, Prod.mk.injEq] at h; obtain ⟨_, rfl⟩ := h; rfl
  | .c _, _, _, h => by simp only [bare, Prod.mk.injEq] at h; obtain ⟨_, rfl⟩ := h; rfl
  | .a _, _, _, h => by simp only [bare, Prod.mk.injEq] at h; obtain ⟨_, rfl⟩ := h; rfl
  | .t _, _, _, h => by simp only [bare, Prod.mk.injEq] at h; obtain ⟨_, rfl⟩ := h; rfl
  | .so .., _, _, h => by simp only [bare, Prod.mk.injEq] at h; obtain ⟨_, rfl⟩ := h; rfl

/-- What is there in one list of objects is there in the other, where it is looked at. -/
def Sees (H H' : List O) (id : Option Nat) : Prop := ∀ i, id = some i → ∀ o, getL H i = some o → getL H' i = some o

theorem loadK_mono {i : TI} {H H' : List O} {p : C} {r : List Prop × S} (h : loadK i H p = some r) (hs : Sees H H' (idC p)) : loadK i H' p = some r := by
  cases p with
  | ptr id off =>
    simp only [loadK] at h ⊢
    cases hg : getL H id with
    | none => simp [hg] at h
    | some o => rw [hs id rfl o hg]; rw [hg] at h; exact h
  | ep id k j tot =>
    simp only [loadK] at h ⊢
    cases hg : getL H id with
    | none => simp [hg] at h
    | some o => rw [hs id rfl o hg]; rw [hg] at h; exact h
  | _ => exact h

theorem nilOk_mono {H H' : List O} {c : C} {r : List Prop} (h : nilOk H c = some r) (hs : Sees H H' (idC c)) : nilOk H' c = some r := by
  cases c with
  | ep id k j tot =>
    simp only [nilOk] at h ⊢
    cases hg : getL H id with
    | none => simp [hg] at h
    | some o => rw [hs id rfl o hg]; rw [hg] at h; exact h
  | fn f n g => cases f <;> exact h
  | _ => exact h

theorem fieldN_mono {H H' : List O} {c : C} {r : List Prop} (h : fieldN H c = some r) (hs : Sees H H' (idC c)) : fieldN H' c = some r := by
  cases c with
  | ep id k j tot =>
    simp only [fieldN] at h ⊢
    cases hg : getL H id with
    | none => simp [hg] at h
    | some o => rw [hs id rfl o hg]; rw [hg] at h; exact h
  | _ => exact h

theorem indexK_mono {te : TI} {H H' : List O} {x : C} {i : Int} {r : List Prop × C} (h : indexK te H x i = some r) (hs : Sees H H' (idC x)) : indexK te H' x i = some r := by
  cases x with
  | sl id es len tot xq =>
    simp only [indexK] at h ⊢
    cases hb : Nat.beq es te.size with
    | false => simp [hb] at h
    | true =>
      simp only [hb] at h ⊢
      cases hg : getL H id with
      | none => simp [hg] at h
      | some o => rw [hs id rfl o hg]; rw [hg] at h; exact h
  | _ => exact h

theorem sliceO_mono {te : TI} {H H' : List O} {x : C} {lo hi mx : Option Int} {r : List Prop × S} (h : sliceO te H x lo hi mx = some r) (hs : Sees H H' (idC x)) : sliceO te H' x lo hi mx = some r := by
  cases x with
  | sl id es len tot xq =>
    simp only [sliceO] at h ⊢
    cases hb : Nat.beq es te.size with
    | false => simp [hb] at h
    | true =>
      simp only [hb] at h ⊢
      cases ho : getL H id with
      | none => simp [ho] at h
      | some o =>
        rw [hs id rfl o ho]
        rw [ho] at h
        exact h
  | _ => simp [sliceO] at h

theorem convC_mono {Γ : Env} {src dst : Nat} {H H' : List O} {x : C} {r : List Prop × C} (h : convC Γ src dst H x = some r) (hs : Sees H H' (idC x)) : convC Γ src dst H' x = some r := by
  cases x with
  | sl id es len tot xq =>
    simp only [convC] at h ⊢
    cases hg : getL H id with
    | none =>
      simp only [hg] at h
      repeat' split at h
      all_goals cases h
    | some o => rw [hs id rfl o hg]; rw [hg] at h; exact h
  | _ => exact h

theorem buildF_congr {Γ : Env} {fs : List (Nat × Nat)} {ts ts' : Ts} : ∀ (parts : List (Nat × Operand)) (cells : List C), (∀ x ∈ parts.map (·.2), opnd ts' x = opnd ts x) → buildF Γ fs ts' parts cells = buildF Γ fs ts parts cells
  | [], _, _ => rfl
  | (i, x) :: r, cells, h => by
    have hx : opnd ts' x = opnd ts x := h x (by simp)
    have ih : ∀ cells', buildF Γ fs ts' r cells' = buildF Γ fs ts r cells' := fun cells' => buildF_congr r cells' (fun y hy => h y (by simp at hy ⊢; exact .inr hy))
    simp only [buildF, hx, ih]

theorem needP_congr {ts ts' : Ts} : ∀ (parts : List (Nat × Operand)), (∀ x ∈ parts.map (·.2), opnd ts' x = opnd ts x) → needP ts' parts = needP ts parts
  | [], _ => rfl
  | (i, x) :: r, h => by
    have hx : opnd ts' x = opnd ts x := h x (by simp)
    simp only [needP, hx, needP_congr r (fun y hy => h y (by simp at hy ⊢; exact .inr hy))]

theorem buildA_congr {es : Nat} {ts ts' : Ts} : ∀ (parts : List (Nat × Operand)) (cells : List C), (∀ x ∈ parts.map (·.2), opnd ts' x = opnd ts x) → buildA es ts' parts cells = buildA es ts parts cells
  | [], _, _ => rfl
  | (i, x) :: r, cells, h => by
    have hx : opnd ts' x = opnd ts x := h x (by simp)
    have ih : ∀ cells', buildA es ts' r cells' = buildA es ts r cells' := fun cells' => buildA_congr r cells' (fun y hy => h y (by simp at hy ⊢; exact .inr hy))
    simp only [buildA, hx, ih]

theorem opndCs_congr {ts ts' : Ts} : ∀ (xs : List Operand), (∀ x ∈ xs, opnd ts' x = opnd ts x) → opndCs ts' xs = opndCs ts xs
  | [], _ => rfl
  | x :: r, h => by
    have hx : opnd ts' x = opnd ts x := h x (by simp)
    have ih := opndCs_congr r (fun y hy => h y (by simp [hy]))
    simp only [opndCs, hx, ih]

theorem optInt_congr {ts ts' : Ts} (x : Option Operand) (h : ∀ y ∈ x.toList, opnd ts' y = opnd ts y) : optInt ts' x = optInt ts x := by
  cases x with
  | none => rfl
  | some x => simp only [optInt, h x (by simp)]

theorem val_mono {Γ : Env} {ts ts' : Ts} {H H' : List O} {op : Op} {r : List Prop × S} (h : val Γ ts H op = some r) (he : ∀ x ∈ op.operands, opnd ts' x = opnd ts x) (hs : ∀ x ∈ op.operands, Sees H H' (idS (opnd ts x))) :
    val Γ ts' H' op = some r := by
  have B : ∀ {x : Operand} {p : List Prop} {c : C}, x ∈ op.operands → bare (opnd ts x) = (p, .c c) → Sees H H' (idC c) := by
    intro x p c hx hb
    have := idS_bare hb
    have h2 := hs x hx
    rw [← this] at h2
    exact h2
  unfold val at h ⊢
  split at h
  case h_1 x => simp only [he x (by simp [Op.operands])]; exact h
  case h_2 x => simp only [he x (by simp [Op.operands])]; exact h
  case h_3 c a b =>
    simp only [he c (by simp [Op.operands]), he a (by simp [Op.operands]), he b (by simp [Op.operands])]; exact h
  case h_13 t x ix ok =>
    simp only [he x (by simp [Op.operands]), he ix (by simp [Op.operands])]
    split at h
    · split at h
      · split at h
        · rename_i p id hb
          split at h
          split at h
          · split at h
            · split at h
              · rename_i hg
                have hg' := B (by simp [Op.operands]) hb id rfl _ hg
                simp_all
              · cases h
            · cases h
          · cases h
        · cases h
      · cases h
    · cases h
  case h_4 t a =>
    simp only [he a (by simp [Op.operands])]
    split at h
    · rename_i i hi
      split at h
      · rename_i p c hb
        try simp only [hb]
        split at h
        · rename_i q s hl
          rw [loadK_mono hl (B (x := a) (by simp [Op.operands]) hb)]
          exact h
        · cases h
      · cases h
    · cases h
  case h_5 x =>
    simp only [he x (by simp [Op.operands])]
    split at h
    · rename_i p c hb
      try simp only [hb]
      split at h
      · rename_i q hl
        rw [nilOk_mono hl (B (x := x) (by simp [Op.operands]) hb)]
        exact h
      · cases h
    · cases h
  case h_6 t x f =>
    simp only [he x (by simp [Op.operands])]
    split at h
    · rename_i o ho
      try simp only [ho]
      split at h
      · rename_i p c hb
        try simp only [hb]
        split at h
        · rename_i r' hr
          try simp only [hr]
          split at h
          · rename_i q hq
            rw [fieldN_mono hq (B (x := x) (by simp [Op.operands]) hb)]
            exact h
          · cases h
        · cases h
      · cases h
    · cases h
  case h_7 t x f => simp only [he x (by simp [Op.operands])]; exact h
  case h_8 t x i =>
    simp only [he x (by simp [Op.operands]), he i (by simp [Op.operands])]
    split at h
    · rename_i e te het
      try simp only [het]
      split at h
      · rename_i p x' hb
        try simp only [hb]
        split at h
        · rename_i q k i' hb2
          try simp only [hb2]
          split at h
          · rename_i r' c hc
            rw [indexK_mono hc (B (x := x) (by simp [Op.operands]) hb)]
            exact h
          · cases h
        · cases h
      · cases h
    · rename_i het
      try simp only [het]
      exact h
  case h_9 t x i => simp only [he x (by simp [Op.operands]), he i (by simp [Op.operands])]; exact h
  case h_10 o t x y yt => simp only [he x (by simp [Op.operands]), he y (by simp [Op.operands])]; exact h
  case h_11 o t x => simp only [he x (by simp [Op.operands])]; exact h
  case h_12 src dst x =>
    simp only [he x (by simp [Op.operands])]
    split at h
    · rename_i p c hb
      try simp only [hb]
      split at h
      · rename_i q v hl
        rw [convC_mono hl (B (x := x) (by simp [Op.operands]) hb)]
        exact h
      · cases h
    · cases h
  case h_14 x i => simp only [he x (by simp [Op.operands])]; exact h
  case h_15 t parts =>
    have : buildV Γ ts' t parts.toList = buildV Γ ts t parts.toList := by
      unfold buildV
      have := fun fs cells => buildF_congr (Γ := Γ) (fs := fs) parts.toList cells (fun x hx => he x (by simpa [Op.operands] using hx))
      have this2 := fun es cells => buildA_congr (es := es) parts.toList cells (fun x hx => he x (by simpa [Op.operands] using hx))
      simp only [this, this2]
    have this3 : needP ts' parts.toList = needP ts parts.toList := needP_congr _ (fun x hx => he x (by simpa [Op.operands] using hx))
    simp only [this, this3]; exact h
  case h_16 f first captured =>
    have : opndCs ts' captured.toList = opndCs ts captured.toList := opndCs_congr _ (fun x hx => he x (by simp only [Op.operands, Array.mem_append]; right; simpa using hx))
    simp only [this]; exact h
  case h_17 t x lo hi mx =>
    have h1 : optInt ts' lo = optInt ts lo := optInt_congr lo (fun y hy => he y (by simp only [Op.operands, Array.mem_append]; left; left; right; simpa using hy))
    have h2 : optInt ts' hi = optInt ts hi := optInt_congr hi (fun y hy => he y (by simp only [Op.operands, Array.mem_append]; left; right; simpa using hy))
    have h3 : optInt ts' mx = optInt ts mx := optInt_congr mx (fun y hy => he y (by simp only [Op.operands, Array.mem_append]; right; simpa using hy))
    simp only [he x (by simp [Op.operands]), h1, h2, h3]
    split at h
    · rename_i p x' hb
      try simp only [hb]
      split at h
      · rename_i p1 lo' hlo
        try simp only [hlo]
        split at h
        · rename_i p2 hi' hhi
          try simp only [hhi]
          split at h
          · rename_i p3 mx' hmx
            try simp only [hmx]
            cases x' with
            | sl id es len tot xq =>
              simp only at h ⊢
              split at h
              · rename_i e te het
                try simp only [het]
                split at h
                · rename_i q s0 hso
                  rw [sliceO_mono hso (B (x := x) (by simp [Op.operands]) hb)]
                  exact h
                · cases h
              · cases h
            | _ => exact h
          · cases h
        · cases h
      · cases h
    · cases h
  case h_18 args argTypes =>
    split at h
    · rename_i x hargs
      have hx : x ∈ (Op.call { callee := .builtin .len, args, argTypes }).operands := by
        have ha : args = #[x] := by apply Array.toList_inj.1; simpa using hargs
        subst ha
        simp [Op.operands, Call.operands]
      try simp only [hargs]
      split at h
      · rename_i t ht
        try simp only [ht]
        try simp only [he x hx]
        split at h
        · rename_i p c hb
          try simp only [hb]
          split at h
          · rename_i n hn
            try simp only [hn]
            have hsee := B hx hb
            split at h
            · exact h
            · rename_i id es len tot xq
              split at h
              · rename_i pr hpr
                try simp only [hpr]
                split at h
                · rename_i hg
                  rw [hsee id rfl _ hg]
                  exact h
                · cases h
              · cases h
            · exact h
          · rename_i hn
            try simp only [hn]
            have hsee := B hx hb
            split at h
            · rename_i id
              split at h
              · rename_i hg
                have hg' := hsee id rfl _ hg
                simp_all
              · cases h
            · cases h
        · cases h
      · cases h
    · cases h
  case h_19 args argTypes =>
    split at h
    · rename_i x y hargs
      have ha : args = #[x, y] := by apply Array.toList_inj.1; simpa using hargs
      subst ha
      simp only [he x (by simp [Op.operands, Call.operands]), he y (by simp [Op.operands, Call.operands])]; exact h
    · cases h
  case h_20 args argTypes =>
    split at h
    · rename_i x y hargs
      have ha : args = #[x, y] := by apply Array.toList_inj.1; simpa using hargs
      subst ha
      simp only [he x (by simp [Op.operands, Call.operands]), he y (by simp [Op.operands, Call.operands])]; exact h
    · cases h
  case h_21 => cases h

theorem eff_congr {Γ : Env} {ts ts' : Ts} {H : List O} {op : Op} (he : ∀ x ∈ op.operands, opnd ts' x = opnd ts x) : eff Γ ts' H op = eff Γ ts H op := by
  unfold eff
  split
  · rfl
  · rename_i t x; simp only [he x (by simp [Op.operands])]
  · rename_i t a x; simp only [he x (by simp [Op.operands]), he a (by simp [Op.operands])]
  · rename_i t l c; simp only [he l (by simp [Op.operands]), he c (by simp [Op.operands])]
  · rename_i t len parts
    have : ∀ e te, buildSK e te ts' H len parts.toList = buildSK e te ts H len parts.toList := by
      intro e te
      unfold buildSK
      have key : ∀ (ps : List (Nat × Operand)) (cells : List C), (∀ x ∈ ps.map (·.2), opnd ts' x = opnd ts x) → buildP te.size ts' ps cells = buildP te.size ts ps cells := by
        intro ps
        induction ps with
        | nil => intro cells _; rfl
        | cons p ps ih =>
          intro cells h
          obtain ⟨i, x⟩ := p
          have hx : opnd ts' x = opnd ts x := h x (by simp)
          have ih' : ∀ cells', buildP te.size ts' ps cells' = buildP te.size ts ps cells' := fun cells' => ih cells' (fun y hy => h y (by simp at hy ⊢; exact .inr hy))
          simp only [buildP, hx, ih']
      rw [key _ _ (fun x hx => he x (by simpa [Op.operands] using hx))]
    have this2 : needP ts' parts.toList = needP ts parts.toList := by
      have key : ∀ (ps : List (Nat × Operand)), (∀ x ∈ ps.map (·.2), opnd ts' x = opnd ts x) → needP ts' ps = needP ts ps := by
        intro ps
        induction ps with
        | nil => intro _; rfl
        | cons p ps ih =>
          intro h
          obtain ⟨i, x⟩ := p
          have hx : opnd ts' x = opnd ts x := h x (by simp)
          simp only [needP, hx, ih (fun y hy => h y (by simp at hy ⊢; exact .inr hy))]
      exact key _ (fun x hx => he x (by simpa [Op.operands] using hx))
    simp only [this, this2]
  · rename_i args argTypes
    split
    · rename_i x y hargs
      have ha : args = #[x, y] := by apply Array.toList_inj.1; simpa using hargs
      subst ha
      simp only [he x (by simp [Op.operands, Call.operands]), he y (by simp [Op.operands, Call.operands])]
    · rfl
  · rename_i args argTypes
    split
    · rename_i x y hargs
      have ha : args = #[x, y] := by apply Array.toList_inj.1; simpa using hargs
      subst ha
      simp only [he x (by simp [Op.operands, Call.operands]), he y (by simp [Op.operands, Call.operands])]
    · rfl
  · rename_i args argTypes
    split
    · rename_i x hargs
      have ha : args = #[x] := by apply Array.toList_inj.1; simpa using hargs
      subst ha
      simp only [he x (by simp [Op.operands, Call.operands])]
    · rfl
  · rfl
  · rename_i t m k x; simp only [putMK, he m (by simp [Op.operands]), he k (by simp [Op.operands]), he x (by simp [Op.operands])]
  · rename_i t m k x; simp only [putMK, he m (by simp [Op.operands]), he k (by simp [Op.operands]), he x (by simp [Op.operands])]
  · rename_i args argTypes
    split
    · rename_i x y hargs
      have ha : args = #[x, y] := by apply Array.toList_inj.1; simpa using hargs
      subst ha
      simp only [delMK, he x (by simp [Op.operands, Call.operands]), he y (by simp [Op.operands, Call.operands])]
    · rfl
  · rfl

theorem argsK_congr {ts ts' : Ts} : ∀ (xs : List Operand), (∀ x ∈ xs, opnd ts' x = opnd ts x) → argsK ts' xs = argsK ts xs
  | [], _ => rfl
  | x :: r, h => by
    have hx : opnd ts' x = opnd ts x := h x (by simp)
    have ih := argsK_congr r (fun y hy => h y (by simp [hy]))
    simp only [argsK, hx, ih]

theorem callOf_congr {ts ts' : Ts} {op : Op} (he : ∀ x ∈ op.operands, opnd ts' x = opnd ts x) : callOf ts' op = callOf ts op := by
  unfold callOf
  split
  · rename_i f args argTypes
    have h1 : opnd ts' f = opnd ts f := he f (by simp [Op.operands, Call.operands])
    have h2 : argsK ts' args.toList = argsK ts args.toList := argsK_congr _ (fun x hx => he x (by simp only [Op.operands, Call.operands, Array.mem_append]; right; simpa using hx))
    simp only [h1, h2]
  · rfl

end Go.Am
end

section
/- THE ABSTRACT MACHINE, PART 17, beside: an array is frozen. -/
namespace Go.Am

def fzC (id n : Nat) (g : Nat → Nat → C) : C → C
  | .sl a es l t x => match Nat.beq a id with
    | true => match Nat.beq t n with
      | true => .isl es l g (Nat.beq l t && x)
      | false => .junk
    | false => .sl a es l t x
  | .ep a i j t => match Nat.beq a id with
    | true => .junk
    | false => .ep a i j t
  | .fn f m get => .fn f m fun j => fzC id n g (get j)
  | c => c

def fzL (id n : Nat) (g : Nat → Nat → C) : List C → List C
  | [] => []
  | x :: r => fzC id n g x :: fzL id n g r

def fzE (id n : Nat) (g : Nat → Nat → C) : C ⊕ List C → C ⊕ List C
  | .inl x => .inl (fzC id n g x)
  | .inr xs => .inr (fzL id n g xs)

def fzEL (id n : Nat) (g : Nat → Nat → C) : List (C ⊕ List C) → List (C ⊕ List C)
  | [] => []
  | x :: r => fzE id n g x :: fzEL id n g r

def fzS (id n : Nat) (g : Nat → Nat → C) : S → S
  | .u => .u
  | .c x => .c (fzC id n g x)
  | .a xs => .a (fzL id n g xs)
  | .t l => .t (fzEL id n g l)
  | .lz b s => .lz b (fzS id n g s)
  | .so .. => .u

def fzO (id n : Nat) (g : Nat → Nat → C) : O → O
  | .vr cs => .vr (fzL id n g cs)
  | .arr e es m h => .arr e es m fun i j => fzC id n g (h i j)
  | .dead => .dead
  | .mp sh z va ks val => .mp sh z va ks val

def fzHL (id n : Nat) (g : Nat → Nat → C) : List O → List O
  | [] => []
  | o :: r => fzO id n g o :: fzHL id n g r

def fzHK (id n : Nat) (g : Nat → Nat → C) : Nat → List O → List O
  | _, [] => []
  | 0, _ :: r => .dead :: fzHL id n g r
  | k + 1, o :: r => fzO id n g o :: fzHK id n g k r

def fzH (id n : Nat) (g : Nat → Nat → C) (H : List O) : List O := fzHK id n g id H

def fzT (id n : Nat) (g : Nat → Nat → C) : Ts → Ts
  | [] => []
  | (t, s) :: r => (t, fzS id n g s) :: fzT id n g r

def fzA (id n : Nat) (g : Nat → Nat → C) : List S → List S
  | [] => []
  | s :: r => fzS id n g s :: fzA id n g r

section
variable {id n : Nat} {g : Nat → Nat → C}

theorem fzL_len : ∀ l : List C, (fzL id n g l).length = l.length
  | [] => rfl
  | _ :: r => by simp [fzL, fzL_len r]
theorem fzL_get : ∀ (l : List C) (j : Nat), getL (fzL id n g l) j = (getL l j).map (fzC id n g)
  | [], _ => rfl
  | _ :: _, 0 => rfl
  | _ :: r, j + 1 => by simp only [fzL, getL]; exact fzL_get r j
theorem fzEL_len : ∀ l : List (C ⊕ List C), (fzEL id n g l).length = l.length
  | [] => rfl
  | _ :: r => by simp [fzEL, fzEL_len r]
theorem fzEL_get : ∀ (l : List (C ⊕ List C)) (j : Nat), getL (fzEL id n g l) j = (getL l j).map (fzE id n g)
  | [], _ => rfl
  | _ :: _, 0 => rfl
  | _ :: r, j + 1 => by simp only [fzEL, getL]; exact fzEL_get r j
theorem fzA_len : ∀ l : List S, (fzA id n g l).length = l.length
  | [] => rfl
  | _ :: r => by simp [fzA, fzA_len r]
theorem fzA_get : ∀ (l : List S) (j : Nat), getL (fzA id n g l) j = (getL l j).map (fzS id n g)
  | [], _ => rfl
  | _ :: _, 0 => rfl
  | _ :: r, j + 1 => by simp only [fzA, getL]; exact fzA_get r j
theorem fzHL_get : ∀ (l : List O) (j : Nat), getL (fzHL id n g l) j = (getL l j).map (fzO id n g)
  | [], _ => rfl
  | _ :: _, 0 => rfl
  | _ :: r, j + 1 => by simp only [fzHL, getL]; exact fzHL_get r j
theorem fzHL_len : ∀ l : List O, (fzHL id n g l).length = l.length
  | [] => rfl
  | _ :: r => by simp [fzHL, fzHL_len r]
theorem fzHK_len : ∀ (k : Nat) (l : List O), (fzHK id n g k l).length = l.length
  | 0, [] => rfl
  | _ + 1, [] => rfl
  | 0, _ :: r => by simp [fzHK, fzHL_len r]
  | k + 1, _ :: r => by simp [fzHK, fzHK_len k r]
theorem fzHK_get : ∀ (k : Nat) (l : List O) (j : Nat), getL (fzHK id n g k l) j = (getL l j).map fun o => if j = k then .dead else fzO id n g o
  | 0, [], _ => rfl
  | _ + 1, [], _ => rfl
  | 0, _ :: _, 0 => rfl
  | 0, _ :: r, j + 1 => by simp [fzHK, getL, fzHL_get]
  | k + 1, _ :: r, 0 => by simp [fzHK, getL]
  | k + 1, _ :: r, j + 1 => by simp only [fzHK, getL, fzHK_get k r j]; simp
theorem fzH_get (H : List O) (j : Nat) : getL (fzH id n g H) j = (getL H j).map fun o => if j = id then .dead else fzO id n g o := fzHK_get id H j
theorem find_fzT : ∀ (ts : Ts) (t : Nat), find t (fzT id n g ts) = fzS id n g (find t ts)
  | [], _ => rfl
  | (u, s) :: r, t => by
    simp only [fzT, find]
    cases Nat.beq u t with
    | true => rfl
    | false => exact find_fzT r t

/-- What is now frozen. -/
noncomputable def fzM (F : Mem) (H : List O) (μ : Nat → Value) (w : World) (id : Nat) : Mem := open Classical in fun b => if owned H μ id b then w.heap[b]? else F b

variable {K : Keep} {F : Mem} {H : List O} {μ : Nat → Value} {w : World} {e es : Nat}

theorem fzM_le (hw : HSat K F H μ w) : F.le (fzM F H μ w id) := by
  intro b o h
  simp only [fzM]
  split
  · rename_i ho
    rw [(hw.sp id b ho).1] at h
    cases h
  · exact h

theorem fzC_ok (hw : HSat K F H μ w) (hid : getL H id = some (.arr e es n g)) (him : ∀ i, i < n → ∀ j, j < es → (g i j).imm = true) : ∀ (c : C) (v : Value), RepC F H μ c v → RepC (fzM F H μ w id) (fzH id n g H) μ (fzC id n g c) v := by
  have hle := fzM_le (id := id) hw
  intro c
  induction c with
  | ptr a off =>
    intro v hv
    obtain ⟨⟨cs, h1⟩, b, h2, h3⟩ := hv
    refine ⟨⟨fzL id n g cs, ?_⟩, b, h2, h3⟩
    rw [fzH_get, h1]
    have : a ≠ id := fun q => by subst q; rw [hid] at h1; cases h1
    simp [this, fzO]
  | ep a i j t =>
    intro v hv
    simp only [fzC]
    split
    · exact RepC.one _ _ hv
    · rename_i hb
      have hne : a ≠ id := fun q => by subst q; simp at hb
      obtain ⟨h0, e', es', m, g', h1, h2, h3⟩ := hv
      exact ⟨h0, e', es', m, fun i j => fzC id n g (g' i j), by rw [fzH_get, h1]; simp only [Option.map_some, if_neg hne, fzO], h2, h3⟩
  | sl a es' l t x =>
    intro v hv
    simp only [fzC]
    split
    · rename_i hb
      have : a = id := Nat.eq_of_beq_eq_true hb
      subst this
      split
      · rename_i ht
        have : t = n := Nat.eq_of_beq_eq_true ht
        subst this
        obtain ⟨h0, e', n', g', h1, h2, h3, h4⟩ := hv
        rw [hid] at h1
        cases h1
        obtain ⟨a', cap, q1, q2, q3⟩ := h4 rfl
        obtain ⟨xs, ⟨r1, r2⟩, r3, r4, r5⟩ := hw.ob a _ hid
        show RepF _ _ _
        rcases r2 with ⟨s1, s2⟩ | ⟨b, cap', cur, s1, _, s3, s4, s5, s6, s7⟩
        · rw [q1] at s1
          cases s1
          exact ⟨none, 0, q2, by omega, by omega, fun _ => by omega, fun _ => rfl, .inl (by omega)⟩
        · rw [q1] at s1
          cases s1
          refine ⟨_, _, q2, by omega, by omega, fun q => ?_, fun q => (by cases q), .inr ⟨b, 0, rfl, fun i hi j hj => ?_⟩⟩
          · simp only [Bool.and_eq_true] at q
            have := Nat.eq_of_beq_eq_true q.1
            rw [q3 q.2, this]
          · obtain ⟨y, y1, y2⟩ := r4 i (by omega) j hj
            have hlt : i * es + j < t * es := Nat.lt_of_lt_of_le (show i * es + j < (i + 1) * es by rw [Nat.add_mul]; omega) (Nat.mul_le_mul_right es (by omega))
            refine ⟨y, ?_, RepF.mono hle _ _ (imm_rep (him i (by omega) j hj) y2)⟩
            simp only [Mem.cell, fzM]
            rw [if_pos (show owned H μ a b from ⟨⟨_, hid, by simp⟩, by rw [q1]; rfl⟩), s3]
            simp only [Nat.zero_add]
            rw [← s7] at y1
            rw [List.getElem?_take_of_lt (by simpa using hlt)] at y1
            simpa using y1
      · exact RepC.one _ _ hv
    · rename_i hb
      have hne : a ≠ id := fun q => by subst q; simp at hb
      obtain ⟨h0, e', m, g', h1, h2, h3, h4⟩ := hv
      exact ⟨h0, e', m, fun i j => fzC id n g (g' i j), by rw [fzH_get, h1]; simp only [Option.map_some, if_neg hne, fzO], h2, h3, h4⟩
  | fn f m get ih =>
    intro v hv
    obtain ⟨cs, h1, h2, h3⟩ := hv
    refine ⟨cs, h1, h2, fun j hj => ?_⟩
    obtain ⟨x, x1, x2⟩ := h3 j hj
    exact ⟨x, x1, ih j x x2⟩
  | mpr a =>
    intro v hv
    obtain ⟨⟨sh, z, va, ks, val, h1⟩, b, h2, h3⟩ := hv
    refine ⟨⟨sh, z, va, ks, val, ?_⟩, b, h2, h3⟩
    rw [fzH_get, h1]
    have : a ≠ id := fun q => by subst q; rw [hid] at h1; cases h1
    simp [this, fzO]
  | _ => intro v hv; exact RepF.mono hle _ v hv

theorem fzL_ok (hw : HSat K F H μ w) (hid : getL H id = some (.arr e es n g)) (him : ∀ i, i < n → ∀ j, j < es → (g i j).imm = true) {xs : List C} {cs : Array Value} (h : RepL F H μ xs cs) :
    RepL (fzM F H μ w id) (fzH id n g H) μ (fzL id n g xs) cs := by
  refine ⟨by rw [fzL_len]; exact h.1, fun j x hx => ?_⟩
  rw [fzL_get] at hx
  cases hy : getL xs j with
  | none => rw [hy] at hx; cases hx
  | some y =>
    rw [hy] at hx
    cases hx
    obtain ⟨v, v1, v2⟩ := h.2 j y hy
    exact ⟨v, v1, fzC_ok hw hid him y v v2⟩

theorem fzS_ok (hw : HSat K F H μ w) (hid : getL H id = some (.arr e es n g)) (him : ∀ i, i < n → ∀ j, j < es → (g i j).imm = true) : ∀ {s : S} {v : Value}, RepS F H μ s v → RepS (fzM F H μ w id) (fzH id n g H) μ (fzS id n g s) v
  | .u, _, _ => trivial
  | .c x, v, h => fzC_ok hw hid him x v h
  | .a _, _, ⟨cs, h1, h2⟩ => ⟨cs, h1, fzL_ok hw hid him h2⟩
  | .t l, _, ⟨vs, h1, h2, h3⟩ => by
    refine ⟨vs, h1, by rw [fzEL_len]; exact h2, fun j x hx => ?_⟩
    rw [fzEL_get] at hx
    cases hy : getL l j with
    | none => rw [hy] at hx; cases hx
    | some y =>
      rw [hy] at hx
      cases hx
      obtain ⟨u, u1, u2⟩ := h3 j y hy
      refine ⟨u, u1, ?_⟩
      cases y with
      | inl c => exact fzC_ok hw hid him c u u2
      | inr cs => obtain ⟨k, k1, k2⟩ := u2; exact ⟨k, k1, fzL_ok hw hid him k2⟩
  | .lz _ s, _, h => ⟨fun hg => fzS_ok hw hid him (s := s) (h.1 hg), h.2⟩
  | .so .., _, _ => trivial

theorem fzH_ok (hw : HSat K F H μ w) (hid : getL H id = some (.arr e es n g)) (him : ∀ i, i < n → ∀ j, j < es → (g i j).imm = true) : HSat K (fzM F H μ w id) (fzH id n g H) μ w := by
  have own : ∀ i b, owned (fzH id n g H) μ i b → i ≠ id ∧ owned H μ i b := by
    intro i b ⟨⟨o, o1, o2⟩, hb⟩
    rw [fzH_get] at o1
    cases ho : getL H i with
    | none => rw [ho] at o1; cases o1
    | some p =>
      rw [ho] at o1
      simp only [Option.map_some, Option.some.injEq] at o1
      by_cases hi : i = id
      · rw [if_pos hi] at o1; exact absurd o1.symm o2
      · refine ⟨hi, ⟨p, ho, fun q => ?_⟩, hb⟩
        subst q
        rw [if_neg hi] at o1
        exact o2 o1.symm
  refine ⟨hw.os, hw.tape, hw.output, fun b o hb => ?_, hw.kp, fun i o hi => ?_, fun i b hb => ?_, fun i j b hi hj => hw.ij i j b (own i b hi).2 (own j b hj).2, fun b o hb => ?_⟩
  · simp only [fzM] at hb
    split at hb
    · exact hb
    · exact hw.fr b o hb
  · rw [fzH_get] at hi
    cases ho : getL H i with
    | none => rw [ho] at hi; cases hi
    | some p =>
      rw [ho] at hi
      simp only [Option.map_some, Option.some.injEq] at hi
      by_cases hx : i = id
      · rw [if_pos hx] at hi; subst hi; trivial
      · rw [if_neg hx] at hi
        subst hi
        have hp := hw.ob i p ho
        cases p with
        | vr cs =>
          obtain ⟨b, c, T, h1, h2, h3⟩ := hp
          exact ⟨b, c, T, h1, h2, fzL_ok hw hid him h3⟩
        | arr e' es' m g' =>
          obtain ⟨xs, h1, h2, h3, h4⟩ := hp
          refine ⟨xs, h1, h2, fun k hk j hj => ?_, h4⟩
          obtain ⟨v, v1, v2⟩ := h3 k hk j hj
          exact ⟨v, v1, fzC_ok hw hid him _ v v2⟩
        | dead => trivial
        | mp sh z va ks val =>
          obtain ⟨b, es', ck, h1, h2, h3⟩ := hp
          exact ⟨b, es', ck, h1, h2, h3.1.mono (fzM_le hw), h3.2⟩
  · obtain ⟨h1, h2⟩ := own i b hb
    refine ⟨?_, (hw.sp i b h2).2⟩
    simp only [fzM]
    rw [if_neg (fun q => h1 (hw.ij i id b h2 q))]
    exact (hw.sp i b h2).1
  · simp only [fzM] at hb
    split at hb
    · rename_i ho
      exact (hw.sp id b ho).2
    · exact hw.dj b o hb

theorem Ext.fz {H0 : List O} {μ0 : Nat → Value} (h : Ext H0 μ0 H μ) (hid : H0.length ≤ id) : Ext H0 μ0 (fzH id n g H) μ := by
  refine ⟨fun a cs ha => ?_, fun a e es m g' ha => ?_, fun a sh z va ks val ha => ?_⟩
  · have := getL_lt ha
    obtain ⟨⟨cs', h1⟩, h2⟩ := h.1 a cs ha
    exact ⟨⟨fzL id n g cs', by rw [fzH_get, h1]; simp only [Option.map_some, if_neg (show ¬ a = id by omega), fzO]⟩, h2⟩
  · have := getL_lt ha
    obtain ⟨n', g'', h1, h2, h3⟩ := h.2.1 a e es m g' ha
    exact ⟨n', fun i j => fzC id n g (g'' i j), by rw [fzH_get, h1]; simp only [Option.map_some, if_neg (show ¬ a = id by omega), fzO], h2, h3⟩
  · have := getL_lt ha
    obtain ⟨⟨ks', val', h1⟩, h2⟩ := h.2.2 a sh z va ks val ha
    exact ⟨⟨ks', val', by rw [fzH_get, h1]; simp only [Option.map_some, if_neg (show ¬ a = id by omega), fzO]⟩, h2⟩

end
end Go.Am
end

section
/- THE ABSTRACT MACHINE, PART 18: a region whose order is open, walked once in the text's order. -/
namespace Go.Am

/-- A node: a call, in a region whose order is open. -/
inductive CallP (P : Program) (g : Bool) (f : FuncId) (args : List S) (k : S → Prop) : Prop
  | intro (args' : List S) (r : S) (hb : HasBody P f) (hp : g = true → PSpec P f args' r) (ha : g = true → leA args args') (hr : r.imm = true) (hk : k r) : CallP P g f args k

theorem CallP.mk {P : Program} {f : FuncId} {args args' : List S} {r : S} (hb : HasBody P f) (hp : PSpec P f args' r) (ha : leA args args') (hr : r.imm = true) {k : S → Prop} (hk : k r) : CallP P true f args k :=
  ⟨args', r, hb, fun _ => hp, fun _ => ha, hr, hk⟩
theorem CallP.mkG {P : Program} {g : Bool} {f : FuncId} {args args' : List S} {r : S} (hb : HasBody P f) (hp : g = true → PSpec P f args' r) (ha : g = true → leA args args') (hr : r.imm = true) {k : S → Prop} (hk : k r) : CallP P g f args k :=
  ⟨args', r, hb, hp, ha, hr, hk⟩
theorem CallP.out {P : Program} {g : Bool} {f : FuncId} {args : List S} {k : S → Prop} (h : CallP P g f args k) : ∃ args' r, HasBody P f ∧ (g = true → PSpec P f args' r) ∧ (g = true → leA args args') ∧ r.imm = true ∧ k r := by
  obtain ⟨args', r, h1, h2, h3, h4, h5⟩ := h
  exact ⟨args', r, h1, h2, h3, h4, h5⟩

/-- Is what is tracked changed by this operation? -/
def isEff : Op → Bool
  | .alloc _ | .box .. | .store .. | .makeSlice .. | .buildSlice .. | .makeMap .. | .mapUpdate .. | .insert .. => true
  | .call { callee := .builtin .append, .. } | .call { callee := .builtin .copy, .. } | .call { callee := .builtin .delete, .. } | .call { callee := .builtin .clear, .. } => true
  | _ => false

/-- Does it only add to it? -/
def isNew : Op → Bool
  | .alloc _ | .box .. | .makeSlice .. | .buildSlice .. | .makeMap .. => true
  | _ => false

def memN : List Nat → Nat → Bool
  | [], _ => false
  | x :: r, n => Nat.beq x n || memN r n

/-- Is it a call of a function, out of this list, that changes what is tracked? -/
def effCall (E : List Nat) : Op → Bool
  | .call { callee := .value (.func f), .. } => memN E f
  | _ => false

/-- With this number in the list, a slice literal is a value (frozen as soon as it is there). -/
def litN : Nat := 4294967296

def isLit (E : List Nat) : Op → Bool
  | .buildSlice _ len _ => memN E litN && Nat.blt 0 len
  | .makeSlice .. => memN E litN
  | _ => false

/-- With this number in the list, an append to a slice of the call's own may be one to a slice that was cut. -/
def cutN : Nat := 4294967297
/-- With this one too, the slice is one without room, and stays as it is. -/
def fulN : Nat := 4294967298

def effE (E : List Nat) (Γ : Env) (ts : Ts) (H : List O) (op : Op) : Option (List Prop × S × List O) :=
  match memN E cutN with
  | true => match cutApp (memN E fulN) Γ ts H op with
    | some r => some r
    | none => eff Γ ts H op
  | false => eff Γ ts H op

theorem effE_cases {E : List Nat} {Γ : Env} {ts : Ts} {H : List O} {op : Op} {r : List Prop × S × List O} (h : effE E Γ ts H op = some r) : eff Γ ts H op = some r ∨ ∃ md, cutApp md Γ ts H op = some r := by
  unfold effE at h
  split at h
  · split at h
    · rename_i hc
      cases h
      exact .inr ⟨_, hc⟩
    · exact .inl h
  · exact .inl h

theorem cutApp_congr {md : Bool} {Γ : Env} {ts ts' : Ts} {H : List O} {op : Op} (he : ∀ x ∈ op.operands, opnd ts' x = opnd ts x) : cutApp md Γ ts' H op = cutApp md Γ ts H op := by
  unfold cutApp
  split
  · rename_i args argTypes
    split
    · rename_i x y hargs
      have ha : args = #[x, y] := by apply Array.toList_inj.1; simpa using hargs
      subst ha
      simp only [he x (by simp [Op.operands, Call.operands]), he y (by simp [Op.operands, Call.operands])]
    · rfl
  · rfl

theorem effE_congr {E : List Nat} {Γ : Env} {ts ts' : Ts} {H : List O} {op : Op} (he : ∀ x ∈ op.operands, opnd ts' x = opnd ts x) : effE E Γ ts' H op = effE E Γ ts H op := by
  unfold effE
  rw [eff_congr he, cutApp_congr he]

theorem effE_ok {P : Program} {Γ : Env} (hΓ : EnvOk P Γ) {E : List Nat} {K : Keep} {F : Mem} {H H' : List O} {μ : Nat → Value} {w : World} (hw : HSat K F H μ w) {ts : Ts} {a : Act} (hT : TSat F H μ ts a.tmps) (o : Oper) {ns : List Prop} {s : S}
    (h : effE E Γ ts H o.op = some (ns, s, H')) (hn : ∀ q ∈ ns, q) :
    ∃ nx w' μ', (execOp a.eval o).run P w = .ok nx w' ∧ (nx = .skip ∨ ∃ v, nx = .value v) ∧ HSat K F H' μ' w' ∧ Ext H μ H' μ' ∧ RepS F H' μ' s (nextVal nx) := by
  rcases effE_cases h with h | ⟨_, h⟩
  · exact eff_ok hΓ hw hT o h hn
  · exact cutApp_ok hΓ hw hT o h hn

def isE (E : List Nat) (o : Oper) : Bool := (isEff o.op && !isLit E o.op) || effCall E o.op

def immO (s : S) : S := match s.imm with
  | true => s
  | false => .u

def immT : Ts → Ts
  | [] => []
  | (t, s) :: r => (t, immO s) :: immT r

def allI : Nat → (Nat → Bool) → Bool
  | 0, _ => true
  | n + 1, p => p n && allI n p

/-- What a literal is, frozen. -/
def litV (Γ : Env) (ts : Ts) (op : Op) : Option S :=
  match eff Γ (immT ts) [] op with
  | some ([], s, [.arr _ es n g]) => match allI n fun i => allI es fun j => (g i j).imm with
    | true => match (fzS 0 n g s).imm with
      | true => some (fzS 0 n g s)
      | false => none
    | false => none
  | _ => none

theorem allI_ok {p : Nat → Bool} : ∀ {n : Nat}, allI n p = true → ∀ i, i < n → p i = true
  | 0, _, i, hi => by omega
  | n + 1, h, i, hi => by
    simp only [allI, Bool.and_eq_true] at h
    by_cases c : i = n
    · subst c; exact h.1
    · exact allI_ok h.2 i (by omega)

theorem find_immT (t : Nat) : ∀ ts : Ts, find t (immT ts) = immO (find t ts)
  | [] => rfl
  | (u, s) :: r => by
    simp only [immT, find]
    split
    · rfl
    · exact find_immT t r

theorem litV_congr {Γ : Env} {ts ts' : Ts} {op : Op} (he : ∀ x ∈ op.operands, opnd ts' x = opnd ts x) : litV Γ ts' op = litV Γ ts op := by
  unfold litV
  rw [eff_congr (ts := immT ts) (ts' := immT ts') fun x hx => ?_]
  have := he x hx
  cases x with
  | tmp t =>
    simp only [opnd] at this ⊢
    rw [find_immT, find_immT, this]
  | _ => rfl

theorem litV_ok {P : Program} {Γ : Env} (hΓ : EnvOk P Γ) {K : Keep} {F : Mem} {H : List O} {μ : Nat → Value} {w : World} (hw : HSat K F H μ w) {ts : Ts} {a : Act} (hT : TSat F H μ ts a.tmps) (o : Oper) {s : S} (h : litV Γ ts o.op = some s) :
    ∃ nx w' F', (execOp a.eval o).run P w = .ok nx w' ∧ (nx = .skip ∨ ∃ v, nx = .value v) ∧ F.le F' ∧ HSat K F' H μ w' ∧ RepS F' H μ s (nextVal nx) := by
  unfold litV at h
  split at h
  · rename_i s0 e es n g he
    split at h
    · rename_i hi
      split at h
      · rename_i himm
        cases h
        have hT' : TSat F [] μ (immT ts) a.tmps := by
          intro t
          rw [find_immT]
          unfold immO
          split
          · rename_i hm; exact immS hm (hT t)
          · trivial
        obtain ⟨nx, w', μ', r1, r2, r3, r4, r5⟩ := eff_ok (P := P) hΓ (hw.aside μ) hT' o he (fun q hq => by cases hq)
        have hid : getL [O.arr e es n g] 0 = some (.arr e es n g) := rfl
        have him : ∀ i, i < n → ∀ j, j < es → (g i j).imm = true := fun i h1 j h2 => allI_ok (allI_ok hi i h1) j h2
        have hb := hw.back (fzH_ok r3 hid him) (fzM_le r3)
        exact ⟨nx, w', _, r1, r2, fzM_le r3, hb, immS himm (fzS_ok r3 hid him r5)⟩
      · cases h
    · cases h
  · cases h

/-- What a made slice is, frozen. -/
def makeV (Γ : Env) (ts : Ts) (op : Op) : Option (List Prop × S) :=
  match op with
  | .makeSlice t l c => match elemOf Γ t with
    | some (e, te) => match goodT te && (zeroL te).all C.imm with
      | true => match bare (opnd ts l) with
        | (p, .c (.int _ l')) => match bare (opnd ts c) with
          | (q, .c (.int _ c')) => some (p ++ q ++ (makeK e te [] l' c' (sameOp l c)).1, .c (.isl te.size l'.toNat (zeroG (zeroL te)) (sameOp l c)))
          | _ => none
        | _ => none
      | false => none
    | none => none
  | _ => none

theorem makeV_congr {Γ : Env} {ts ts' : Ts} {op : Op} (he : ∀ x ∈ op.operands, opnd ts' x = opnd ts x) : makeV Γ ts' op = makeV Γ ts op := by
  unfold makeV
  split
  · rename_i t l c
    rw [he l (by simp [Op.operands]), he c (by simp [Op.operands])]
  · rfl

theorem makeV_ok {P : Program} {Γ : Env} (hΓ : EnvOk P Γ) {K : Keep} {F : Mem} {H : List O} {μ : Nat → Value} {w : World} (hw : HSat K F H μ w) {ts : Ts} {a : Act} (hT : TSat F H μ ts a.tmps) (o : Oper) {ns : List Prop} {s : S} (h : makeV Γ ts o.op = some (ns, s)) (hn : ∀ q ∈ ns, q) :
    ∃ nx w' F', (execOp a.eval o).run P w = .ok nx w' ∧ (nx = .skip ∨ ∃ v, nx = .value v) ∧ F.le F' ∧ HSat K F' H μ w' ∧ RepS F' H μ s (nextVal nx) := by
  unfold makeV at h
  split at h
  · rename_i t l c ho
    split at h
    · rename_i e te he
      split at h
      · rename_i hg
        rw [Bool.and_eq_true] at hg
        split at h
        · rename_i p kl l' hb1
          split at h
          · rename_i q kc c' hb2
            obtain ⟨hu, hte⟩ := elemOf_ok (P := P) hΓ he
            cases h
            have h1 : a.eval l = .int kl l' := bare_ok (opnd_ok hT l) hb1 (all_left (all_left hn))
            have h2 : a.eval c = .int kc c' := bare_ok (opnd_ok hT c) hb2 (all_right (all_left hn))
            obtain ⟨r, w', μ', r1, r2, r3, r4⟩ := makeK_ok (P := P) (hw.aside μ) hu hte (goodT_ok hg.1).1 (l := l') (c := c') (xq := sameOp l c) (kl := kl) (kc := kc) (all_right hn)
            have hid : getL (makeK e te [] l' c' (sameOp l c)).2.2 0 = some (.arr e te.size l'.toNat (zeroG (zeroL te))) := rfl
            have him : ∀ i, i < l'.toNat → ∀ j, j < te.size → (zeroG (zeroL te) i j).imm = true := fun i _ j _ => by
              simp only [zeroG, lget, getL_eq]
              cases hj : (zeroL te)[j]? with
              | none => rfl
              | some x => exact List.all_eq_true.1 hg.2 x (List.mem_of_getElem? hj)
            have hb := hw.back (fzH_ok r2 hid him) (fzM_le r2)
            refine ⟨.value r, w', _, by unfold execOp; rw [ho]; simp only [h1, h2]; exact val1 r1, .inr ⟨r, rfl⟩, fzM_le r2, hb, immS rfl (?_ : RepS _ (fzH 0 l'.toNat (zeroG (zeroL te)) (makeK e te [] l' c' (sameOp l c)).2.2) μ' _ r)⟩
            have := fzS_ok r2 hid him (s := .c (makeK e te [] l' c' (sameOp l c)).2.1) r4
            simpa [makeK, fzS, fzC] using this
          · cases h
        · cases h
      · cases h
    · cases h
  · cases h

def litW (Γ : Env) (ts : Ts) (op : Op) : Option (List Prop × S) :=
  match litV Γ ts op with
  | some s => some ([], s)
  | none => makeV Γ ts op

theorem litW_congr {Γ : Env} {ts ts' : Ts} {op : Op} (he : ∀ x ∈ op.operands, opnd ts' x = opnd ts x) : litW Γ ts' op = litW Γ ts op := by
  unfold litW
  rw [litV_congr he, makeV_congr he]

theorem litW_ok {P : Program} {Γ : Env} (hΓ : EnvOk P Γ) {K : Keep} {F : Mem} {H : List O} {μ : Nat → Value} {w : World} (hw : HSat K F H μ w) {ts : Ts} {a : Act} (hT : TSat F H μ ts a.tmps) (o : Oper) {ns : List Prop} {s : S} (h : litW Γ ts o.op = some (ns, s)) (hn : ∀ q ∈ ns, q) :
    ∃ nx w' F', (execOp a.eval o).run P w = .ok nx w' ∧ (nx = .skip ∨ ∃ v, nx = .value v) ∧ F.le F' ∧ HSat K F' H μ w' ∧ RepS F' H μ s (nextVal nx) := by
  unfold litW at h
  split at h
  · rename_i s' hv
    cases h
    exact litV_ok hΓ hw hT o hv
  · exact makeV_ok hΓ hw hT o h hn

/-- A node: a call that changes what is tracked, in a region whose order is open. -/
inductive CallE (P : Program) (f : FuncId) (args : List S) (H : List O) (k : S → List O → Prop) : Prop
  | intro (s : S) (H' : List O) (hb : HasBody P f) (hp : CSpec P f args H fun s' H'' => s' = s ∧ H'' = H') (hch : ∀ id o, (∀ a ∈ args, idS a ≠ some id) → getL H id = some o → getL H' id = some o) (hk : k s H') : CallE P f args H k

theorem CallE.out {P : Program} {f : FuncId} {args : List S} {H : List O} {k : S → List O → Prop} (h : CallE P f args H k) :
    ∃ s H', HasBody P f ∧ CSpec P f args H (fun s' H'' => s' = s ∧ H'' = H') ∧ (∀ id o, (∀ a ∈ args, idS a ≠ some id) → getL H id = some o → getL H' id = some o) ∧ k s H' := by
  obtain ⟨s, H', h1, h2, h3, h4⟩ := h
  exact ⟨s, H', h1, h2, h3, h4⟩

/-- A call behind everything of the region: it may change any object. -/
inductive CallF (P : Program) (f : FuncId) (args : List S) (H : List O) (k : S → List O → Prop) : Prop
  | intro (s : S) (H' : List O) (hb : HasBody P f) (hp : CSpec P f args H fun s' H'' => s' = s ∧ H'' = H') (hk : k s H') : CallF P f args H k

theorem CallF.out {P : Program} {f : FuncId} {args : List S} {H : List O} {k : S → List O → Prop} (h : CallF P f args H k) :
    ∃ s H', HasBody P f ∧ CSpec P f args H (fun s' H'' => s' = s ∧ H'' = H') ∧ k s H' := by
  obtain ⟨s, H', h1, h2, h3⟩ := h
  exact ⟨s, H', h1, h2, h3⟩

/-- Such a call, by the list of functions. -/
def freeE (E : List Nat) : Op → Bool
  | .call { callee := .value (.func f), .. } => memN E (8589934592 + f)
  | _ => false

/-- No address under a guard is among the operands. -/
def lzOk (ts : Ts) : List Operand → Bool
  | [] => true
  | x :: r => (match opnd ts x with
    | .lz _ s => match idS s with
      | some _ => false
      | none => true
    | _ => true) && lzOk ts r

noncomputable def vcOpD (X : Cx) (E : List Nat) (all : List Oper) (o : Oper) (ts : Ts) (H : List O) (K : Ts → List O → Prop) : Prop :=
  match o.guard with
  | none => match isCall o.op with
    | true => match callOf ts o.op with
      | some (q, f, l) => match effCall E o.op with
        | true => match freeE E o.op with
          | true => needs q (CallF X.P f l H fun s H' => forceH H' fun H'' => forceS s fun s' => putK X.nt o.dst s' ts fun ts' => K ts' H'')
          | false => needs q (CallE X.P f l H fun s H' => forceH H' fun H'' => forceS s fun s' => putK X.nt o.dst s' ts fun ts' => K ts' H'')
        | false => needs q (CallP X.P true f l fun s => forceS s fun s' => putK X.nt o.dst s' ts fun ts' => K ts' H)
      | none => Stuck o ts H
    | false => match isEff o.op && !isLit E o.op with
      | true => match effE E X.Γ ts H o.op with
        | some (ns, s, H') => needs ns (forceH H' fun H'' => forceS s fun s' => putK X.nt o.dst s' ts fun ts' => K ts' H'')
        | none => Stuck o ts H
      | false => match lzOk ts o.op.operands.toList with
        | true => match isLit E o.op with
          | true => match litW X.Γ ts o.op with
            | some (ns, s) => needs ns (forceS s fun s' => putK X.nt o.dst s' ts fun ts' => K ts' H)
            | none => Stuck o ts H
          | false => match val X.Γ ts H o.op with
            | some (ns, s) => needs ns (frcK (isEp ts o.op) s fun s0 => forceS s0 fun s' => putK X.nt o.dst s' ts fun ts' => K ts' H)
            | none => Stuck o ts H
        | false => Stuck o ts H
  | some (j, want) => match isE E o with
    | true => Stuck o ts H
    | false => match getL all j with
      | some oj => match oj.dst with
        | some d => match guardB want (find d ts) with
          | some g => match Nat.blt d X.nt with
            | true => match isCall o.op with
              | true => match callOf ts o.op with
                | some (q, f, l) => needsG g q (CallP X.P g f l fun s => forceS s fun s' => putK X.nt o.dst (.lz g s') ts fun ts' => K ts' H)
                | none => Stuck o ts H
              | false => match val X.Γ ts H o.op with
                | some (ns, s) => needsG g ns (frcK (isEp ts o.op) s fun s0 => forceS s0 fun s' => putK X.nt o.dst (.lz g s') ts fun ts' => K ts' H)
                | none => Stuck o ts H
            | false => Stuck o ts H
          | none => Stuck o ts H
        | none => Stuck o ts H
      | none => Stuck o ts H

noncomputable def vcOpsD (X : Cx) (E : List Nat) (all : List Oper) (l : List Oper) : Ts → List O → (Ts → List O → Prop) → Prop :=
  List.rec (motive := fun _ => Ts → List O → (Ts → List O → Prop) → Prop) (fun ts H K => K ts H) (fun o _ ih ts H K => vcOpD X E all o ts H fun ts' H' => ih ts' H' K) l

theorem vcOpsD_nil {X : Cx} {E : List Nat} {all : List Oper} {ts : Ts} {H : List O} {K : Ts → List O → Prop} : vcOpsD X E all [] ts H K = K ts H := rfl
theorem vcOpsD_cons {X : Cx} {E : List Nat} {all : List Oper} {o : Oper} {r : List Oper} {ts : Ts} {H : List O} {K : Ts → List O → Prop} : vcOpsD X E all (o :: r) ts H K = vcOpD X E all o ts H fun ts' H' => vcOpsD X E all r ts' H' K := rfl

/-- One operation, in the text's order: the value that it puts, the objects behind it. -/
inductive Ev (X : Cx) (E : List Nat) (all : List Oper) (o : Oper) (ts : Ts) (H : List O) : S → List O → Prop
  | val (ns : List Prop) (s : S) (hg : o.guard = none) (hc : isCall o.op = false) (he : isE E o = false) (hl : lzOk ts o.op.operands.toList = true) (hv : val X.Γ ts H o.op = some (ns, s)) (hn : ∀ q ∈ ns, q) : Ev X E all o ts H s H
  | lit (ns : List Prop) (s : S) (hg : o.guard = none) (hc : isCall o.op = false) (he : isE E o = false) (hl : lzOk ts o.op.operands.toList = true) (hv : litW X.Γ ts o.op = some (ns, s)) (hn : ∀ q ∈ ns, q) : Ev X E all o ts H s H
  | eff (ns : List Prop) (s : S) (H' : List O) (hg : o.guard = none) (hc : isCall o.op = false) (he : isE E o = true) (hv : effE E X.Γ ts H o.op = some (ns, s, H')) (hn : ∀ q ∈ ns, q) : Ev X E all o ts H s H'
  | callE (q : List Prop) (f : FuncId) (l : List S) (s : S) (H' : List O) (hg : o.guard = none) (hc : isCall o.op = true) (he : isE E o = true) (hv : callOf ts o.op = some (q, f, l)) (hq : ∀ p ∈ q, p) (hb : HasBody X.P f) (hp : CSpec X.P f l H fun s' H'' => s' = s ∧ H'' = H') (hch : freeE E o.op = false → ∀ id o, (∀ a ∈ l, idS a ≠ some id) → getL H id = some o → getL H' id = some o) : Ev X E all o ts H s H'
  | call (q : List Prop) (f : FuncId) (l l' : List S) (r : S) (hg : o.guard = none) (hc : isCall o.op = true) (he : isE E o = false) (hv : callOf ts o.op = some (q, f, l)) (hq : ∀ p ∈ q, p) (hb : HasBody X.P f) (hp : PSpec X.P f l' r) (ha : leA l l') (hr : r.imm = true) : Ev X E all o ts H r H
  | gval (j : Nat) (want : Bool) (oj : Oper) (d : Nat) (g : Bool) (ns : List Prop) (s : S) (hg : o.guard = some (j, want)) (hj : getL all j = some oj) (hd : oj.dst = some d) (hgb : guardB want (find d ts) = some g) (hlt : d < X.nt)
      (hc : isCall o.op = false) (he : isE E o = false) (hv : Am.val X.Γ ts H o.op = some (ns, s)) (hn : g = true → ∀ q ∈ ns, q) : Ev X E all o ts H (.lz g s) H
  | gcall (j : Nat) (want : Bool) (oj : Oper) (d : Nat) (g : Bool) (q : List Prop) (f : FuncId) (l l' : List S) (r : S) (hg : o.guard = some (j, want)) (hj : getL all j = some oj) (hd : oj.dst = some d) (hgb : guardB want (find d ts) = some g) (hlt : d < X.nt)
      (hc : isCall o.op = true) (he : isE E o = false) (hv : callOf ts o.op = some (q, f, l)) (hq : g = true → ∀ p ∈ q, p) (hb : HasBody X.P f) (hp : g = true → PSpec X.P f l' r) (ha : g = true → leA l l') (hr : r.imm = true) : Ev X E all o ts H (.lz g r) H

def putT (nt : Nat) (dst : Option Tmp) (s : S) (ts : Ts) : Ts :=
  match dst with
  | none => ts
  | some d => match Nat.blt d nt with
    | true => (d, s) :: ts
    | false => ts

theorem putK_eq (nt : Nat) (dst : Option Tmp) (s : S) (ts : Ts) (k : Ts → Prop) : putK nt dst s ts k = k (putT nt dst s ts) := by
  unfold putK putT
  cases dst with
  | none => rfl
  | some d => simp only; cases Nat.blt d nt <;> rfl

theorem effCall_call {E : List Nat} {op : Op} (h : effCall E op = true) : isCall op = true := by
  unfold effCall at h
  split at h
  · rfl
  · cases h
theorem isCall_eff {op : Op} (h : isCall op = true) : isEff op = false := by
  cases op <;> simp only [isCall, Bool.false_eq_true] at h
  rename_i c
  obtain ⟨cal, args, at'⟩ := c
  cases cal <;> simp [isCall] at h
  rfl
theorem isE_nc {E : List Nat} {o : Oper} (h : isCall o.op = false) : isE E o = (isEff o.op && !isLit E o.op) := by
  unfold isE
  cases he : effCall E o.op with
  | false => simp
  | true => rw [effCall_call he] at h; cases h
theorem isE_call {E : List Nat} {o : Oper} (h : isCall o.op = true) : isE E o = effCall E o.op := by
  unfold isE
  rw [isCall_eff h]; rfl

theorem vcOpD_ev {X : Cx} {E : List Nat} {all : List Oper} {o : Oper} {ts : Ts} {H : List O} {K : Ts → List O → Prop} (h : vcOpD X E all o ts H K) : ∃ s H', Ev X E all o ts H s H' ∧ K (putT X.nt o.dst s ts) H' := by
  unfold vcOpD at h
  split at h
  · rename_i hg
    split at h
    · rename_i hc
      split at h
      · rename_i q f l hv
        split at h
        · rename_i hec
          split at h
          · rename_i hfr
            obtain ⟨h1, h2⟩ := needs_out h
            obtain ⟨s, H', hb, hp, hk⟩ := h2.out
            rw [forceH_eq, forceS_eq, putK_eq] at hk
            exact ⟨s, H', .callE q f l s H' hg hc (by rw [isE_call hc]; exact hec) hv h1 hb hp (fun e => by rw [hfr] at e; cases e), hk⟩
          · obtain ⟨h1, h2⟩ := needs_out h
            obtain ⟨s, H', hb, hp, hch, hk⟩ := h2.out
            rw [forceH_eq, forceS_eq, putK_eq] at hk
            exact ⟨s, H', .callE q f l s H' hg hc (by rw [isE_call hc]; exact hec) hv h1 hb hp (fun _ => hch), hk⟩
        · rename_i hec
          obtain ⟨h1, h2⟩ := needs_out h
          obtain ⟨l', r, hb, hp, ha, hr, hk⟩ := h2.out
          rw [forceS_eq, putK_eq] at hk
          exact ⟨r, H, .call q f l l' r hg hc (by rw [isE_call hc]; exact hec) hv h1 hb (hp rfl) (ha rfl) hr, hk⟩
      · exact (stuck_out h).elim
    · rename_i hc
      split at h
      · rename_i he
        split at h
        · rename_i ns s H' hv
          obtain ⟨h1, h2⟩ := needs_out h
          rw [forceH_eq, forceS_eq, putK_eq] at h2
          exact ⟨s, H', .eff ns s H' hg hc (by rw [isE_nc hc]; exact he) hv h1, h2⟩
        · exact (stuck_out h).elim
      · rename_i he
        split at h
        · rename_i hl
          split at h
          · split at h
            · rename_i ns s hv
              obtain ⟨h1, h2⟩ := needs_out h
              rw [forceS_eq, putK_eq] at h2
              exact ⟨s, H, .lit ns s hg hc (by rw [isE_nc hc]; exact he) hl hv h1, h2⟩
            · exact (stuck_out h).elim
          · split at h
            · rename_i ns s hv
              obtain ⟨h1, h2⟩ := needs_out h
              replace h2 := frcK_out h2
              rw [forceS_eq, putK_eq] at h2
              exact ⟨s, H, .val ns s hg hc (by rw [isE_nc hc]; exact he) hl hv h1, h2⟩
            · exact (stuck_out h).elim
        · exact (stuck_out h).elim
  · rename_i j want hg
    split at h
    · exact (stuck_out h).elim
    · rename_i he
      split at h
      · rename_i oj hj
        split at h
        · rename_i d hd
          split at h
          · rename_i g hgb
            split at h
            · rename_i hlt
              have hlt' : d < X.nt := Nat.le_of_ble_eq_true hlt
              split at h
              · rename_i hc
                split at h
                · rename_i q f l hv
                  obtain ⟨h1, h2⟩ := needsG_out h
                  obtain ⟨l', r, hb, hp, ha, hr, hk⟩ := h2.out
                  rw [forceS_eq, putK_eq] at hk
                  exact ⟨.lz g r, H, .gcall j want oj d g q f l l' r hg hj hd hgb hlt' hc he hv h1 hb hp ha hr, hk⟩
                · exact (stuck_out h).elim
              · rename_i hc
                split at h
                · rename_i ns s hv
                  obtain ⟨h1, h2⟩ := needsG_out h
                  replace h2 := frcK_out h2
                  rw [forceS_eq, putK_eq] at h2
                  exact ⟨.lz g s, H, .gval j want oj d g ns s hg hj hd hgb hlt' hc he hv h1, h2⟩
                · exact (stuck_out h).elim
            · exact (stuck_out h).elim
          · exact (stuck_out h).elim
        · exact (stuck_out h).elim
      · exact (stuck_out h).elim

/-- The temporaries that an operation looks at. -/
def looks (all : List Oper) (o : Oper) : List Nat :=
  (o.op.operands.toList.filterMap fun | .tmp t => some t | _ => none) ++ (match o.guard with
    | some (j, _) => match getL all j with
      | some oj => oj.dst.toList
      | none => []
    | none => [])

theorem opnd_looks {all : List Oper} {o : Oper} {ts ts' : Ts} (h : ∀ t ∈ looks all o, find t ts' = find t ts) : ∀ x ∈ o.op.operands, opnd ts' x = opnd ts x := by
  intro x hx
  cases x with
  | tmp t =>
    refine h t ?_
    simp only [looks, List.mem_append, List.mem_filterMap]
    exact .inl ⟨.tmp t, by simpa using hx, rfl⟩
  | _ => rfl

theorem lzOk_congr {ts ts' : Ts} : ∀ (xs : List Operand), (∀ x ∈ xs, opnd ts' x = opnd ts x) → lzOk ts' xs = lzOk ts xs
  | [], _ => rfl
  | x :: r, h => by
    have hx : opnd ts' x = opnd ts x := h x (by simp)
    have ih := lzOk_congr r (fun y hy => h y (by simp [hy]))
    simp only [lzOk, hx, ih]

def isMove : Op → Bool
  | .move _ => true
  | _ => false

theorem val_move {Γ : Env} {ts ts' : Ts} {H H' : List O} {op : Op} (h : isMove op = true) {r : List Prop × S} (hv : val Γ ts H op = some r) (he : ∀ x ∈ op.operands, opnd ts' x = opnd ts x) : val Γ ts' H' op = some r := by
  cases op <;> simp only [isMove, Bool.false_eq_true] at h
  rename_i a
  have := he a (by simp [Op.operands])
  simp only [val, this] at hv ⊢
  exact hv

/-- The same operation beside other slots and objects, where what it looks at is the same. -/
theorem Ev.move {X : Cx} {E : List Nat} {all : List Oper} {o : Oper} {ts ts' : Ts} {H H' H2 : List O} {s : S} (h : Ev X E all o ts H s H') (ht : ∀ t ∈ looks all o, find t ts' = find t ts)
    (hH : H2 = H ∨ (isCall o.op = true ∧ isE E o = false) ∨ (isE E o = false ∧ o.guard = none ∧ (isMove o.op = true ∨ ∀ x ∈ o.op.operands, Sees H H2 (idS (opnd ts x))))) : ∃ H2', Ev X E all o ts' H2 s H2' ∧ (isE E o = true → H2' = H') ∧ (isE E o = false → H2' = H2) := by
  have he := opnd_looks ht
  have guard : ∀ {j : Nat} {want : Bool} {oj : Oper} {d : Nat}, o.guard = some (j, want) → getL all j = some oj → oj.dst = some d → find d ts' = find d ts := by
    intro j want oj d h1 h2 h3
    refine ht d ?_
    simp only [looks, List.mem_append, h1, h2, h3]
    right; simp
  have self : ∀ x ∈ o.op.operands, Sees H H (idS (opnd ts x)) := fun x _ i _ o ho => ho
  cases h with
  | val ns _ hg hc hef hl hv hn =>
    have hv2 : Am.val X.Γ ts' H2 o.op = some (ns, s) := by
      rcases hH with rfl | ⟨h1, _⟩ | ⟨_, _, h2 | h2⟩
      · exact val_mono hv he self
      · rw [hc] at h1; cases h1
      · exact val_move h2 hv he
      · exact val_mono hv he h2
    exact ⟨H2, .val ns s hg hc hef (by rw [lzOk_congr _ (fun x hx => he x (by simpa using hx))]; exact hl) hv2 hn, ⟨fun (e : isE E o = true) => absurd e (by rw [hef]; simp), fun _ => rfl⟩⟩
  | lit ns _ hg hc hef hl hv hn =>
    exact ⟨H2, .lit ns s hg hc hef (by rw [lzOk_congr _ (fun x hx => he x (by simpa using hx))]; exact hl) (by rw [litW_congr he]; exact hv) hn, ⟨fun (e : isE E o = true) => absurd e (by rw [hef]; simp), fun _ => rfl⟩⟩
  | eff ns _ _ hg hc hef hv hn =>
    rcases hH with rfl | ⟨h1, _⟩ | ⟨h1, _⟩
    · exact ⟨H', .eff ns s H' hg hc hef (by rw [effE_congr he]; exact hv) hn, ⟨fun _ => rfl, fun (e : isE E o = false) => absurd e (by rw [hef]; simp)⟩⟩
    · rw [hc] at h1; cases h1
    · rw [hef] at h1; cases h1
  | callE q f l _ _ hg hc hef hv hq hb hp hch =>
    rcases hH with rfl | ⟨_, h1⟩ | ⟨h1, _⟩
    · exact ⟨H', .callE q f l s H' hg hc hef (by rw [callOf_congr he]; exact hv) hq hb hp hch, ⟨fun _ => rfl, fun (e : isE E o = false) => absurd e (by rw [hef]; simp)⟩⟩
    · rw [hef] at h1; cases h1
    · rw [hef] at h1; cases h1
  | call q f l l' _ hg hc hef hv hq hb hp ha hr =>
    exact ⟨H2, .call q f l l' s hg hc hef (by rw [callOf_congr he]; exact hv) hq hb hp ha hr, ⟨fun (e : isE E o = true) => absurd e (by rw [hef]; simp), fun _ => rfl⟩⟩
  | gval j want oj d g ns s' hg hj hd hgb hlt hc hef hv hn =>
    have hsee : ∀ x ∈ o.op.operands, Sees H H2 (idS (opnd ts x)) := by
      rcases hH with rfl | ⟨h1, _⟩ | ⟨_, h1, _⟩
      · exact self
      · rw [hc] at h1; cases h1
      · rw [hg] at h1; cases h1
    exact ⟨H2, .gval j want oj d g ns s' hg hj hd (by rw [guard hg hj hd]; exact hgb) hlt hc hef (val_mono hv he hsee) hn, ⟨fun (e : isE E o = true) => absurd e (by rw [hef]; simp), fun _ => rfl⟩⟩
  | gcall j want oj d g q f l l' r hg hj hd hgb hlt hc hef hv hq hb hp ha hr =>
    exact ⟨H2, .gcall j want oj d g q f l l' r hg hj hd (by rw [guard hg hj hd]; exact hgb) hlt hc hef (by rw [callOf_congr he]; exact hv) hq hb hp ha hr, ⟨fun (e : isE E o = true) => absurd e (by rw [hef]; simp), fun _ => rfl⟩⟩

/-- What one operation does in a world. -/
theorem Ev.run {X : Cx} (hΓ : EnvOk X.P X.Γ) {E : List Nat} {all : List Oper} {i : Nat} {o : Oper} (hi : getL all i = some o) {ts : Ts} {H H' : List O} {s : S} (h : Ev X E all o ts H s H') {K : Keep} {F0 : Mem} {H0 : List O} {μ0 : Nat → Value} {F : Mem} {μ : Nat → Value} {a : Act} {w : World}
    (hs : Sat X K F0 H0 μ0 ts H F μ a w) {k : Act → World → Prop} {Q : Exit → Act → World → Prop} (hk : ∀ F' μ' v w', F.le F' → Ext H μ H' μ' → HSat K F' H' μ' w' → RepS F' H' μ' s v → k (a.put o.dst v) w') : wpOp X.P all.toArray Q i k a w := by
  have hi' : all.toArray[i]? = some o := by rw [getL_eq] at hi; simpa using hi
  unfold wpOp
  simp only [hi']
  have plain : o.guard = none → o.wp X.P a w k Q → (if Region.wanted o (yielded all.toArray a.tmps) = true then o.wp X.P a w k Q ∨ (o.asks X.P a w ∧ LetsOut Q) else k (a.put o.dst undef) w) := by
    intro hg hw
    rw [if_pos (by simp [Region.wanted, hg])]
    exact .inl hw
  have guarded : ∀ {j : Nat} {want : Bool} {oj : Oper} {d : Nat} {g : Bool}, o.guard = some (j, want) → getL all j = some oj → oj.dst = some d → guardB want (find d ts) = some g → d < X.nt → (g = true → o.wp X.P a w k Q) → (g = false → k (a.put o.dst undef) w) →
      (if Region.wanted o (yielded all.toArray a.tmps) = true then o.wp X.P a w k Q ∨ (o.asks X.P a w ∧ LetsOut Q) else k (a.put o.dst undef) w) := by
    intro j want oj d g hg hj hd hgb hlt h1 h2
    have hdlt : d < a.tmps.size := by rw [hs.sz]; exact hlt
    have hrep := guardB_ok hgb (hs.tp d)
    have hy : (Region.wanted o (yielded all.toArray a.tmps) = true) ↔ g = true := by
      rw [getL_eq] at hj
      simp only [Region.wanted, hg, yielded]
      simp only [List.getElem?_toArray, hj, Option.bind_some, hd]
      have : a.tmps[d]? = some a.tmps[d] := Array.getElem?_eq_getElem hdlt
      simp only [this]
      have he : a.tmps.getD d undef = a.tmps[d] := by simp [Array.getD, hdlt]
      rw [he] at hrep
      rw [hrep]
      generalize a.tmps[d] = vv
      cases vv <;> simp
    by_cases c : g = true
    · rw [if_pos (hy.2 c)]; exact .inl (h1 c)
    · rw [if_neg (fun e => c (hy.1 e))]; exact h2 (by simpa using c)
  cases h with
  | val ns _ hg hc hef hl hv hn =>
    refine plain hg ?_
    obtain ⟨r, r1, r2⟩ := val_ok (P := X.P) hΓ hs.hs hs.tp o hv hn
    unfold Oper.wp
    rw [r1, Oper.upon_value]
    exact hk F μ r w (Mem.le_refl F) (Ext.refl H μ) hs.hs r2
  | lit ns _ hg hc hef hl hv hn =>
    refine plain hg ?_
    obtain ⟨nx, w', F', r1, r2, r3, r4, r5⟩ := litW_ok (P := X.P) hΓ hs.hs hs.tp o hv hn
    unfold Oper.wp
    rw [r1]
    rcases r2 with rfl | ⟨v, rfl⟩
    · rw [Oper.upon_skip]; exact hk F' μ undef w' r3 (Ext.refl H μ) r4 r5
    · rw [Oper.upon_value]; exact hk F' μ v w' r3 (Ext.refl H μ) r4 r5
  | eff ns _ _ hg hc hef hv hn =>
    refine plain hg ?_
    obtain ⟨nx, w', μ', r1, r2, r3, r4, r5⟩ := effE_ok (P := X.P) hΓ hs.hs hs.tp o hv hn
    unfold Oper.wp
    rw [r1]
    rcases r2 with rfl | ⟨v, rfl⟩
    · rw [Oper.upon_skip]; exact hk F μ' undef w' (Mem.le_refl F) r4 r3 r5
    · rw [Oper.upon_value]; exact hk F μ' v w' (Mem.le_refl F) r4 r3 r5
  | callE q f l _ _ hg hc hef hv hq hb hp hch =>
    refine plain hg ?_
    obtain ⟨fn, f1, f2, f3⟩ := hb.out
    obtain ⟨vs, r1, r2⟩ := callOf_ok (P := X.P) hs.tp o hv hq f1 f2 f3 w
    unfold Oper.wp
    rw [r1, Oper.upon_enter]
    refine (hp K F μ w vs hs.hs r2).mono ?_
    rintro e w' ⟨v, F', μ', s', H'', rfl, g1, g2, g3, g4, rfl, rfl⟩
    exact hk F' μ' v w' g1 g3 g2 g4
  | call q f l l' _ hg hc hef hv hq hb hp ha hr =>
    refine plain hg ?_
    obtain ⟨fn, f1, f2, f3⟩ := hb.out
    obtain ⟨vs, r1, r2⟩ := callOf_ok (P := X.P) hs.tp o hv hq f1 f2 f3 w
    unfold Oper.wp
    rw [r1, Oper.upon_enter]
    refine (CSpec.pure hp ha hr (k := fun s' H' => s' = s ∧ H' = H) ⟨rfl, rfl⟩ K F μ w vs hs.hs r2).mono ?_
    rintro e w' ⟨v, F', μ', s', H', rfl, g1, g2, g3, g4, rfl, rfl⟩
    exact hk F' μ' v w' g1 g3 g2 g4
  | gval j want oj d g ns s' hg hj hd hgb hlt hc hef hv hn =>
    refine guarded hg hj hd hgb hlt (fun e => ?_) (fun e => hk F μ undef w (Mem.le_refl F) (Ext.refl H μ) hs.hs ⟨fun e' => by (rw [e] at e'; cases e'), fun _ => rfl⟩)
    obtain ⟨r, r1, r2⟩ := val_ok (P := X.P) hΓ hs.hs hs.tp o hv (hn e)
    unfold Oper.wp
    rw [r1, Oper.upon_value]
    exact hk F μ r w (Mem.le_refl F) (Ext.refl H μ) hs.hs ⟨fun _ => r2, fun e' => by (rw [e] at e'; cases e')⟩
  | gcall j want oj d g q f l l' r hg hj hd hgb hlt hc hef hv hq hb hp ha hr =>
    refine guarded hg hj hd hgb hlt (fun e => ?_) (fun e => hk F μ undef w (Mem.le_refl F) (Ext.refl H μ) hs.hs ⟨fun e' => by (rw [e] at e'; cases e'), fun _ => rfl⟩)
    obtain ⟨fn, f1, f2, f3⟩ := hb.out
    obtain ⟨vs, r1, r2⟩ := callOf_ok (P := X.P) hs.tp o hv (hq e) f1 f2 f3 w
    unfold Oper.wp
    rw [r1, Oper.upon_enter]
    refine (CSpec.pure (hp e) (ha e) hr (k := fun s' H' => s' = r ∧ H' = H) ⟨rfl, rfl⟩ K F μ w vs hs.hs r2).mono ?_
    rintro e' w' ⟨v, F', μ', s', H', rfl, g1, g2, g3, g4, rfl, rfl⟩
    exact hk F' μ' v w' g1 g3 g2 ⟨fun _ => g4, fun e' => by (rw [e] at e'; cases e')⟩

end Go.Am
end

section
/- THE ABSTRACT MACHINE, PART 19: every order comes to the same. -/
namespace Go.Am

def dstOf (l : List Oper) (k : Nat) : Option Tmp :=
  match getL l k with
  | some o => o.dst
  | none => none

/-- The slots behind those of the first k operations that are done. -/
def tsF (nt : Nat) (l : List Oper) (sv : Nat → S) (D : Nat → Bool) (ts : Ts) : Nat → Ts
  | 0 => ts
  | k + 1 => if D k = true then putT nt (dstOf l k) (sv k) (tsF nt l sv D ts k) else tsF nt l sv D ts k

theorem tsF_shift (nt : Nat) (o : Oper) (r : List Oper) (s : S) (sv : Nat → S) (ts : Ts) : ∀ k, tsF nt (o :: r) (fun k => match k with | 0 => s | k + 1 => sv k) (fun _ => true) ts (k + 1) = tsF nt r sv (fun _ => true) (putT nt o.dst s ts) k
  | 0 => by simp [tsF, dstOf, getL]
  | k + 1 => by
    have ih := tsF_shift nt o r s sv ts k
    rw [tsF, if_pos rfl, ih, tsF, if_pos rfl]
    rfl

theorem vcOpsD_ev {X : Cx} {E : List Nat} {all : List Oper} : ∀ (l : List Oper) {ts : Ts} {H : List O} {k : Ts → List O → Prop}, vcOpsD X E all l ts H k →
    ∃ (sv : Nat → S) (HH : Nat → List O), HH 0 = H ∧ (∀ i o, getL l i = some o → Ev X E all o (tsF X.nt l sv (fun _ => true) ts i) (HH i) (sv i) (HH (i + 1))) ∧ k (tsF X.nt l sv (fun _ => true) ts l.length) (HH l.length)
  | [], ts, H, k, h => ⟨fun _ => .u, fun _ => H, rfl, fun i o hi => by simp [getL] at hi, h⟩
  | o :: r, ts, H, k, h => by
    rw [vcOpsD_cons] at h
    obtain ⟨s, H1, h1, h2⟩ := vcOpD_ev h
    obtain ⟨sv, HH, e1, e2, e3⟩ := vcOpsD_ev r h2
    refine ⟨fun k => match k with | 0 => s | k + 1 => sv k, fun k => match k with | 0 => H | k + 1 => HH k, rfl, fun i o' hi => ?_, ?_⟩
    · cases i with
      | zero => simp only [getL, Option.some.injEq] at hi; subst hi; simp only [e1]; exact h1
      | succ i =>
        simp only [getL] at hi
        rw [tsF_shift]
        exact e2 i o' hi
    · rw [List.length_cons, tsF_shift]
      exact e3

def maskOf (ms : List Nat) (es : List Edge) : Nat := es.foldl (fun s e => if Region.binds .any e then s ||| (2 ^ e.on) ||| ms.getD e.on 0 else s) 0

def masks : List Oper → List Nat → List Nat
  | [], acc => acc
  | o :: r, acc => masks r (acc ++ [maskOf acc o.after.toList])

/-- The one must come before the other. -/
inductive Anc (l : List Oper) : Nat → Nat → Prop
  | here {i j : Nat} {o : Oper} {e : Edge} (hj : getL l j = some o) (he : e ∈ o.after.toList) (hb : Region.binds .any e = true) (hi : e.on = i) : Anc l i j
  | far {i j : Nat} {o : Oper} {e : Edge} (hj : getL l j = some o) (he : e ∈ o.after.toList) (hb : Region.binds .any e = true) (hi : Anc l i e.on) : Anc l i j

theorem maskOf_ok (ms : List Nat) (i : Nat) : ∀ (es : List Edge) (s : Nat), (es.foldl (fun s e => if Region.binds .any e then s ||| (2 ^ e.on) ||| ms.getD e.on 0 else s) s).testBit i = true →
    s.testBit i = true ∨ ∃ e ∈ es, Region.binds .any e = true ∧ (e.on = i ∨ (ms.getD e.on 0).testBit i = true)
  | [], s, h => .inl h
  | e :: es, s, h => by
    rw [List.foldl_cons] at h
    rcases maskOf_ok ms i es _ h with h | ⟨e', h1, h2, h3⟩
    · by_cases hb : Region.binds .any e = true
      · rw [if_pos hb, Nat.testBit_or, Nat.testBit_or, Bool.or_eq_true, Bool.or_eq_true] at h
        rcases h with (h | h) | h
        · exact .inl h
        · rw [Nat.testBit_two_pow] at h
          exact .inr ⟨e, by simp, hb, .inl (by simpa using h)⟩
        · exact .inr ⟨e, by simp, hb, .inr h⟩
      · rw [if_neg hb] at h; exact .inl h
    · exact .inr ⟨e', by simp [h1], h2, h3⟩

theorem masks_ok (l : List Oper) : ∀ (r : List Oper) (acc : List Nat), (∀ k, getL r k = getL l (acc.length + k)) → (∀ j i, (acc.getD j 0).testBit i = true → Anc l i j) → ∀ j i, ((masks r acc).getD j 0).testBit i = true → Anc l i j
  | [], acc, _, h => h
  | o :: r, acc, hr, h => by
    refine masks_ok l r _ (fun k => ?_) (fun j i hj => ?_)
    · have := hr (k + 1)
      simp only [getL] at this
      rw [this]
      simp [Nat.add_assoc, Nat.add_comm 1 k]
    · by_cases c : j < acc.length
      · rw [show (acc ++ [maskOf acc o.after.toList]).getD j 0 = acc.getD j 0 by simp [List.getD, List.getElem?_append_left c]] at hj
        exact h j i hj
      · by_cases c2 : j = acc.length
        · subst c2
          rw [show (acc ++ [maskOf acc o.after.toList]).getD acc.length 0 = maskOf acc o.after.toList by simp [List.getD]] at hj
          have ho : getL l acc.length = some o := by rw [← Nat.add_zero acc.length, ← hr 0]; rfl
          rcases maskOf_ok acc i _ _ hj with hz | ⟨e, e1, e2, e3⟩
          · simp at hz
          · rcases e3 with e3 | e3
            · exact .here ho e1 e2 e3
            · exact .far ho e1 e2 (h _ i e3)
        · rw [show (acc ++ [maskOf acc o.after.toList]).getD j 0 = 0 by
            rw [List.getD, List.getElem?_eq_none (by simp; omega)]; rfl] at hj
          simp at hj

def pairB (E : List Nat) (S : List (Nat × Nat)) (all : List Oper) (ms : List Nat) (i j : Nat) (x y : Oper) : Bool :=
  (ms.getD j 0).testBit i ||
  (!(isE E x && isE E y) && !(isE E x && (!isNew x.op || y.guard.isSome) && !isCall y.op && !S.contains (j, i)) && !(isE E y && (!isNew y.op || x.guard.isSome) && !isCall x.op && !S.contains (i, j)) &&
    (match x.dst with
      | some t => !(looks all y).contains t && !(y.dst == some t)
      | none => true) &&
    (match y.dst with
      | some t => !(looks all x).contains t
      | none => true))

def rowB (E : List Nat) (S : List (Nat × Nat)) (all : List Oper) (ms : List Nat) (j : Nat) (y : Oper) : Nat → List Oper → Bool
  | _, [] => true
  | i, x :: r => (!Nat.blt i j || pairB E S all ms i j x y) && rowB E S all ms j y (i + 1) r

def rowsB (E : List Nat) (S : List (Nat × Nat)) (all : List Oper) (ms : List Nat) : Nat → List Oper → Bool
  | _, [] => true
  | j, y :: r => (y.after.toList.all fun e => !Region.binds .any e || Nat.blt e.on j) && rowB E S all ms j y 0 all && rowsB E S all ms (j + 1) r

/-- May the region be walked once, in the text's order? -/
def drawB (E : List Nat) (S : List (Nat × Nat)) (l : List Oper) : Bool := rowsB E S l (masks l []) 0 l && S.all fun p => match getL l p.2 with
  | some y => !freeE E y.op
  | none => true

theorem rowB_ok {E : List Nat} {S : List (Nat × Nat)} {all : List Oper} {ms : List Nat} {j : Nat} {y : Oper} : ∀ (r : List Oper) (i0 : Nat), rowB E S all ms j y i0 r = true → ∀ k x, getL r k = some x → i0 + k < j → pairB E S all ms (i0 + k) j x y = true
  | [], _, _, k, x, hx, _ => by simp [getL] at hx
  | z :: r, i0, h, k, x, hx, hlt => by
    simp only [rowB, Bool.and_eq_true, Bool.or_eq_true, Bool.not_eq_true'] at h
    cases k with
    | zero =>
      simp only [getL, Option.some.injEq] at hx
      subst hx
      rcases h.1 with h1 | h1
      · have : Nat.blt i0 j = true := Nat.ble_eq_true_of_le hlt
        rw [this] at h1; cases h1
      · exact h1
    | succ k =>
      simp only [getL] at hx
      have := rowB_ok r (i0 + 1) h.2 k x hx (by omega)
      rw [show i0 + (k + 1) = i0 + 1 + k by omega]
      exact this

theorem rowsB_ok {E : List Nat} {S : List (Nat × Nat)} {all : List Oper} {ms : List Nat} : ∀ (r : List Oper) (j0 : Nat), rowsB E S all ms j0 r = true → ∀ k y, getL r k = some y →
    (∀ e ∈ y.after.toList, Region.binds .any e = true → e.on < j0 + k) ∧ ∀ i x, getL all i = some x → i < j0 + k → pairB E S all ms i (j0 + k) x y = true
  | [], _, _, k, y, hy => by simp [getL] at hy
  | z :: r, j0, h, k, y, hy => by
    simp only [rowsB, Bool.and_eq_true] at h
    obtain ⟨⟨h1, h2⟩, h3⟩ := h
    cases k with
    | zero =>
      simp only [getL, Option.some.injEq] at hy
      subst hy
      refine ⟨fun e he hb => ?_, fun i x hx hlt => ?_⟩
      · have := List.all_eq_true.1 h1 e he
        rw [hb] at this
        simp only [Bool.not_true, Bool.false_or] at this
        exact Nat.le_of_ble_eq_true this
      · have := rowB_ok all 0 h2 i x hx (by omega)
        simpa using this
    | succ k =>
      simp only [getL] at hy
      have := rowsB_ok r (j0 + 1) h3 k y hy
      rw [show j0 + (k + 1) = j0 + 1 + k by omega]
      exact this

def Closed (l : List Oper) (D : Nat → Bool) : Prop := ∀ j o, getL l j = some o → D j = true → ∀ e ∈ o.after.toList, Region.binds .any e = true → D e.on = true

theorem Closed.anc {l : List Oper} {D : Nat → Bool} (h : Closed l D) {i j : Nat} (ha : Anc l i j) : (∀ o, getL l j = some o → ∀ e ∈ o.after.toList, Region.binds .any e = true → D e.on = true) → D i = true := by
  induction ha with
  | here hj he hb hi => intro hd; rw [← hi]; exact hd _ hj _ he hb
  | far hj he hb _ ih =>
    intro hd
    have hk := hd _ hj _ he hb
    exact ih fun o ho e he' hb' => h _ o ho hk e he' hb'

theorem find_put (nt : Nat) (dst : Option Tmp) (s : S) (ts : Ts) (t : Nat) : find t (putT nt dst s ts) = if dst = some t ∧ t < nt then s else find t ts := by
  unfold putT
  cases dst with
  | none => simp
  | some d =>
    simp only
    cases hb : Nat.blt d nt with
    | true =>
      have hlt : d < nt := Nat.le_of_ble_eq_true hb
      simp only [find]
      cases hd : Nat.beq d t with
      | true =>
        have : d = t := Nat.eq_of_beq_eq_true hd
        subst this
        simp [hlt]
      | false =>
        have : d ≠ t := fun e => by subst e; simp at hd
        rw [if_neg (by simp [this])]
    | false =>
      have hlt : ¬ d < nt := fun e => by
        have : Nat.blt d nt = true := Nat.ble_eq_true_of_le e
        rw [this] at hb; cases hb
      simp only
      rw [if_neg]
      rintro ⟨e, h⟩
      cases e
      exact hlt h

theorem find_tsF {nt : Nat} {l : List Oper} {sv : Nat → S} {ts : Ts} {t : Nat} {D D' : Nat → Bool} {i : Nat} : ∀ m, i ≤ m → (∀ k, k < m → dstOf l k = some t → D k = (decide (k < i) && D' k)) → find t (tsF nt l sv D ts m) = find t (tsF nt l sv D' ts i) := by
  have low : ∀ m, (∀ k, k < m → dstOf l k = some t → D k = D' k) → find t (tsF nt l sv D ts m) = find t (tsF nt l sv D' ts m) := by
    intro m
    induction m with
    | zero => intro _; rfl
    | succ m ih =>
      intro h
      have ih' := ih fun k hk => h k (by omega)
      simp only [tsF]
      by_cases c : dstOf l m = some t
      · rw [h m (by omega) c]
        split
        · rw [find_put, find_put, ih']
        · exact ih'
      · have e1 : find t (if D m = true then putT nt (dstOf l m) (sv m) (tsF nt l sv D ts m) else tsF nt l sv D ts m) = find t (tsF nt l sv D ts m) := by
          split
          · rw [find_put, if_neg (by simp [c])]
          · rfl
        have e2 : find t (if D' m = true then putT nt (dstOf l m) (sv m) (tsF nt l sv D' ts m) else tsF nt l sv D' ts m) = find t (tsF nt l sv D' ts m) := by
          split
          · rw [find_put, if_neg (by simp [c])]
          · rfl
        rw [e1, e2, ih']
  intro m hm
  induction m with
  | zero =>
    intro h
    have : i = 0 := by omega
    subst this
    rfl
  | succ m ih =>
    intro h
    by_cases c : i = m + 1
    · subst c
      exact low (m + 1) fun k hk hd => by rw [h k hk hd]; simp [hk]
    · have ih' := ih (by omega) fun k hk => h k (by omega)
      rw [← ih']
      simp only [tsF]
      by_cases cd : dstOf l m = some t
      · have := h m (by omega) cd
        rw [show decide (m < i) = false by simp; omega, Bool.false_and] at this
        rw [if_neg (by simp [this])]
      · split
        · rw [find_put, if_neg (by simp [cd])]
        · rfl

end Go.Am
end
