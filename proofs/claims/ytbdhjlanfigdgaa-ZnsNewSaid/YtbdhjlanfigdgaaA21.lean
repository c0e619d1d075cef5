import Derived.Test.YtbdhjlanfigdgaaA20
/- THE ABSTRACT MACHINE, PART 21: an array of the call's own is frozen. -/
namespace Go.Am

def fzC (id n : Nat) (g : Nat → Nat → C) : C → C
  | .sl a es l t x => match Nat.beq a id with
    | true => match Nat.beq t n with
      | true => .isl es l g (Nat.beq l t && x)
      | false => .junk
    | false => .sl a es l t x
  | .ep a i j t => match Nat.beq a id with
    | true => .junk
    | false => .ep a i j t
  | .fn f m get => .fn f m fun j => fzC id n g (get j)
  | c => c

def fzL (id n : Nat) (g : Nat → Nat → C) : List C → List C
  | [] => []
  | x :: r => fzC id n g x :: fzL id n g r

def fzE (id n : Nat) (g : Nat → Nat → C) : C ⊕ List C → C ⊕ List C
  | .inl x => .inl (fzC id n g x)
  | .inr xs => .inr (fzL id n g xs)

def fzEL (id n : Nat) (g : Nat → Nat → C) : List (C ⊕ List C) → List (C ⊕ List C)
  | [] => []
  | x :: r => fzE id n g x :: fzEL id n g r

def fzS (id n : Nat) (g : Nat → Nat → C) : S → S
  | .u => .u
  | .c x => .c (fzC id n g x)
  | .a xs => .a (fzL id n g xs)
  | .t l => .t (fzEL id n g l)
  | .lz b s => .lz b (fzS id n g s)

def fzO (id n : Nat) (g : Nat → Nat → C) : O → O
  | .vr cs => .vr (fzL id n g cs)
  | .arr e es m h => .arr e es m fun i j => fzC id n g (h i j)
  | .dead => .dead

def fzHL (id n : Nat) (g : Nat → Nat → C) : List O → List O
  | [] => []
  | o :: r => fzO id n g o :: fzHL id n g r

def fzHK (id n : Nat) (g : Nat → Nat → C) : Nat → List O → List O
  | _, [] => []
  | 0, _ :: r => .dead :: fzHL id n g r
  | k + 1, o :: r => fzO id n g o :: fzHK id n g k r

def fzH (id n : Nat) (g : Nat → Nat → C) (H : List O) : List O := fzHK id n g id H

def fzT (id n : Nat) (g : Nat → Nat → C) : Ts → Ts
  | [] => []
  | (t, s) :: r => (t, fzS id n g s) :: fzT id n g r

def fzA (id n : Nat) (g : Nat → Nat → C) : List S → List S
  | [] => []
  | s :: r => fzS id n g s :: fzA id n g r

section
variable {id n : Nat} {g : Nat → Nat → C}

theorem fzL_len : ∀ l : List C, (fzL id n g l).length = l.length
  | [] => rfl
  | _ :: r => by simp [fzL, fzL_len r]
theorem fzL_get : ∀ (l : List C) (j : Nat), getL (fzL id n g l) j = (getL l j).map (fzC id n g)
  | [], _ => rfl
  | _ :: _, 0 => rfl
  | _ :: r, j + 1 => by simp only [fzL, getL]; exact fzL_get r j
theorem fzEL_len : ∀ l : List (C ⊕ List C), (fzEL id n g l).length = l.length
  | [] => rfl
  | _ :: r => by simp [fzEL, fzEL_len r]
theorem fzEL_get : ∀ (l : List (C ⊕ List C)) (j : Nat), getL (fzEL id n g l) j = (getL l j).map (fzE id n g)
  | [], _ => rfl
  | _ :: _, 0 => rfl
  | _ :: r, j + 1 => by simp only [fzEL, getL]; exact fzEL_get r j
theorem fzA_len : ∀ l : List S, (fzA id n g l).length = l.length
  | [] => rfl
  | _ :: r => by simp [fzA, fzA_len r]
theorem fzA_get : ∀ (l : List S) (j : Nat), getL (fzA id n g l) j = (getL l j).map (fzS id n g)
  | [], _ => rfl
  | _ :: _, 0 => rfl
  | _ :: r, j + 1 => by simp only [fzA, getL]; exact fzA_get r j
theorem fzHL_get : ∀ (l : List O) (j : Nat), getL (fzHL id n g l) j = (getL l j).map (fzO id n g)
  | [], _ => rfl
  | _ :: _, 0 => rfl
  | _ :: r, j + 1 => by simp only [fzHL, getL]; exact fzHL_get r j
theorem fzHL_len : ∀ l : List O, (fzHL id n g l).length = l.length
  | [] => rfl
  | _ :: r => by simp [fzHL, fzHL_len r]
theorem fzHK_len : ∀ (k : Nat) (l : List O), (fzHK id n g k l).length = l.length
  | 0, [] => rfl
  | _ + 1, [] => rfl
  | 0, _ :: r => by simp [fzHK, fzHL_len r]
  | k + 1, _ :: r => by simp [fzHK, fzHK_len k r]
theorem fzHK_get : ∀ (k : Nat) (l : List O) (j : Nat), getL (fzHK id n g k l) j = (getL l j).map fun o => if j = k then .dead else fzO id n g o
  | 0, [], _ => rfl
  | _ + 1, [], _ => rfl
  | 0, _ :: _, 0 => rfl
  | 0, _ :: r, j + 1 => by simp [fzHK, getL, fzHL_get]
  | k + 1, _ :: r, 0 => by simp [fzHK, getL]
  | k + 1, _ :: r, j + 1 => by simp only [fzHK, getL, fzHK_get k r j]; simp
theorem fzH_get (H : List O) (j : Nat) : getL (fzH id n g H) j = (getL H j).map fun o => if j = id then .dead else fzO id n g o := fzHK_get id H j
theorem find_fzT : ∀ (ts : Ts) (t : Nat), find t (fzT id n g ts) = fzS id n g (find t ts)
  | [], _ => rfl
  | (u, s) :: r, t => by
    simp only [fzT, find]
    cases Nat.beq u t with
    | true => rfl
    | false => exact find_fzT r t

/-- What is now frozen. -/
noncomputable def fzM (F : Mem) (H : List O) (μ : Nat → Value) (w : World) (id : Nat) : Mem := open Classical in fun b => if owned H μ id b then w.heap[b]? else F b

variable {K : Keep} {F : Mem} {H : List O} {μ : Nat → Value} {w : World} {e es : Nat}

theorem fzM_le (hw : HSat K F H μ w) : F.le (fzM F H μ w id) := by
  intro b o h
  simp only [fzM]
  split
  · rename_i ho
    rw [(hw.sp id b ho).1] at h
    cases h
  · exact h

theorem fzC_ok (hw : HSat K F H μ w) (hid : getL H id = some (.arr e es n g)) (him : ∀ i, i < n → ∀ j, j < es → (g i j).imm = true) : ∀ (c : C) (v : Value), RepC F H μ c v → RepC (fzM F H μ w id) (fzH id n g H) μ (fzC id n g c) v := by
  have hle := fzM_le (id := id) hw
  intro c
  induction c with
  | ptr a off =>
    intro v hv
    obtain ⟨⟨cs, h1⟩, b, h2, h3⟩ := hv
    refine ⟨⟨fzL id n g cs, ?_⟩, b, h2, h3⟩
    rw [fzH_get, h1]
    have : a ≠ id := fun q => by subst q; rw [hid] at h1; cases h1
    simp [this, fzO]
  | ep a i j t =>
    intro v hv
    simp only [fzC]
    split
    · exact RepC.one _ _ hv
    · rename_i hb
      have hne : a ≠ id := fun q => by subst q; simp at hb
      obtain ⟨h0, e', es', m, g', h1, h2, h3⟩ := hv
      exact ⟨h0, e', es', m, fun i j => fzC id n g (g' i j), by rw [fzH_get, h1]; simp only [Option.map_some, if_neg hne, fzO], h2, h3⟩
  | sl a es' l t x =>
    intro v hv
    simp only [fzC]
    split
    · rename_i hb
      have : a = id := Nat.eq_of_beq_eq_true hb
      subst this
      split
      · rename_i ht
        have : t = n := Nat.eq_of_beq_eq_true ht
        subst this
        obtain ⟨h0, e', n', g', h1, h2, h3, h4⟩ := hv
        rw [hid] at h1
        cases h1
        obtain ⟨a', cap, q1, q2, q3⟩ := h4 rfl
        obtain ⟨xs, ⟨r1, r2⟩, r3, r4⟩ := hw.ob a _ hid
        show RepF _ _ _
        rcases r2 with ⟨s1, s2⟩ | ⟨b, cap', cur, s1, _, s3, s4, s5, s6, s7⟩
        · rw [q1] at s1
          cases s1
          exact ⟨none, 0, q2, by omega, by omega, fun _ => by omega, fun _ => rfl, .inl (by omega)⟩
        · rw [q1] at s1
          cases s1
          refine ⟨_, _, q2, by omega, by omega, fun q => ?_, fun q => (by cases q), .inr ⟨b, 0, rfl, fun i hi j hj => ?_⟩⟩
          · simp only [Bool.and_eq_true] at q
            have := Nat.eq_of_beq_eq_true q.1
            rw [q3 q.2, this]
          · obtain ⟨y, y1, y2⟩ := r4 i (by omega) j hj
            have hlt : i * es + j < t * es := Nat.lt_of_lt_of_le (show i * es + j < (i + 1) * es by rw [Nat.add_mul]; omega) (Nat.mul_le_mul_right es (by omega))
            refine ⟨y, ?_, RepF.mono hle _ _ (imm_rep (him i (by omega) j hj) y2)⟩
            simp only [Mem.cell, fzM]
            rw [if_pos (show owned H μ a b from ⟨⟨_, hid, by simp⟩, by rw [q1]; rfl⟩), s3]
            simp only [Nat.zero_add]
            rw [← s7] at y1
            rw [List.getElem?_take_of_lt (by simpa using hlt)] at y1
            simpa using y1
      · exact RepC.one _ _ hv
    · rename_i hb
      have hne : a ≠ id := fun q => by subst q; simp at hb
      obtain ⟨h0, e', m, g', h1, h2, h3, h4⟩ := hv
      exact ⟨h0, e', m, fun i j => fzC id n g (g' i j), by rw [fzH_get, h1]; simp only [Option.map_some, if_neg hne, fzO], h2, h3, h4⟩
  | fn f m get ih =>
    intro v hv
    obtain ⟨cs, h1, h2, h3⟩ := hv
    refine ⟨cs, h1, h2, fun j hj => ?_⟩
    obtain ⟨x, x1, x2⟩ := h3 j hj
    exact ⟨x, x1, ih j x x2⟩
  | _ => intro v hv; exact RepF.mono hle _ v hv

theorem fzL_ok (hw : HSat K F H μ w) (hid : getL H id = some (.arr e es n g)) (him : ∀ i, i < n → ∀ j, j < es → (g i j).imm = true) {xs : List C} {cs : Array Value} (h : RepL F H μ xs cs) :
    RepL (fzM F H μ w id) (fzH id n g H) μ (fzL id n g xs) cs := by
  refine ⟨by rw [fzL_len]; exact h.1, fun j x hx => ?_⟩
  rw [fzL_get] at hx
  cases hy : getL xs j with
  | none => rw [hy] at hx; cases hx
  | some y =>
    rw [hy] at hx
    cases hx
    obtain ⟨v, v1, v2⟩ := h.2 j y hy
    exact ⟨v, v1, fzC_ok hw hid him y v v2⟩

theorem fzS_ok (hw : HSat K F H μ w) (hid : getL H id = some (.arr e es n g)) (him : ∀ i, i < n → ∀ j, j < es → (g i j).imm = true) : ∀ {s : S} {v : Value}, RepS F H μ s v → RepS (fzM F H μ w id) (fzH id n g H) μ (fzS id n g s) v
  | .u, _, _ => trivial
  | .c x, v, h => fzC_ok hw hid him x v h
  | .a _, _, ⟨cs, h1, h2⟩ => ⟨cs, h1, fzL_ok hw hid him h2⟩
  | .t l, _, ⟨vs, h1, h2, h3⟩ => by
    refine ⟨vs, h1, by rw [fzEL_len]; exact h2, fun j x hx => ?_⟩
    rw [fzEL_get] at hx
    cases hy : getL l j with
    | none => rw [hy] at hx; cases hx
    | some y =>
      rw [hy] at hx
      cases hx
      obtain ⟨u, u1, u2⟩ := h3 j y hy
      refine ⟨u, u1, ?_⟩
      cases y with
      | inl c => exact fzC_ok hw hid him c u u2
      | inr cs => obtain ⟨k, k1, k2⟩ := u2; exact ⟨k, k1, fzL_ok hw hid him k2⟩
  | .lz _ s, _, h => ⟨fun hg => fzS_ok hw hid him (s := s) (h.1 hg), h.2⟩

theorem fzH_ok (hw : HSat K F H μ w) (hid : getL H id = some (.arr e es n g)) (him : ∀ i, i < n → ∀ j, j < es → (g i j).imm = true) : HSat K (fzM F H μ w id) (fzH id n g H) μ w := by
  have own : ∀ i b, owned (fzH id n g H) μ i b → i ≠ id ∧ owned H μ i b := by
    intro i b ⟨⟨o, o1, o2⟩, hb⟩
    rw [fzH_get] at o1
    cases ho : getL H i with
    | none => rw [ho] at o1; cases o1
    | some p =>
      rw [ho] at o1
      simp only [Option.map_some, Option.some.injEq] at o1
      by_cases hi : i = id
      · rw [if_pos hi] at o1; exact absurd o1.symm o2
      · refine ⟨hi, ⟨p, ho, fun q => ?_⟩, hb⟩
        subst q
        rw [if_neg hi] at o1
        exact o2 o1.symm
  refine ⟨hw.os, hw.tape, hw.output, fun b o hb => ?_, hw.kp, fun i o hi => ?_, fun i b hb => ?_, fun i j b hi hj => hw.ij i j b (own i b hi).2 (own j b hj).2, fun b o hb => ?_⟩
  · simp only [fzM] at hb
    split at hb
    · exact hb
    · exact hw.fr b o hb
  · rw [fzH_get] at hi
    cases ho : getL H i with
    | none => rw [ho] at hi; cases hi
    | some p =>
      rw [ho] at hi
      simp only [Option.map_some, Option.some.injEq] at hi
      by_cases hx : i = id
      · rw [if_pos hx] at hi; subst hi; trivial
      · rw [if_neg hx] at hi
        subst hi
        have hp := hw.ob i p ho
        cases p with
        | vr cs =>
          obtain ⟨b, c, T, h1, h2, h3⟩ := hp
          exact ⟨b, c, T, h1, h2, fzL_ok hw hid him h3⟩
        | arr e' es' m g' =>
          obtain ⟨xs, h1, h2, h3⟩ := hp
          refine ⟨xs, h1, h2, fun k hk j hj => ?_⟩
          obtain ⟨v, v1, v2⟩ := h3 k hk j hj
          exact ⟨v, v1, fzC_ok hw hid him _ v v2⟩
        | dead => trivial
  · obtain ⟨h1, h2⟩ := own i b hb
    refine ⟨?_, (hw.sp i b h2).2⟩
    simp only [fzM]
    rw [if_neg (fun q => h1 (hw.ij i id b h2 q))]
    exact (hw.sp i b h2).1
  · simp only [fzM] at hb
    split at hb
    · rename_i ho
      exact (hw.sp id b ho).2
    · exact hw.dj b o hb

theorem Ext.fz {H0 : List O} {μ0 : Nat → Value} (h : Ext H0 μ0 H μ) (hid : H0.length ≤ id) : Ext H0 μ0 (fzH id n g H) μ := by
  refine ⟨fun a cs ha => ?_, fun a e es m g' ha => ?_⟩
  · have := getL_lt ha
    obtain ⟨⟨cs', h1⟩, h2⟩ := h.1 a cs ha
    exact ⟨⟨fzL id n g cs', by rw [fzH_get, h1]; simp only [Option.map_some, if_neg (show ¬ a = id by omega), fzO]⟩, h2⟩
  · have := getL_lt ha
    obtain ⟨n', g'', h1, h2, h3⟩ := h.2 a e es m g' ha
    exact ⟨n', fun i j => fzC id n g (g'' i j), by rw [fzH_get, h1]; simp only [Option.map_some, if_neg (show ¬ a = id by omega), fzO], h2, h3⟩

theorem Sat.fz {X : Cx} {F0 : Mem} {H0 : List O} {μ0 : Nat → Value} {ts : Ts} {a : Act} (hs : Sat X K F0 H0 μ0 ts H F μ a w) (hid : getL H id = some (.arr e es n g)) (hn : X.n0 ≤ id) (him : ∀ i, i < n → ∀ j, j < es → (g i j).imm = true) :
    Sat X K F0 H0 μ0 (fzT id n g ts) (fzH id n g H) (fzM F H μ w id) μ a w :=
  ⟨hs.le.le_trans' (fzM_le hs.hs), hs.ext.fz (Nat.le_trans hs.n0 hn), fzH_ok hs.hs hid him, fun t => by rw [find_fzT]; exact fzS_ok hs.hs hid him (hs.tp t), hs.sz, hs.df, hs.n0⟩

/-- The array is frozen. -/
theorem Mv.fz {X : Cx} {ts : Ts} (id : Nat) (hid : getL H id = some (.arr e es n g)) (hn : X.n0 ≤ id) (him : ∀ i, i < n → ∀ j, j < es → (g i j).imm = true) : Mv X ts H (fzT id n g ts) (fzH id n g H) :=
  fun _ _ _ _ _ _ _ _ hs => ⟨_, _, hs.fz hid hn him⟩

/-- The array is frozen ahead of a call. -/
theorem CallN.fz {X : Cx} {f : FuncId} {args : List S} {dst : Option Tmp} {ts : Ts} {k : Ts → List O → Prop} (id : Nat) (hid : getL H id = some (.arr e es n g)) (hn : X.n0 ≤ id) (him : ∀ i, i < n → ∀ j, j < es → (g i j).imm = true)
    (h : CallN X f (fzA id n g args) dst (fzT id n g ts) (fzH id n g H) k) : CallN X f args dst ts H k := by
  obtain ⟨h1, h2⟩ := h.out
  refine ⟨h1, fun K F0 H0 μ0 F μ a w vs hs hA => ?_⟩
  refine h2 K F0 H0 μ0 _ μ a w vs (hs.fz hid hn him) ⟨by rw [fzA_len]; exact hA.1, fun j s hj => ?_⟩
  rw [fzA_get] at hj
  cases hy : getL args j with
  | none => rw [hy] at hj; cases hj
  | some y =>
    rw [hy] at hj
    cases hj
    obtain ⟨v, v1, v2⟩ := hA.2 j y hy
    exact ⟨v, v1, fzS_ok hs.hs hid him v2⟩

/-- A result, and the objects, that say less. -/
structure RM (n0 : Nat) (s : S) (H : List O) (s' : S) (H' : List O) : Prop where
  intro ::
  out : ∀ K F μ w v, HSat K F H μ w → RepS F H μ s v → ∃ F' μ', F.le F' ∧ HSat K F' H' μ' w ∧ RepS F' H' μ' s' v ∧ ∀ H0 μ0, H0.length ≤ n0 → Ext H0 μ0 H μ → Ext H0 μ0 H' μ'

theorem RM.refl {n0 : Nat} {s : S} : RM n0 s H s H := ⟨fun _ F μ _ _ hw hs => ⟨F, μ, Mem.le_refl F, hw, hs, fun _ _ _ h => h⟩⟩
theorem RM.trans {n0 : Nat} {s s' s'' : S} {H' H'' : List O} (h : RM n0 s H s' H') (k : RM n0 s' H' s'' H'') : RM n0 s H s'' H'' := by
  refine ⟨fun K F μ w v hw hs => ?_⟩
  obtain ⟨F', μ', h1, h2, h3, h4⟩ := h.out K F μ w v hw hs
  obtain ⟨F'', μ'', k1, k2, k3, k4⟩ := k.out K F' μ' w v h2 h3
  exact ⟨F'', μ'', h1.le_trans' k1, k2, k3, fun H0 μ0 hn he => k4 H0 μ0 hn (h4 H0 μ0 hn he)⟩

theorem RM.fz {n0 : Nat} {s s' : S} {H' : List O} (id : Nat) (hid : getL H id = some (.arr e es n g)) (hn : n0 ≤ id) (him : ∀ i, i < n → ∀ j, j < es → (g i j).imm = true) (h : RM n0 (fzS id n g s) (fzH id n g H) s' H') : RM n0 s H s' H' :=
  RM.trans ⟨fun K F μ w v hw hs => ⟨_, μ, fzM_le hw, fzH_ok hw hid him, fzS_ok hw hid him hs, fun _ _ hl he => he.fz (Nat.le_trans hl hn)⟩⟩ h

theorem RM.wk {n0 : Nat} {s s' : S} {H' : List O} (m : Nat) (hm : H'.length = m) (h : HWkL idN m H H') (hs : wkS idN m s s') (hn : n0 ≤ m) : RM n0 s H s' H' := by
  subst hm
  refine ⟨fun K F μ w v hw hv => ?_⟩
  have hk : HWk idN H H' := ⟨fun i o' hi => HWkL_get h i o' hi, fun i j _ _ e => e⟩
  exact ⟨F, fun i => μ (idN i), Mem.le_refl F, hw.wk hk, wkS_ok hk s s' hs v hv, fun H0 μ0 hl he => he.wk hk (Nat.le_trans hl hn)⟩

/-- The objects get other numbers. -/
theorem RM.ren {s s' : S} {H' : List O} (ρ : Nat → Nat) (m : Nat) (hm : H'.length = m) (h : HWk ρ H H') (hs : wkS ρ m s s') : RM 0 s H s' H' := by
  subst hm
  refine ⟨fun K F μ w v hw hv => ?_⟩
  refine ⟨F, fun i => μ (ρ i), Mem.le_refl F, hw.wk h, wkS_ok h s s' hs v hv, fun H0 μ0 hl _ => ?_⟩
  have : H0 = [] := List.length_eq_zero_iff.1 (by omega)
  subst this
  exact ⟨fun _ _ hc => by simp [getL] at hc, fun _ _ _ _ _ hc => by simp [getL] at hc⟩

/-- Everything is frozen, or fell away. -/
theorem RM.imm {s s' : S} (h : s.imm = true) (hs : wkS idN 0 s s') : RM 0 s H s' [] :=
  RM.wk 0 rfl (by cases H <;> trivial) hs (Nat.le_refl 0)

theorem CSpec.rm {P : Program} {f : FuncId} {args : List S} {Q : S → List O → Prop} (h : CSpec P f args H fun s H' => ∃ s' H'', RM H.length s H' s' H'' ∧ Q s' H'') : CSpec P f args H Q := by
  intro K F μ w vs hw hA
  refine (h K F μ w vs hw hA).mono ?_
  rintro e w' ⟨v, F', μ', s, H', rfl, h1, h2, h3, h4, s', H'', hr, hq⟩
  obtain ⟨F'', μ'', r1, r2, r3, r4⟩ := hr.out K F' μ' w' v h2 h4
  exact ⟨v, F'', μ'', s', H'', rfl, h1.le_trans' r1, r2, r4 H μ (Nat.le_refl _) h3, r3, hq⟩

/-- A function that changes nothing, by what is left of its result when everything is frozen. -/
theorem PSpec.rm {P : Program} {f : FuncId} {args : List S} {r : S} (h : CSpec P f args [] fun s H' => RM 0 s H' r []) : PSpec P f args r := by
  refine CSpec.rm (Q := fun s _ => s = r) ?_
  intro K F μ w vs hw hA
  refine (h K F μ w vs hw hA).mono ?_
  rintro e w' ⟨v, F', μ', s, H', h0, h1, h2, h3, h4, hr⟩
  exact ⟨v, F', μ', s, H', h0, h1, h2, h3, h4, r, [], hr, rfl⟩

theorem CSpec.mono {P : Program} {f : FuncId} {args : List S} {Q Q' : S → List O → Prop} (h : CSpec P f args H Q) (hq : ∀ s H', Q s H' → Q' s H') : CSpec P f args H Q' := by
  intro K F μ w vs hw hA
  refine (h K F μ w vs hw hA).mono ?_
  rintro e w' ⟨v, F', μ', s, H', h0, h1, h2, h3, h4, hr⟩
  exact ⟨v, F', μ', s, H', h0, h1, h2, h3, h4, hq _ _ hr⟩

end
end Go.Am
