import Derived.Test.YtbdhjlanfigdgaaAmBV
import Derived.ProofKit
import Derived.RowKit3
import Derived.ChangeOld
import Derived.Below
import Derived.ChangeSlices
set_option linter.unusedSimpArgs false
set_option linter.unusedVariables false
section
/- THE ABSTRACT MACHINE, PART 21: an array of the call's own is frozen. -/
namespace Go.Am
section
variable {id n : Nat} {g : Nat → Nat → C}
variable {K : Keep} {F : Mem} {H : List O} {μ : Nat → Value} {w : World} {e es : Nat}

theorem Sat.fz {X : Cx} {F0 : Mem} {H0 : List O} {μ0 : Nat → Value} {ts : Ts} {a : Act} (hs : Sat X K F0 H0 μ0 ts H F μ a w) (hid : getL H id = some (.arr e es n g)) (hn : X.n0 ≤ id) (him : ∀ i, i < n → ∀ j, j < es → (g i j).imm = true) :
    Sat X K F0 H0 μ0 (fzT id n g ts) (fzH id n g H) (fzM F H μ w id) μ a w :=
  ⟨hs.le.le_trans' (fzM_le hs.hs), hs.ext.fz (Nat.le_trans hs.n0 hn), fzH_ok hs.hs hid him, fun t => by rw [find_fzT]; exact fzS_ok hs.hs hid him (hs.tp t), hs.sz, hs.df, hs.n0⟩

/-- The array is frozen. -/
theorem Mv.fz {X : Cx} {ts : Ts} (id : Nat) (hid : getL H id = some (.arr e es n g)) (hn : X.n0 ≤ id) (him : ∀ i, i < n → ∀ j, j < es → (g i j).imm = true) : Mv X ts H (fzT id n g ts) (fzH id n g H) :=
  fun _ _ _ _ _ _ _ _ hs => ⟨_, _, hs.fz hid hn him⟩

/-- The array is frozen ahead of a call. -/
theorem CallN.fz {X : Cx} {f : FuncId} {args : List S} {dst : Option Tmp} {ts : Ts} {k : Ts → List O → Prop} (id : Nat) (hid : getL H id = some (.arr e es n g)) (hn : X.n0 ≤ id) (him : ∀ i, i < n → ∀ j, j < es → (g i j).imm = true)
    (h : CallN X f (fzA id n g args) dst (fzT id n g ts) (fzH id n g H) k) : CallN X f args dst ts H k := by
  obtain ⟨h1, h2⟩ := h.out
  refine ⟨h1, fun K F0 H0 μ0 F μ a w vs hs hA => ?_⟩
  refine h2 K F0 H0 μ0 _ μ a w vs (hs.fz hid hn him) ⟨by rw [fzA_len]; exact hA.1, fun j s hj => ?_⟩
  rw [fzA_get] at hj
  cases hy : getL args j with
  | none => rw [hy] at hj; cases hj
  | some y =>
    rw [hy] at hj
    cases hj
    obtain ⟨v, v1, v2⟩ := hA.2 j y hy
    exact ⟨v, v1, fzS_ok hs.hs hid him v2⟩

/-- A result, and the objects, that say less. -/
structure RM (n0 : Nat) (s : S) (H : List O) (s' : S) (H' : List O) : Prop where
  intro ::
  out : ∀ K F μ w v, HSat K F H μ w → RepS F H μ s v → ∃ F' μ', F.le F' ∧ HSat K F' H' μ' w ∧ RepS F' H' μ' s' v ∧ ∀ H0 μ0, H0.length ≤ n0 → Ext H0 μ0 H μ → Ext H0 μ0 H' μ'

theorem RM.refl {n0 : Nat} {s : S} : RM n0 s H s H := ⟨fun _ F μ _ _ hw hs => ⟨F, μ, Mem.le_refl F, hw, hs, fun _ _ _ h => h⟩⟩
theorem RM.trans {n0 : Nat} {s s' s'' : S} {H' H'' : List O} (h : RM n0 s H s' H') (k : RM n0 s' H' s'' H'') : RM n0 s H s'' H'' := by
  refine ⟨fun K F μ w v hw hs => ?_⟩
  obtain ⟨F', μ', h1, h2, h3, h4⟩ := h.out K F μ w v hw hs
  obtain ⟨F'', μ'', k1, k2, k3, k4⟩ := k.out K F' μ' w v h2 h3
  exact ⟨F'', μ'', h1.le_trans' k1, k2, k3, fun H0 μ0 hn he => k4 H0 μ0 hn (h4 H0 μ0 hn he)⟩

theorem RM.fz {n0 : Nat} {s s' : S} {H' : List O} (id : Nat) (hid : getL H id = some (.arr e es n g)) (hn : n0 ≤ id) (him : ∀ i, i < n → ∀ j, j < es → (g i j).imm = true) (h : RM n0 (fzS id n g s) (fzH id n g H) s' H') : RM n0 s H s' H' :=
  RM.trans ⟨fun K F μ w v hw hs => ⟨_, μ, fzM_le hw, fzH_ok hw hid him, fzS_ok hw hid him hs, fun _ _ hl he => he.fz (Nat.le_trans hl hn)⟩⟩ h

theorem RM.wk {n0 : Nat} {s s' : S} {H' : List O} (m : Nat) (hm : H'.length = m) (h : HWkL idN m H H') (hs : wkS idN m s s') (hn : n0 ≤ m) : RM n0 s H s' H' := by
  subst hm
  refine ⟨fun K F μ w v hw hv => ?_⟩
  have hk : HWk idN H H' := ⟨fun i o' hi => HWkL_get h i o' hi, fun i j _ _ e => e⟩
  exact ⟨F, fun i => μ (idN i), Mem.le_refl F, hw.wk hk, wkS_ok hk s s' hs v hv, fun H0 μ0 hl he => he.wk hk (Nat.le_trans hl hn)⟩

/-- The objects get other numbers. -/
theorem RM.ren {s s' : S} {H' : List O} (ρ : Nat → Nat) (m : Nat) (hm : H'.length = m) (h : HWk ρ H H') (hs : wkS ρ m s s') : RM 0 s H s' H' := by
  subst hm
  refine ⟨fun K F μ w v hw hv => ?_⟩
  refine ⟨F, fun i => μ (ρ i), Mem.le_refl F, hw.wk h, wkS_ok h s s' hs v hv, fun H0 μ0 hl _ => ?_⟩
  have : H0 = [] := List.length_eq_zero_iff.1 (by omega)
  subst this
  exact ⟨fun _ _ hc => by simp [getL] at hc, fun _ _ _ _ _ hc => by simp [getL] at hc⟩

/-- Everything is frozen, or fell away. -/
theorem RM.imm {s s' : S} (h : s.imm = true) (hs : wkS idN 0 s s') : RM 0 s H s' [] :=
  RM.wk 0 rfl (by cases H <;> trivial) hs (Nat.le_refl 0)

theorem CSpec.rm {P : Program} {f : FuncId} {args : List S} {Q : S → List O → Prop} (h : CSpec P f args H fun s H' => ∃ s' H'', RM H.length s H' s' H'' ∧ Q s' H'') : CSpec P f args H Q := by
  intro K F μ w vs hw hA
  refine (h K F μ w vs hw hA).mono ?_
  rintro e w' ⟨v, F', μ', s, H', rfl, h1, h2, h3, h4, s', H'', hr, hq⟩
  obtain ⟨F'', μ'', r1, r2, r3, r4⟩ := hr.out K F' μ' w' v h2 h4
  exact ⟨v, F'', μ'', s', H'', rfl, h1.le_trans' r1, r2, r4 H μ (Nat.le_refl _) h3, r3, hq⟩

/-- A function that changes nothing, by what is left of its result when everything is frozen. -/
theorem PSpec.rm {P : Program} {f : FuncId} {args : List S} {r : S} (h : CSpec P f args [] fun s H' => RM 0 s H' r []) : PSpec P f args r := by
  refine CSpec.rm (Q := fun s _ => s = r) ?_
  intro K F μ w vs hw hA
  refine (h K F μ w vs hw hA).mono ?_
  rintro e w' ⟨v, F', μ', s, H', h0, h1, h2, h3, h4, hr⟩
  exact ⟨v, F', μ', s, H', h0, h1, h2, h3, h4, r, [], hr, rfl⟩

theorem CSpec.mono {P : Program} {f : FuncId} {args : List S} {Q Q' : S → List O → Prop} (h : CSpec P f args H Q) (hq : ∀ s H', Q s H' → Q' s H') : CSpec P f args H Q' := by
  intro K F μ w vs hw hA
  refine (h K F μ w vs hw hA).mono ?_
  rintro e w' ⟨v, F', μ', s, H', h0, h1, h2, h3, h4, hr⟩
  exact ⟨v, F', μ', s, H', h0, h1, h2, h3, h4, hq _ _ hr⟩

end
end Go.Am
end

section
/- THE ABSTRACT MACHINE, PART 22: a call by a contract that was proved beside fewer objects; a call that only reads. -/
namespace Go.Am

/-- The place of a number in a list. -/
def idx (rs : List Nat) (a : Nat) : Option Nat :=
  match rs with
  | [] => none
  | r :: t => match Nat.beq r a with
    | true => some 0
    | false => match idx t a with
      | some i => some (i + 1)
      | none => none

/-- The number that an object of the callee has here. -/
def sg (rs : List Nat) (h j : Nat) : Nat :=
  match getL rs j with
  | some r => r
  | none => j - rs.length + h

def reC (σ : Nat → Nat) : C → C
  | .ptr a o => .ptr (σ a) o
  | .ep a i j t => .ep (σ a) i j t
  | .sl a es l t x => .sl (σ a) es l t x
  | .fn f m g => .fn f m fun j => reC σ (g j)
  | c => c

def reL (σ : Nat → Nat) : List C → List C
  | [] => []
  | x :: r => reC σ x :: reL σ r
def reE (σ : Nat → Nat) : C ⊕ List C → C ⊕ List C
  | .inl x => .inl (reC σ x)
  | .inr xs => .inr (reL σ xs)
def reEL (σ : Nat → Nat) : List (C ⊕ List C) → List (C ⊕ List C)
  | [] => []
  | x :: r => reE σ x :: reEL σ r
def reS (σ : Nat → Nat) : S → S
  | .u => .u
  | .c x => .c (reC σ x)
  | .a xs => .a (reL σ xs)
  | .t l => .t (reEL σ l)
  | .lz b s => .lz b (reS σ s)
def reO (σ : Nat → Nat) : O → O
  | .vr cs => .vr (reL σ cs)
  | .arr e es m h => .arr e es m fun i j => reC σ (h i j)
  | .dead => .dead
def reHL (σ : Nat → Nat) : List O → List O
  | [] => []
  | o :: r => reO σ o :: reHL σ r

/-- The callee's objects, put back among the caller's. -/
def plugK (σ : Nat → Nat) (rs : List Nat) (Hc : List O) : Nat → List O → List O
  | _, [] => []
  | k, o :: r => (match idx rs k with
    | some i => match getL Hc i with
      | some o' => reO σ o'
      | none => o
    | none => o) :: plugK σ rs Hc (k + 1) r

def dropL {α : Type} : Nat → List α → List α
  | 0, l => l
  | _ + 1, [] => []
  | k + 1, _ :: r => dropL k r

def plug (rs : List Nat) (H Hc : List O) : List O :=
  plugK (sg rs H.length) rs Hc 0 H ++ reHL (sg rs H.length) (dropL rs.length Hc)

section
variable {σ : Nat → Nat}

theorem dropL_eq {α : Type} : ∀ (k : Nat) (l : List α), dropL k l = l.drop k
  | 0, _ => rfl
  | _ + 1, [] => rfl
  | k + 1, _ :: r => by simp [dropL, dropL_eq k r]
theorem reL_len : ∀ l : List C, (reL σ l).length = l.length
  | [] => rfl
  | _ :: r => by simp [reL, reL_len r]
theorem reL_get : ∀ (l : List C) (j : Nat), getL (reL σ l) j = (getL l j).map (reC σ)
  | [], _ => rfl
  | _ :: _, 0 => rfl
  | _ :: r, j + 1 => by simp only [reL, getL]; exact reL_get r j
theorem reEL_len : ∀ l : List (C ⊕ List C), (reEL σ l).length = l.length
  | [] => rfl
  | _ :: r => by simp [reEL, reEL_len r]
theorem reEL_get : ∀ (l : List (C ⊕ List C)) (j : Nat), getL (reEL σ l) j = (getL l j).map (reE σ)
  | [], _ => rfl
  | _ :: _, 0 => rfl
  | _ :: r, j + 1 => by simp only [reEL, getL]; exact reEL_get r j
theorem reHL_len : ∀ l : List O, (reHL σ l).length = l.length
  | [] => rfl
  | _ :: r => by simp [reHL, reHL_len r]
theorem reHL_get : ∀ (l : List O) (j : Nat), getL (reHL σ l) j = (getL l j).map (reO σ)
  | [], _ => rfl
  | _ :: _, 0 => rfl
  | _ :: r, j + 1 => by simp only [reHL, getL]; exact reHL_get r j

theorem plugK_len {rs : List Nat} {Hc : List O} : ∀ (k : Nat) (H : List O), (plugK σ rs Hc k H).length = H.length
  | _, [] => rfl
  | k, _ :: r => by simp [plugK, plugK_len (k + 1) r]
theorem plugK_get {rs : List Nat} {Hc : List O} : ∀ (k : Nat) (H : List O) (j : Nat), getL (plugK σ rs Hc k H) j = (getL H j).map fun o => match idx rs (k + j) with
    | some i => match getL Hc i with
      | some o' => reO σ o'
      | none => o
    | none => o
  | _, [], _ => rfl
  | k, _ :: _, 0 => rfl
  | k, _ :: r, j + 1 => by
    simp only [plugK, getL, plugK_get (k + 1) r j]
    rw [show k + 1 + j = k + (j + 1) by omega]

theorem idx_some {a i : Nat} : ∀ {rs : List Nat}, idx rs a = some i → getL rs i = some a
  | [], h => by simp [idx] at h
  | r :: t, h => by
    simp only [idx] at h
    split at h
    · rename_i hb
      cases h
      rw [Nat.eq_of_beq_eq_true hb]
      rfl
    · cases hi : idx t a with
      | none => rw [hi] at h; cases h
      | some k =>
        rw [hi] at h
        cases h
        simpa [getL] using idx_some hi
theorem idx_none {a : Nat} : ∀ {rs : List Nat}, idx rs a = none → ∀ i, getL rs i ≠ some a
  | [], _, i => by simp [getL]
  | r :: t, h, i => by
    simp only [idx] at h
    split at h
    · cases h
    · rename_i hb
      cases hi : idx t a with
      | some k => rw [hi] at h; cases h
      | none =>
        cases i with
        | zero =>
          simp only [getL]
          intro e
          cases e
          simp at hb
        | succ i => simpa [getL] using idx_none hi i

end

theorem getL_append_ge {α : Type} (l r : List α) (i : Nat) (h : l.length ≤ i) : getL (l ++ r) i = getL r (i - l.length) := by
  rw [getL_eq, getL_eq, List.getElem?_append_right h]
theorem getL_append_lt' {α : Type} (l r : List α) (i : Nat) (h : i < l.length) : getL (l ++ r) i = getL l i := by
  rw [getL_eq, getL_eq, List.getElem?_append_left h]

/-- The caller's objects that the callee does not have, put aside. -/
noncomputable def Keep.but (K : Keep) (H : List O) (μ : Nat → Value) (w : World) (rs : List Nat) : Keep :=
  { K with mem := open Classical in fun b => if ∃ id, idx rs id = none ∧ owned H μ id b then w.heap[b]? else K.mem b }

section
variable {K : Keep} {F F' : Mem} {H Hc Hc' : List O} {μ μ' : Nat → Value} {w w' : World} {rs : List Nat}

/-- The values of all objects, the callee's put back. -/
def plugM (rs : List Nat) (h : Nat) (μ μ' : Nat → Value) : Nat → Value := fun id =>
  if h ≤ id then μ' (id - h + rs.length) else match idx rs id with
    | some i => μ' i
    | none => μ id

def rho (rs : List Nat) : Nat → Nat := fun i => (getL rs i).getD 0

structure Fr (H Hc : List O) (rs : List Nat) : Prop where
  len : rs.length = Hc.length
  wk : HWk (rho rs) H Hc

theorem Fr.lt (h : Fr H Hc rs) {i a : Nat} (hi : getL rs i = some a) : i < Hc.length ∧ a < H.length ∧ rho rs i = a ∧ idx rs a = some i := by
  have h1 := getL_lt hi
  have h2 : rho rs i = a := by simp [rho, hi]
  have h3 : i < Hc.length := by rw [← h.len]; exact h1
  refine ⟨h3, ?_, h2, ?_⟩
  · obtain ⟨o, ho, _⟩ := h.wk.ob i Hc[i] (by rw [getL_eq]; simp [h3])
    rw [h2] at ho
    exact getL_lt ho
  · cases hx : idx rs a with
    | none => exact absurd hi (idx_none hx i)
    | some k =>
      have hk := idx_some hx
      have k1 := getL_lt hk
      have := h.wk.inj i k h3 (by rw [← h.len]; exact k1) (by rw [h2]; simp [rho, hk])
      rw [this]

/-- An object of the callee, seen by the caller. -/
theorem Fr.at (h : Fr H Hc rs) (hl : Hc.length ≤ Hc'.length) {j : Nat} {o : O} (hj : getL Hc' j = some o) :
    getL (plug rs H Hc') (sg rs H.length j) = some (reO (sg rs H.length) o) ∧ plugM rs H.length μ μ' (sg rs H.length j) = μ' j := by
  cases hr : getL rs j with
  | some a =>
    obtain ⟨h1, h2, h3, h4⟩ := h.lt hr
    have hs : sg rs H.length j = a := by simp [sg, hr]
    rw [hs]
    constructor
    · unfold plug
      rw [getL_append_lt' _ _ _ (by rw [plugK_len]; exact h2), plugK_get]
      have : ∃ p, getL H a = some p := ⟨H[a], by rw [getL_eq]; simp [h2]⟩
      obtain ⟨p, hp⟩ := this
      rw [hp]
      simp only [Option.map_some, Nat.zero_add, h4, hj]
    · simp only [plugM]
      rw [if_neg (by omega), h4]
  | none =>
    have hge : rs.length ≤ j := by
      rw [getL_eq] at hr
      exact List.getElem?_eq_none_iff.1 hr
    have hs : sg rs H.length j = j - rs.length + H.length := by simp [sg, hr]
    rw [hs]
    constructor
    · unfold plug
      rw [getL_append_ge _ _ _ (by rw [plugK_len]; omega), plugK_len, reHL_get, dropL_eq]
      have : getL (Hc'.drop rs.length) (j - rs.length + H.length - H.length) = some o := by
        rw [getL_eq, List.getElem?_drop]
        rw [getL_eq] at hj
        rw [← hj]
        congr 1
        omega
      rw [this]
      rfl
    · simp only [plugM]
      rw [if_pos (by omega)]
      congr 1
      omega

theorem Fr.repC (h : Fr H Hc rs) (hl : Hc.length ≤ Hc'.length) : ∀ (c : C) (v : Value), RepC F Hc' μ' c v → RepC F (plug rs H Hc') (plugM rs H.length μ μ') (reC (sg rs H.length) c) v := by
  intro c
  induction c with
  | ptr a off =>
    intro v hv
    obtain ⟨⟨cs, h1⟩, b, h2, h3⟩ := hv
    obtain ⟨k1, k2⟩ := h.at (μ := μ) (μ' := μ') hl h1
    exact ⟨⟨_, k1⟩, b, by rw [k2]; exact h2, h3⟩
  | ep a i j t =>
    intro v hv
    obtain ⟨h0, e, es, n, g, h1, h2, h3⟩ := hv
    obtain ⟨k1, k2⟩ := h.at (μ := μ) (μ' := μ') hl h1
    exact ⟨h0, e, es, n, _, k1, h2, fun q => by rw [k2]; exact h3 q⟩
  | sl a es l t x =>
    intro v hv
    obtain ⟨h0, e, n, g, h1, h2, h3, h4⟩ := hv
    obtain ⟨k1, k2⟩ := h.at (μ := μ) (μ' := μ') hl h1
    exact ⟨h0, e, n, _, k1, h2, h3, fun q => by rw [k2]; exact h4 q⟩
  | fn f m g ih =>
    intro v hv
    obtain ⟨cs, h1, h2, h3⟩ := hv
    refine ⟨cs, h1, h2, fun j hj => ?_⟩
    obtain ⟨x, x1, x2⟩ := h3 j hj
    exact ⟨x, x1, ih j x x2⟩
  | _ => intro v hv; exact hv

theorem Fr.repL (h : Fr H Hc rs) (hl : Hc.length ≤ Hc'.length) {xs : List C} {cs : Array Value} (hx : RepL F Hc' μ' xs cs) : RepL F (plug rs H Hc') (plugM rs H.length μ μ') (reL (sg rs H.length) xs) cs := by
  refine ⟨by rw [reL_len]; exact hx.1, fun j x hj => ?_⟩
  rw [reL_get] at hj
  cases hy : getL xs j with
  | none => rw [hy] at hj; cases hj
  | some y =>
    rw [hy] at hj
    cases hj
    obtain ⟨v, v1, v2⟩ := hx.2 j y hy
    exact ⟨v, v1, h.repC hl y v v2⟩

theorem Fr.repS (h : Fr H Hc rs) (hl : Hc.length ≤ Hc'.length) : ∀ {s : S} {v : Value}, RepS F Hc' μ' s v → RepS F (plug rs H Hc') (plugM rs H.length μ μ') (reS (sg rs H.length) s) v
  | .u, _, _ => trivial
  | .c x, v, hv => h.repC hl x v hv
  | .a _, _, ⟨cs, h1, h2⟩ => ⟨cs, h1, h.repL hl h2⟩
  | .t l, _, ⟨vs, h1, h2, h3⟩ => by
    refine ⟨vs, h1, by rw [reEL_len]; exact h2, fun j x hx => ?_⟩
    rw [reEL_get] at hx
    cases hy : getL l j with
    | none => rw [hy] at hx; cases hx
    | some y =>
      rw [hy] at hx
      cases hx
      obtain ⟨u, u1, u2⟩ := h3 j y hy
      refine ⟨u, u1, ?_⟩
      cases y with
      | inl c => exact h.repC hl c u u2
      | inr cs => obtain ⟨k, k1, k2⟩ := u2; exact ⟨k, k1, h.repL hl k2⟩
  | .lz _ s, _, hv => ⟨fun hg => h.repS hl (s := s) (hv.1 hg), hv.2⟩

theorem Ext.len (h : Ext Hc μ Hc' μ') (hd : ∀ i, getL Hc i ≠ some .dead) : Hc.length ≤ Hc'.length := by
  by_cases hz : Hc.length = 0
  · omega
  · have hlt : Hc.length - 1 < Hc.length := by omega
    have hg : getL Hc (Hc.length - 1) = some Hc[Hc.length - 1] := by rw [getL_eq]; simp
    cases ho : Hc[Hc.length - 1] with
    | vr cs =>
      rw [ho] at hg
      obtain ⟨⟨cs', h1⟩, _⟩ := h.1 _ cs hg
      have := getL_lt h1
      omega
    | arr e es n g =>
      rw [ho] at hg
      obtain ⟨n', g', h1, _⟩ := h.2 _ e es n g hg
      have := getL_lt h1
      omega
    | dead => rw [ho] at hg; exact absurd hg (hd _)

/-- The caller's object that is not the callee's, later. -/
theorem Fr.old (h : Fr H Hc rs) {a : Nat} {o : O} (ha : getL H a = some o) (hx : idx rs a = none) :
    getL (plug rs H Hc') a = some o ∧ plugM rs H.length μ μ' a = μ a := by
  have := getL_lt ha
  constructor
  · unfold plug
    rw [getL_append_lt' _ _ _ (by rw [plugK_len]; exact this), plugK_get, ha]
    simp only [Option.map_some, Nat.zero_add, hx]
  · simp only [plugM]
    rw [if_neg (by omega), hx]

theorem Fr.ext (h : Fr H Hc rs) (hl : Hc.length ≤ Hc'.length) (hE : Ext Hc (fun i => μ (rho rs i)) Hc' μ') : Ext H μ (plug rs H Hc') (plugM rs H.length μ μ') := by
  refine ⟨fun a cs ha => ?_, fun a e es n g ha => ?_⟩
  · cases hx : idx rs a with
    | none =>
      obtain ⟨h1, h2⟩ := h.old (Hc' := Hc') (μ := μ) (μ' := μ') ha hx
      exact ⟨⟨cs, h1⟩, h2⟩
    | some i =>
      obtain ⟨k1, k2, k3, _⟩ := h.lt (idx_some hx)
      obtain ⟨cs', hc⟩ := h.wk.kind_vr (b := i) k1 (by rw [k3]; exact ha)
      obtain ⟨⟨cs'', h1⟩, h2⟩ := hE.1 i cs' hc
      obtain ⟨q1, q2⟩ := h.at (μ := μ) (μ' := μ') hl h1
      have hs : sg rs H.length i = a := by simp [sg, idx_some hx]
      rw [hs] at q1 q2
      exact ⟨⟨_, q1⟩, by rw [q2, h2]; show μ (rho rs i) = μ a; rw [k3]⟩
  · cases hx : idx rs a with
    | none =>
      obtain ⟨h1, h2⟩ := h.old (Hc' := Hc') (μ := μ) (μ' := μ') ha hx
      exact ⟨n, g, h1, Nat.le_refl _, fun _ => h2⟩
    | some i =>
      obtain ⟨k1, k2, k3, _⟩ := h.lt (idx_some hx)
      obtain ⟨g', hc⟩ := h.wk.kind_arr (b := i) k1 (by rw [k3]; exact ha)
      obtain ⟨n', g'', h1, h2, h3⟩ := hE.2 i e es n g' hc
      obtain ⟨q1, q2⟩ := h.at (μ := μ) (μ' := μ') hl h1
      have hs : sg rs H.length i = a := by simp [sg, idx_some hx]
      rw [hs] at q1 q2
      exact ⟨n', _, q1, h2, fun q => by rw [q2, h3 q]; show μ (rho rs i) = μ a; rw [k3]⟩

theorem Fr.aside (h : Fr H Hc rs) (hw : HSat K F H μ w) : HSat (K.but H μ w rs) F Hc (fun i => μ (rho rs i)) w := by
  have hk := hw.wk h.wk
  refine ⟨hk.os, hk.tape, hk.output, hk.fr, fun b o hb => ?_, hk.ob, fun i b hb => ⟨(hk.sp i b hb).1, ?_⟩, hk.ij, fun b o hb => ?_⟩
  · simp only [Keep.but] at hb
    split at hb
    · exact hb
    · exact hk.kp b o hb
  · simp only [Keep.but]
    rw [if_neg]
    · exact (hk.sp i b hb).2
    · rintro ⟨id, h1, h2⟩
      obtain ⟨⟨o, o1, o2⟩, hbb⟩ := hb
      have hi := getL_lt o1
      obtain ⟨p, p1, p2⟩ := h.wk.ob i o o1
      have hown : owned H μ (rho rs i) b := ⟨⟨p, p1, fun e => by subst e; cases o with
        | dead => exact o2 rfl
        | vr => exact p2.elim
        | arr => exact p2.elim⟩, hbb⟩
      have := hw.ij _ _ b h2 hown
      have hr : getL rs i = some (rho rs i) := by
        have : i < rs.length := by rw [h.len]; exact hi
        simp only [rho, getL_eq]
        simp [this]
      rw [← this] at hr
      exact idx_none h1 i hr
  · simp only [Keep.but]
    rw [if_neg]
    · exact hk.dj b o hb
    · rintro ⟨id, _, h2⟩
      rw [(hw.sp id b h2).1] at hb
      cases hb

theorem Fr.back (h : Fr H Hc rs) (hw : HSat K F H μ w) (hl : Hc.length ≤ Hc'.length) (hE : Ext Hc (fun i => μ (rho rs i)) Hc' μ') (hF : F.le F') (k : HSat (K.but H μ w rs) F' Hc' μ' w') : HSat K F' (plug rs H Hc') (plugM rs H.length μ μ') w' := by
  have hext := h.ext hl hE
  have ownK : ∀ id b, idx rs id = none → owned H μ id b → (K.but H μ w rs).mem b = w.heap[b]? := by
    intro id b h1 h2
    simp only [Keep.but]
    rw [if_pos ⟨id, h1, h2⟩]
  -- what an object of the whole is
  have split : ∀ a o, getL (plug rs H Hc') a = some o → (idx rs a = none ∧ getL H a = some o ∧ plugM rs H.length μ μ' a = μ a) ∨ ∃ j o', getL Hc' j = some o' ∧ a = sg rs H.length j ∧ o = reO (sg rs H.length) o' ∧ plugM rs H.length μ μ' a = μ' j := by
    intro a o ha
    by_cases hlt : a < H.length
    · have hg : getL H a = some H[a] := by rw [getL_eq]; simp [hlt]
      cases hx : idx rs a with
      | none =>
        obtain ⟨h1, h2⟩ := h.old (Hc' := Hc') (μ := μ) (μ' := μ') hg hx
        rw [h1] at ha
        cases ha
        exact .inl ⟨rfl, hg, h2⟩
      | some i =>
        obtain ⟨k1, k2, k3, _⟩ := h.lt (idx_some hx)
        have hi : getL Hc' i = some (Hc'[i]'(by omega)) := by rw [getL_eq]; simp
        obtain ⟨q1, q2⟩ := h.at (μ := μ) (μ' := μ') hl hi
        have hs : sg rs H.length i = a := by simp [sg, idx_some hx]
        rw [hs] at q1 q2
        rw [q1] at ha
        cases ha
        exact .inr ⟨i, _, hi, hs.symm, rfl, q2⟩
    · have hge : H.length ≤ a := by omega
      have hlen := getL_lt ha
      have hsz : (plug rs H Hc').length = H.length + (Hc'.length - rs.length) := by
        unfold plug
        rw [List.length_append, plugK_len, reHL_len, dropL_eq, List.length_drop]
      rw [hsz] at hlen
      have hj : a - H.length + rs.length < Hc'.length := by omega
      have hi : getL Hc' (a - H.length + rs.length) = some Hc'[a - H.length + rs.length] := by rw [getL_eq]; simp
      obtain ⟨q1, q2⟩ := h.at (μ := μ) (μ' := μ') hl hi
      have hs : sg rs H.length (a - H.length + rs.length) = a := by
        have : getL rs (a - H.length + rs.length) = none := by rw [getL_eq]; simp
        simp only [sg, this]
        omega
      rw [hs] at q1 q2
      rw [q1] at ha
      cases ha
      exact .inr ⟨_, _, hi, hs.symm, rfl, q2⟩
  have own : ∀ a b, owned (plug rs H Hc') (plugM rs H.length μ μ') a b → (idx rs a = none ∧ owned H μ a b) ∨ ∃ j, a = sg rs H.length j ∧ owned Hc' μ' j b := by
    intro a b ⟨⟨o, o1, o2⟩, hb⟩
    rcases split a o o1 with ⟨h1, h2, h3⟩ | ⟨j, o', h1, h2, h3, h4⟩
    · exact .inl ⟨h1, ⟨o, h2, o2⟩, by rw [← h3]; exact hb⟩
    · refine .inr ⟨j, h2, ⟨o', h1, fun e => o2 ?_⟩, by rw [← h4]; exact hb⟩
      subst e
      exact h3
  have apart : ∀ a j b, idx rs a = none → owned H μ a b → owned Hc' μ' j b → False := by
    intro a j b h1 h2 h3
    have := (k.sp j b h3).2
    rw [ownK a b h1 h2] at this
    obtain ⟨o, ho⟩ := owned_some hw h2
    rw [ho] at this
    cases this
  refine ⟨k.os, k.tape, k.output, k.fr, fun b o hb => k.kp b o ?_, fun a o ho => ?_, fun a b ho => ?_, fun a a' b ho ho' => ?_, fun b o hb => ?_⟩
  · simp only [Keep.but]
    rw [if_neg]
    · exact hb
    · rintro ⟨id, _, hid⟩
      rw [(hw.sp id b hid).2] at hb
      cases hb
  · rcases split a o ho with ⟨h1, h2, h3⟩ | ⟨j, o', h1, h2, h3, h4⟩
    · have := hw.ob a o h2
      cases o with
      | vr cs =>
        obtain ⟨b, c, T, q1, q2, q3⟩ := this
        have hb : owned H μ a b := ⟨⟨_, h2, by simp⟩, by rw [q1]; rfl⟩
        exact ⟨b, c, T, by rw [h3]; exact q1, k.kp b _ (by rw [ownK a b h1 hb]; exact q2), q3.mono hF hext⟩
      | arr e es n g =>
        obtain ⟨xs, q1, q2, q3⟩ := this
        refine ⟨xs, ?_, q2, fun i hi j hj => ?_⟩
        · rw [h3]
          refine ⟨q1.1, ?_⟩
          rcases q1.2 with q | ⟨g', cap, cur, q, r2, r3, rest⟩
          · exact .inl q
          · have hb : owned H μ a g' := ⟨⟨_, h2, by simp⟩, by rw [q]; rfl⟩
            exact .inr ⟨g', cap, cur, q, r2, k.kp g' _ (by rw [ownK a g' h1 hb]; exact r3), rest⟩
        · obtain ⟨v, v1, v2⟩ := q3 i hi j hj
          exact ⟨v, v1, RepC.mono hF hext _ _ v2⟩
      | dead => trivial
    · have := k.ob j o' h1
      subst h3
      cases o' with
      | vr cs =>
        obtain ⟨b, c, T, q1, q2, q3⟩ := this
        exact ⟨b, c, T, by rw [h4]; exact q1, q2, h.repL hl q3⟩
      | arr e es n g =>
        obtain ⟨xs, q1, q2, q3⟩ := this
        refine ⟨xs, by rw [h4]; exact q1, q2, fun i hi j hj => ?_⟩
        obtain ⟨v, v1, v2⟩ := q3 i hi j hj
        exact ⟨v, v1, h.repC hl _ v v2⟩
      | dead => trivial
  · rcases own a b ho with ⟨h1, h2⟩ | ⟨j, h1, h2⟩
    · refine ⟨?_, (hw.sp a b h2).2⟩
      cases hf : F' b with
      | none => rfl
      | some o =>
        have := k.dj b o hf
        rw [ownK a b h1 h2] at this
        obtain ⟨o', ho'⟩ := owned_some hw h2
        rw [ho'] at this
        cases this
    · refine ⟨(k.sp j b h2).1, ?_⟩
      have := (k.sp j b h2).2
      simp only [Keep.but] at this
      split at this
      · rename_i hid
        obtain ⟨id, _, hid⟩ := hid
        exact (hw.sp id b hid).2
      · exact this
  · rcases own a b ho with ⟨h1, h2⟩ | ⟨j, h1, h2⟩
    · rcases own a' b ho' with ⟨h1', h2'⟩ | ⟨j', h1', h2'⟩
      · exact hw.ij a a' b h2 h2'
      · exact (apart a j' b h1 h2 h2').elim
    · rcases own a' b ho' with ⟨h1', h2'⟩ | ⟨j', h1', h2'⟩
      · exact (apart a' j b h1' h2' h2).elim
      · rw [h1, h1', k.ij j j' b h2 h2']
  · have := k.dj b o hb
    simp only [Keep.but] at this
    split at this
    · rename_i hid
      obtain ⟨id, _, hid⟩ := hid
      exact (hw.sp id b hid).2
    · exact this

def wkA (ρ : Nat → Nat) (n : Nat) : List S → List S → Prop
  | [], [] => True
  | s :: r, s' :: r' => wkS ρ n s s' ∧ wkA ρ n r r'
  | _, _ => False

theorem wkA_ok {ρ : Nat → Nat} {H H' : List O} (h : HWk ρ H H') {F : Mem} {μ : Nat → Value} : ∀ {l l' : List S}, wkA ρ H'.length l l' → ∀ {vs : Array Value} {o : Nat}, (∀ (j : Nat) s, getL l j = some s → ∃ v, vs[o + j]? = some v ∧ RepS F H μ s v) →
    l.length = l'.length ∧ ∀ (j : Nat) s, getL l' j = some s → ∃ v, vs[o + j]? = some v ∧ RepS F H' (fun i => μ (ρ i)) s v
  | [], [], _, _, _, _ => ⟨rfl, fun j s h => by simp [getL] at h⟩
  | s :: r, s' :: r', ⟨h2, h3⟩, vs, o, hh => by
    obtain ⟨k1, k2⟩ := wkA_ok h (o := o + 1) h3 (fun j t ht => by
      obtain ⟨v, v1, v2⟩ := hh (j + 1) t (by simpa [getL] using ht)
      exact ⟨v, by rw [← v1]; congr 1; omega, v2⟩)
    refine ⟨by simp [k1], fun j t ht => ?_⟩
    cases j with
    | zero =>
      simp only [getL, Option.some.injEq] at ht
      subst ht
      obtain ⟨v, v1, v2⟩ := hh 0 s rfl
      exact ⟨v, v1, wkS_ok h s s' h2 v v2⟩
    | succ j =>
      simp only [getL] at ht
      obtain ⟨v, v1, v2⟩ := k2 j t ht
      exact ⟨v, by rw [← v1]; congr 1; omega, v2⟩
  | [], _ :: _, h, _, _, _ => h.elim
  | _ :: _, [], h, _, _, _ => h.elim

/-- A call by a contract that was proved beside fewer objects, under other numbers. -/
theorem CSpec.frame {P : Program} {f : FuncId} {args args' : List S} {H Hc : List O} {Q : S → List O → Prop} (hc : CSpec P f args' Hc Q) (rs : List Nat) (h : Fr H Hc rs) (hd : ∀ i, getL Hc i ≠ some .dead) (ha : wkA (rho rs) Hc.length args args') {k : S → List O → Prop}
    (hk : ∀ s Hc', Q s Hc' → k (reS (sg rs H.length) s) (plug rs H Hc')) : CSpec P f args H k := by
  intro K F μ w vs hw hA
  obtain ⟨l1, l2⟩ := wkA_ok h.wk (o := 0) ha (fun j s hs => by simpa using hA.2 j s hs)
  refine (hc (K.but H μ w rs) F (fun i => μ (rho rs i)) w vs (h.aside hw) ⟨hA.1.trans l1, fun j s hs => by simpa using l2 j s hs⟩).mono ?_
  rintro e w' ⟨v, F', μ', s, Hc', rfl, h1, h2, h3, h4, h5⟩
  have hl := h3.len hd
  exact ⟨v, F', plugM rs H.length μ μ', _, _, rfl, h1, h.back hw hl h3 h1 h2, h.ext hl h3, h.repS hl h4, hk s Hc' h5⟩

theorem Fr.nil : Fr H [] [] := ⟨rfl, ⟨fun i o' h => by simp [getL] at h, fun i j h => by simp at h⟩⟩

/-- A call by a contract that was proved beside nothing. -/
theorem CSpec.opens {P : Program} {f : FuncId} {args args' : List S} {H : List O} {Q : S → List O → Prop} (hc : CSpec P f args' [] Q) (ha : leA args args') {k : S → List O → Prop}
    (hk : ∀ s Hc', Q s Hc' → k (reS (sg [] H.length) s) (plug [] H Hc')) : CSpec P f args H k := by
  intro K F μ w vs hw hA
  obtain ⟨l1, l2⟩ := leA_ok (o := 0) ha (fun j s hs => by simpa using hA.2 j s hs)
  have k0 := (Fr.nil (H := H)).aside hw
  have k1 : HSat (K.but H μ w []) F [] μ w := ⟨k0.os, k0.tape, k0.output, k0.fr, k0.kp, fun id o ho => by simp [getL] at ho, fun id b ⟨⟨o, ho, _⟩, _⟩ => by simp [getL] at ho, fun id id' b ⟨⟨o, ho, _⟩, _⟩ => by simp [getL] at ho, k0.dj⟩
  refine (hc (K.but H μ w []) F μ w vs k1 ⟨hA.1.trans l1, fun j s hs => by simpa using l2 j s hs⟩).mono ?_
  rintro e w' ⟨v, F', μ', s, Hc', rfl, h1, h2, h3, h4, h5⟩
  have hl : ([] : List O).length ≤ Hc'.length := Nat.zero_le _
  have h3' : Ext [] (fun i => μ (rho [] i)) Hc' μ' := ⟨fun _ _ hc => by simp [getL] at hc, fun _ _ _ _ _ hc => by simp [getL] at hc⟩
  exact ⟨v, F', plugM [] H.length μ μ', _, _, rfl, h1, Fr.nil.back hw hl h3' h1 h2, Fr.nil.ext hl h3', Fr.nil.repS hl h4, hk s Hc' h5⟩

end
end Go.Am
end

section
/- THE ABSTRACT MACHINE, PART 23: a call that only reads, and whose result has no memory. -/
namespace Go.Am

def C.flat : C → Bool
  | .junk => true
  | .bool _ => true
  | .int _ _ => true
  | .str _ => true
  | .nilp => true
  | .nilfn => true
  | .nils => true
  | _ => false

def E.flat : C ⊕ List C → Bool
  | .inl y => y.flat
  | .inr ys => ys.all C.flat

def S.flat : S → Bool
  | .u => true
  | .c x => x.flat
  | .a xs => xs.all C.flat
  | .t l => l.all E.flat
  | .lz _ s => s.flat

theorem flatC {F F' : Mem} {H H' : List O} {μ μ' : Nat → Value} {c : C} (hc : c.flat = true) {v : Value} (h : RepC F H μ c v) : RepC F' H' μ' c v := by
  cases c <;> first | exact h | exact absurd hc (by simp [C.flat])
theorem flatL {F F' : Mem} {H H' : List O} {μ μ' : Nat → Value} {xs : List C} (hc : xs.all C.flat = true) {cs : Array Value} (h : RepL F H μ xs cs) : RepL F' H' μ' xs cs :=
  ⟨h.1, fun j x hx => let ⟨v, v1, v2⟩ := h.2 j x hx; ⟨v, v1, flatC (all_get hc hx) v2⟩⟩
theorem flatS {F F' : Mem} {H H' : List O} {μ μ' : Nat → Value} : ∀ {s : S}, s.flat = true → ∀ {v : Value}, RepS F H μ s v → RepS F' H' μ' s v
  | .u, _, _, _ => trivial
  | .c _, hc, _, h => flatC hc h
  | .a _, hc, _, ⟨cs, h1, h2⟩ => ⟨cs, h1, flatL hc h2⟩
  | .t l, hc, _, ⟨vs, h1, h2, h3⟩ => ⟨vs, h1, h2, fun j x hx => by
      obtain ⟨u, u1, u2⟩ := h3 j x hx
      refine ⟨u, u1, ?_⟩
      have := all_get (p := E.flat) hc hx
      cases x with
      | inl c => exact flatC this u2
      | inr cs => obtain ⟨k, k1, k2⟩ := u2; exact ⟨k, k1, flatL this k2⟩⟩
  | .lz _ s, hc, _, h => ⟨fun hg => flatS (s := s) hc (h.1 hg), h.2⟩

def heapM (w : World) : Mem := fun b => w.heap[b]?

/-- A cell beside tracked objects, when all memory is taken for frozen. -/
def Bw (H : List O) (c c' : C) : Prop := ∀ K F μ w v, HSat K F H μ w → RepC F H μ c v → RepF (heapM w) c' v

theorem Bw.imm {H : List O} {c c' : C} (h : c.imm = true) (h' : c'.imm = true) (hw : wkC idN 0 c c') : Bw H c c' := by
  intro K F μ w v hs hv
  have hle : F.le (heapM w) := fun b o hb => hs.fr b o hb
  have h1 : RepC F [] μ c v := immC h hv
  have h2 := wkC_ok HWk.nil c c' hw v h1
  exact (imm_rep h' h2).mono hle

theorem Bw.same {H : List O} {c : C} (h : c.imm = true) : Bw H c c := Bw.imm h h (wkC.imm h)

theorem Bw.sl {H : List O} {id es l t e n : Nat} {x x' : Bool} {g g' : Nat → Nat → C} (hid : getL H id = some (.arr e es n g)) (ht : t = n) (hg : ∀ i, i < l → ∀ j, j < es → Bw H (g i j) (g' i j)) (hx : x' = true → x = true ∧ l = n) :
    Bw H (.sl id es l t x) (.isl es l g' x') := by
  subst ht
  intro K F μ w v hw hv
  obtain ⟨h0, e', n', g'', h1, h2, h3, h4⟩ := hv
  rw [hid] at h1
  cases h1
  obtain ⟨a', cap, q1, q2, q3⟩ := h4 rfl
  obtain ⟨xs, ⟨r1, r2⟩, r3, r4⟩ := hw.ob id _ hid
  rcases r2 with ⟨s1, s2⟩ | ⟨b, cap', cur, s1, _, s3, s4, s5, s6, s7⟩
  · rw [q1] at s1
    cases s1
    exact ⟨none, 0, q2, by omega, by omega, fun _ => by omega, fun _ => rfl, .inl (by omega)⟩
  · rw [q1] at s1
    cases s1
    refine ⟨_, _, q2, by omega, by omega, fun q => ?_, fun q => (by cases q), .inr ⟨b, 0, rfl, fun i hi j hj => ?_⟩⟩
    · obtain ⟨hx1, hx2⟩ := hx q
      rw [q3 hx1, hx2]
    · obtain ⟨y, y1, y2⟩ := r4 i (by omega) j hj
      have hlt : i * es + j < t * es := Nat.lt_of_lt_of_le (show i * es + j < (i + 1) * es by rw [Nat.add_mul]; omega) (Nat.mul_le_mul_right es (by omega))
      refine ⟨y, ?_, hg i hi j hj K F μ w y hw y2⟩
      simp only [Mem.cell, heapM, s3]
      simp only [Nat.zero_add]
      rw [← s7] at y1
      rw [List.getElem?_take_of_lt (by simpa using hlt)] at y1
      simpa using y1

theorem Bw.ptr {H : List O} {id off n : Nat} {cs : List C} {g : Nat → C} (hid : getL H id = some (.vr cs)) (hg : ∀ j, j < n → ∃ c, getL cs (off + j) = some c ∧ Bw H c (g j)) : Bw H (.ptr id off) (.ip n g) := by
  intro K F μ w v hw hv
  obtain ⟨_, b, h2, h3⟩ := hv
  obtain ⟨b', c, T, q1, q2, q3⟩ := hw.ob id _ hid
  rw [h2] at q1
  cases q1
  refine ⟨b, off, h3, fun j hj => ?_⟩
  obtain ⟨x, x1, x2⟩ := hg j hj
  obtain ⟨u, u1, u2⟩ := q3.2 _ x x1
  refine ⟨u, ?_, x2 K F μ w u hw u2⟩
  simp only [Mem.cell, heapM, q2]
  exact u1

def BwL (H : List O) : List C → List C → Prop
  | [], [] => True
  | c :: r, c' :: r' => Bw H c c' ∧ BwL H r r'
  | _, _ => False

theorem BwL_get {H : List O} : ∀ {xs ys : List C}, BwL H xs ys → xs.length = ys.length ∧ ∀ (j : Nat) x y, getL xs j = some x → getL ys j = some y → Bw H x y
  | [], [], _ => ⟨rfl, fun j x y h => by simp [getL] at h⟩
  | x :: r, y :: r', h => by
    obtain ⟨h1, h2⟩ := BwL_get h.2
    refine ⟨by simp [h1], fun j a b ha hb => ?_⟩
    cases j with
    | zero => simp only [getL, Option.some.injEq] at ha hb; subst ha; subst hb; exact h.1
    | succ j => simp only [getL] at ha hb; exact h2 j a b ha hb
  | [], _ :: _, h => h.elim
  | _ :: _, [], h => h.elim

/-- A slot's value. -/
def BwS (H : List O) : S → S → Prop
  | .c x, .c y => Bw H x y
  | .a xs, .a ys => BwL H xs ys
  | _, _ => False

def BwA (H : List O) : List S → List S → Prop
  | [], [] => True
  | s :: r, s' :: r' => BwS H s s' ∧ BwA H r r'
  | _, _ => False

theorem BwS_ok {H : List O} {K : Keep} {F : Mem} {μ : Nat → Value} {w : World} (hw : HSat K F H μ w) : ∀ {s s' : S}, BwS H s s' → ∀ {v : Value}, RepS F H μ s v → RepS (heapM w) [] μ s' v
  | .c x, .c y, h, v, hv => RepF.toC _ _ y v (h K F μ w v hw hv)
  | .a xs, .a ys, h, _, ⟨cs, h1, h2⟩ => by
    obtain ⟨k1, k2⟩ := BwL_get h
    refine ⟨cs, h1, h2.1.trans k1, fun j y hy => ?_⟩
    have hj := getL_lt hy
    have hx : getL xs j = some (xs[j]'(by omega)) := by rw [getL_eq]; simp
    obtain ⟨v, v1, v2⟩ := h2.2 j _ hx
    exact ⟨v, v1, RepF.toC _ _ y v (k2 j _ y hx hy K F μ w v hw v2)⟩
  | .u, _, h, _, _ => h.elim
  | .t _, _, h, _, _ => h.elim
  | .lz _ _, _, h, _, _ => h.elim
  | .c _, .u, h, _, _ => h.elim
  | .c _, .a _, h, _, _ => h.elim
  | .c _, .t _, h, _, _ => h.elim
  | .c _, .lz _ _, h, _, _ => h.elim
  | .a _, .u, h, _, _ => h.elim
  | .a _, .c _, h, _, _ => h.elim
  | .a _, .t _, h, _, _ => h.elim
  | .a _, .lz _ _, h, _, _ => h.elim

theorem BwA_ok {H : List O} {K : Keep} {F : Mem} {μ : Nat → Value} {w : World} (hw : HSat K F H μ w) : ∀ {l l' : List S}, BwA H l l' → ∀ {vs : Array Value} {o : Nat}, (∀ (j : Nat) s, getL l j = some s → ∃ v, vs[o + j]? = some v ∧ RepS F H μ s v) →
    l.length = l'.length ∧ ∀ (j : Nat) s, getL l' j = some s → ∃ v, vs[o + j]? = some v ∧ RepS (heapM w) [] μ s v
  | [], [], _, _, _, _ => ⟨rfl, fun j s h => by simp [getL] at h⟩
  | s :: r, s' :: r', ⟨h2, h3⟩, vs, o, hh => by
    obtain ⟨k1, k2⟩ := BwA_ok hw (o := o + 1) h3 (fun j t ht => by
      obtain ⟨v, v1, v2⟩ := hh (j + 1) t (by simpa [getL] using ht)
      exact ⟨v, by rw [← v1]; congr 1; omega, v2⟩)
    refine ⟨by simp [k1], fun j t ht => ?_⟩
    cases j with
    | zero =>
      simp only [getL, Option.some.injEq] at ht
      subst ht
      obtain ⟨v, v1, v2⟩ := hh 0 s rfl
      exact ⟨v, v1, BwS_ok hw h2 v2⟩
    | succ j =>
      simp only [getL] at ht
      obtain ⟨v, v1, v2⟩ := k2 j t ht
      exact ⟨v, by rw [← v1]; congr 1; omega, v2⟩
  | [], _ :: _, h, _, _, _ => h.elim
  | _ :: _, [], h, _, _, _ => h.elim

theorem HSat.later {K : Keep} {F : Mem} {H : List O} {μ : Nat → Value} {w w' : World} (hw : HSat K F H μ w) (h1 : w'.os = w.os) (h2 : w'.tape = w.tape) (h3 : w'.output = w.output) (h4 : ∀ (b : Nat) (o : Obj), w.heap[b]? = some o → w'.heap[b]? = some o) : HSat K F H μ w' := by
  refine ⟨h1.trans hw.os, h2.trans hw.tape, h3.trans hw.output, fun b o hb => h4 b o (hw.fr b o hb), fun b o hb => h4 b o (hw.kp b o hb), fun id o ho => ?_, hw.sp, hw.ij, hw.dj⟩
  have := hw.ob id o ho
  cases o with
  | vr cs =>
    obtain ⟨b, c, T, q1, q2, q3⟩ := this
    exact ⟨b, c, T, q1, h4 _ _ q2, q3⟩
  | arr e es n g =>
    obtain ⟨xs, ⟨q1, q2⟩, q3⟩ := this
    refine ⟨xs, ⟨q1, ?_⟩, q3⟩
    rcases q2 with q | ⟨g', cap, cur, q, r2, r3, rest⟩
    · exact .inl q
    · exact .inr ⟨g', cap, cur, q, r2, h4 _ _ r3, rest⟩
  | dead => trivial

/-- A call that only reads. -/
theorem CSpec.reads {P : Program} {f : FuncId} {args args' : List S} {r : S} {H : List O} (hp : PSpec P f args' r) (ha : BwA H args args') (hr : r.flat = true) {k : S → List O → Prop} (hk : k r H) : CSpec P f args H k := by
  intro K F μ w vs hw hA
  obtain ⟨l1, l2⟩ := BwA_ok hw (o := 0) ha (fun j s hs => by simpa using hA.2 j s hs)
  have hw0 : HSat { K with mem := fun _ => none } (heapM w) [] μ w :=
    ⟨hw.os, hw.tape, hw.output, fun b o hb => hb, fun b o hb => (by cases hb), fun id o ho => by simp [getL] at ho, fun id b ⟨⟨o, ho, _⟩, _⟩ => by simp [getL] at ho, fun id id' b ⟨⟨o, ho, _⟩, _⟩ => by simp [getL] at ho, fun _ _ _ => rfl⟩
  refine (hp _ (heapM w) μ w vs hw0 ⟨hA.1.trans l1, fun j s hs => by simpa using l2 j s hs⟩).mono ?_
  rintro e w' ⟨v, F', μ', s, H', rfl, h1, h2, h3, h4, rfl⟩
  exact ⟨v, F, μ, s, H, rfl, Mem.le_refl F, hw.later (h2.os.trans hw.os.symm) (h2.tape.trans hw.tape.symm) (h2.output.trans hw.output.symm) (fun b o hb => h2.fr b o (h1 b o hb)), Ext.refl H μ, flatS hr h4, hk⟩

theorem CallN.reads {X : Cx} {f : FuncId} {args args' : List S} {r : S} {dst : Option Tmp} {ts : Ts} {H : List O} (hb : HasBody X.P f) (hp : PSpec X.P f args' r) (ha : BwA H args args') (hr : r.flat = true) {k : Ts → List O → Prop}
    (hk : forceS r fun s' => putK X.nt dst s' ts fun ts' => k ts' H) : CallN X f args dst ts H k :=
  CallN.spec hb (CSpec.reads hp ha hr (by rw [forceH_eq]; exact hk))

theorem CallG.reads {P : Program} {g : Bool} {f : FuncId} {args args' : List S} {r : S} {H : List O} (hb : HasBody P f) (hp : g = true → PSpec P f args' r) (ha : g = true → BwA H args args') (hr : r.flat = true) {k : S → Prop} (hk : k r) : CallG P g f args H k :=
  CallG.mk r (fun hg => ⟨hb, CSpec.reads (hp hg) (ha hg) hr ⟨rfl, rfl⟩⟩) hk


theorem fzC_sl {id n es l t : Nat} {x : Bool} {g : Nat → Nat → C} (ht : t = n) : fzC id n g (.sl id es l t x) = .isl es l g (Nat.beq l t && x) := by
  subst ht
  have h1 : Nat.beq id id = true := Nat.beq_refl id
  have h2 : Nat.beq t t = true := Nat.beq_refl t
  simp only [fzC, h1, h2]

theorem wkC.fz {ρ : Nat → Nat} {m id n es l t l' : Nat} {x x' : Bool} {g g' : Nat → Nat → C} (ht : t = n) (hl : l = l') (hg : ∀ i, i < l → ∀ j, j < es → leF (g i j) (g' i j)) (hx : x' = true → x = true ∧ l = t) :
    wkC ρ m (fzC id n g (.sl id es l t x)) (.isl es l' g' x') := by
  rw [fzC_sl ht]
  refine wkC.isl' (leF.isl hl hg fun e => ?_)
  obtain ⟨h1, h2⟩ := hx e
  subst h2
  rw [Nat.beq_refl, h1]; rfl

/-- The array is frozen ahead of a call; what is needed afterwards is listed. -/
theorem CallN.fzTo {X : Cx} {f : FuncId} {args args' : List S} {dst : Option Tmp} {ts ts' : Ts} {H H' : List O} {k : Ts → List O → Prop} {e es n : Nat} {g : Nat → Nat → C} (id : Nat) (hid : getL H id = some (.arr e es n g)) (hn : X.n0 ≤ id)
    (him : ∀ i, i < n → ∀ j, j < es → (g i j).imm = true) (m : Nat) (hm : H'.length = m) (hH : HWkL idN m (fzH id n g H) H') (ht : wkT idN m (fzT id n g ts) ts') (ha : wkA idN m (fzA id n g args) args') (h0 : X.n0 ≤ m)
    (h : CallN X f args' dst ts' H' k) : CallN X f args dst ts H k := by
  refine CallN.fz id hid hn him ?_
  subst hm
  obtain ⟨h1, h2⟩ := h.out
  have hk : HWk idN (fzH id n g H) H' := ⟨fun i o' hi => HWkL_get hH i o' hi, fun i j _ _ e => e⟩
  refine ⟨h1, fun K F0 H0 μ0 F μ a w vs hs hA => ?_⟩
  obtain ⟨l1, l2⟩ := wkA_ok hk (o := 0) ha (fun j s hs => by simpa using hA.2 j s hs)
  exact h2 K F0 H0 μ0 F (fun i => μ (idN i)) a w vs (hs.wk ⟨hk, ht, h0⟩) ⟨hA.1.trans l1, fun j s hs => by simpa using l2 j s hs⟩


/-- A call by a contract that was proved beside nothing; what is there afterwards is said. -/
theorem CallN.opens {X : Cx} {f : FuncId} {args args' : List S} {dst : Option Tmp} {ts : Ts} {H : List O} {Q : S → List O → Prop} (hb : HasBody X.P f) (hc : CSpec X.P f args' [] Q) (ha : leA args args') {k : Ts → List O → Prop}
    (hk : ∀ s Hc', Q s Hc' → ∃ s'' H'', reS (sg [] H.length) s = s'' ∧ plug [] H Hc' = H'' ∧ forceH H'' fun H1 => forceS s'' fun s' => putK X.nt dst s' ts fun ts' => k ts' H1) : CallN X f args dst ts H k := by
  refine CallN.spec hb (CSpec.opens hc ha fun s Hc' hq => ?_)
  obtain ⟨s'', H'', rfl, rfl, h⟩ := hk s Hc' hq
  exact h

/-- A call by a contract that was proved beside fewer objects; what is there afterwards is said. -/
theorem CallN.frame {X : Cx} {f : FuncId} {args args' : List S} {dst : Option Tmp} {ts : Ts} {H Hc : List O} {Q : S → List O → Prop} (hb : HasBody X.P f) (hc : CSpec X.P f args' Hc Q) (rs : List Nat) (h : Fr H Hc rs) (hd : ∀ i, getL Hc i ≠ some .dead)
    (ha : wkA (rho rs) Hc.length args args') {k : Ts → List O → Prop}
    (hk : ∀ s Hc', Q s Hc' → ∃ s'' H'', reS (sg rs H.length) s = s'' ∧ plug rs H Hc' = H'' ∧ forceH H'' fun H1 => forceS s'' fun s' => putK X.nt dst s' ts fun ts' => k ts' H1) : CallN X f args dst ts H k := by
  refine CallN.spec hb (CSpec.frame hc rs h hd ha fun s Hc' hq => ?_)
  obtain ⟨s'', H'', rfl, rfl, h⟩ := hk s Hc' hq
  exact h

theorem CallN.imp {X : Cx} {f : FuncId} {args : List S} {dst : Option Tmp} {ts : Ts} {H : List O} {k k' : Ts → List O → Prop} (h : CallN X f args dst ts H k) (hk : ∀ ts' H', k ts' H' → k' ts' H') : CallN X f args dst ts H k' := by
  obtain ⟨h1, h2⟩ := h.out
  refine ⟨h1, fun K F0 H0 μ0 F μ a w vs hs hA => (h2 K F0 H0 μ0 F μ a w vs hs hA).mono ?_⟩
  rintro e w' ⟨v, rfl, ts', H', F', μ', p1, p2⟩
  exact ⟨v, rfl, ts', H', F', μ', hk _ _ p1, p2⟩


/-- One array of the call's own is left. -/
theorem RM.ren1 {s s' : S} {H : List O} {e es n n' : Nat} {g g' : Nat → Nat → C} (id : Nat) (hid : getL H id = some (.arr e es n g)) (hn : n = n') (hg : ∀ i, i < n → ∀ j, j < es → wkC (fun _ => id) 1 (g i j) (g' i j)) (hs : wkS (fun _ => id) 1 s s') : RM 0 s H s' [.arr e es n' g'] := by
  refine RM.ren (fun _ => id) 1 rfl ⟨?_, ?_⟩ hs
  · intro i o' hi
    match i with
    | 0 =>
      simp only [getL, Option.some.injEq] at hi
      subst hi
      exact ⟨_, hid, O.wk.arr hn hg⟩
    | i + 1 => simp [getL] at hi
  · intro i j hi hj _
    simp only [List.length_cons, List.length_nil] at hi hj
    omega

theorem wkC.own {id es l t l' t' : Nat} {x x' : Bool} (hl : l = l') (ht : t = t') (hx : x' = true → x = true) : wkC (fun _ => id) 1 (.sl id es l t x) (.sl 0 es l' t' x') := ⟨rfl, rfl, hl, ht, by decide, hx⟩


theorem Bw.leF {H : List O} {c c' : C} (h : c.imm = true) (hl : Am.leF c c') : Bw H c c' := by
  intro K F μ w v hs hv
  exact hl (heapM w) v ((imm_rep h hv).mono fun b o hb => hs.fr b o hb)
theorem BwA.nil {H : List O} : BwA H [] [] := trivial
theorem BwA.cons {H : List O} {s s' : S} {r r' : List S} (h : BwS H s s') (k : BwA H r r') : BwA H (s :: r) (s' :: r') := ⟨h, k⟩
theorem BwS.a {H : List O} {xs ys : List C} (h : BwL H xs ys) : BwS H (.a xs) (.a ys) := h
theorem BwS.c {H : List O} {x y : C} (h : Bw H x y) : BwS H (.c x) (.c y) := h
theorem BwL.nil {H : List O} : BwL H [] [] := trivial
theorem BwL.cons {H : List O} {s s' : C} {r r' : List C} (h : Bw H s s') (k : BwL H r r') : BwL H (s :: r) (s' :: r') := ⟨h, k⟩


theorem Fr.one {H : List O} {o o' : O} (id : Nat) (hid : getL H id = some o) (hw : O.wk (rho [id]) 1 o o') : Fr H [o'] [id] := by
  refine ⟨rfl, ⟨fun i x hi => ?_, fun i j hi hj _ => ?_⟩⟩
  · match i with
    | 0 =>
      simp only [getL, Option.some.injEq] at hi
      subst hi
      exact ⟨o, hid, hw⟩
    | i + 1 => simp [getL] at hi
  · simp only [List.length_cons, List.length_nil] at hi hj
    omega

theorem wkA.nil {ρ : Nat → Nat} {n : Nat} : wkA ρ n [] [] := trivial
theorem wkA.cons {ρ : Nat → Nat} {n : Nat} {s s' : S} {r r' : List S} (h : wkS ρ n s s') (k : wkA ρ n r r') : wkA ρ n (s :: r) (s' :: r') := ⟨h, k⟩
theorem wkC.ep1 {id i i' j j' t t' : Nat} (hi : i = i') (hj : j = j') (ht : t = t') : wkC (rho [id]) 1 (.ep id i j t) (.ep 0 i' j' t') := ⟨rfl, hi, hj, ht, by decide⟩
theorem wkC.sl1 {id es l t l' t' : Nat} {x x' : Bool} (hl : l = l') (ht : t = t') (hx : x' = true → x = true) : wkC (rho [id]) 1 (.sl id es l t x) (.sl 0 es l' t' x') := ⟨rfl, rfl, hl, ht, by decide, hx⟩

/-- A call that has one of the arrays. -/
theorem CallN.frame1 {X : Cx} {f : FuncId} {args args' : List S} {dst : Option Tmp} {ts : Ts} {H : List O} {e es n : Nat} {g g' : Nat → Nat → C} {Q : S → List O → Prop} (hb : HasBody X.P f) (hc : CSpec X.P f args' [.arr e es n g'] Q) (id : Nat)
    (hid : getL H id = some (.arr e es n g)) (hg : ∀ i, i < n → ∀ j, j < es → wkC (rho [id]) 1 (g i j) (g' i j)) (ha : wkA (rho [id]) 1 args args') {k : Ts → List O → Prop}
    (hk : ∀ s Hc', Q s Hc' → ∃ s'' H'', reS (sg [id] H.length) s = s'' ∧ plug [id] H Hc' = H'' ∧ forceH H'' fun H1 => forceS s'' fun s' => putK X.nt dst s' ts fun ts' => k ts' H1) : CallN X f args dst ts H k :=
  CallN.frame hb hc [id] (Fr.one id hid (O.wk.arr rfl hg)) (fun i hi => by
    match i with
    | 0 => simp [getL] at hi
    | i + 1 => simp [getL] at hi) ha hk


theorem AW.mv {X : Cx} {c : Code} {ts ts' : Ts} {H H' : List O} {k : Kp} (hm : Mv X ts H ts' H') (h : AW X c ts' H' k) : AW X c ts H k := by
  intro K F0 H0 μ0 F μ a w hs
  obtain ⟨F', μ', hs'⟩ := hm K F0 H0 μ0 F μ a w hs
  exact h K F0 H0 μ0 F' μ' a w hs'

/-- What is there is taken for less, ahead of a region whose order is open. -/
theorem Dr.mv {X : Cx} {id : Nat} {ops : Array Oper} {ts : Ts} {H : List O} {k : Kp} (ts' : Ts) (H' : List O) (hm : Mv X ts H ts' H') (h : Dr X id ops ts' H' k) : Dr X id ops ts H k := ⟨AW.mv hm h.out⟩

end Go.Am
end

section
/- THE ABSTRACT MACHINE, PART 24: weakening in small steps; loops that keep slots; rows that stand for lists. -/
namespace Go.Am

structure WC (ρ : Nat → Nat) (n : Nat) (c c' : C) : Prop where
  out : wkC ρ n c c'
structure WL (ρ : Nat → Nat) (n : Nat) (l l' : List C) : Prop where
  out : wkL ρ n l l'
structure WTL (ρ : Nat → Nat) (n : Nat) (l l' : List (C ⊕ List C)) : Prop where
  out : wkTL ρ n l l'
structure WS (ρ : Nat → Nat) (n : Nat) (s s' : S) : Prop where
  out : wkS ρ n s s'
structure WO (ρ : Nat → Nat) (n : Nat) (o o' : O) : Prop where
  out : O.wk ρ n o o'
structure WH (ρ : Nat → Nat) (n : Nat) (l l' : List O) : Prop where
  out : HWkL ρ n l l'
structure WT (ρ : Nat → Nat) (n : Nat) (ts ts' : Ts) : Prop where
  out : wkT ρ n ts ts'
structure WA (l l' : List S) : Prop where
  out : leA l l'
structure WB (ρ : Nat → Nat) (n : Nat) (l l' : List S) : Prop where
  out : wkA ρ n l l'

variable {ρ : Nat → Nat} {n : Nat}

theorem WC.imm {c : C} (h : c.imm = true) : WC ρ n c c := ⟨wkC.imm h⟩
theorem WC.int {k : IntKind} {a b : Int} (h : a = b) : WC ρ n (.int k a) (.int k b) := ⟨wkC.int h⟩
theorem WC.bool {a b : Bool} (h : a = b) : WC ρ n (.bool a) (.bool b) := ⟨wkC.bool h⟩
theorem WC.str {a b : ByteArray} (h : a = b) : WC ρ n (.str a) (.str b) := ⟨wkC.str h⟩
theorem WC.nil {es m : Nat} {g : Nat → Nat → C} {t : Bool} (hm : m = 0) : WC ρ n .nils (.isl es m g t) := ⟨wkC.nil hm⟩
theorem WC.nils : WC ρ n .nils .nils := ⟨wkC.imm rfl⟩
theorem WC.nilp : WC ρ n .nilp .nilp := ⟨wkC.imm rfl⟩
theorem WC.ptr {a b o : Nat} (h : a = ρ b) (hb : b < n) : WC ρ n (.ptr a o) (.ptr b o) := ⟨⟨h, rfl, hb⟩⟩
theorem WC.sl {a b es l t l' t' : Nat} {x x' : Bool} (h : a = ρ b) (hb : b < n) (hl : l = l') (ht : t = t') (hx : x' = true → x = true) : WC ρ n (.sl a es l t x) (.sl b es l' t' x') := ⟨⟨h, rfl, hl, ht, hb, hx⟩⟩
theorem WC.ep {a b i i' j t t' : Nat} (h : a = ρ b) (hb : b < n) (hi : i = i') (ht : t = t') : WC ρ n (.ep a i j t) (.ep b i' j t') := ⟨⟨h, hi, rfl, ht, hb⟩⟩
theorem WC.leF {c c' : C} (h : c.imm = true) (hl : Am.leF c c') : WC ρ n c c' := by
  refine ⟨?_⟩
  cases c <;> cases c' <;> first | exact ⟨h, hl⟩ | exact True.intro | (cases h; done) | skip
  case fn.fn f m g f' m' g' =>
    have hm : m = 0 := Nat.eq_of_beq_eq_true h
    subst hm
    obtain ⟨cs, h1, h2, -⟩ := hl (fun _ => none) (.func f #[] #[]) ⟨#[], rfl, rfl, fun j hj => by omega⟩
    injection h1 with h1 _ h3
    subst h1
    subst h3
    exact ⟨rfl, h2, fun j hj => by omega⟩
theorem WC.isl {es m m' : Nat} {g g' : Nat → Nat → C} {t t' : Bool} (hm : m = m') (hg : ∀ i, i < m → ∀ j, j < es → g i j = g' i j) (ht : t' = true → t = true) : WC ρ n (.isl es m g t) (.isl es m' g' t') := ⟨wkC.isl hm hg ht⟩
theorem WC.junk {c : C} : WC ρ n c .junk := by
  refine ⟨?_⟩
  cases c <;> exact True.intro

theorem WC.fz {m id n es l t l' : Nat} {x x' : Bool} {g g' : Nat → Nat → C} (ht : t = n) (hl : l = l') (hg : ∀ i, i < l → ∀ j, j < es → Am.leF (g i j) (g' i j)) (hx : x' = true → x = true ∧ l = t) : WC ρ m (fzC id n g (.sl id es l t x)) (.isl es l' g' x') := ⟨wkC.fz ht hl hg hx⟩
theorem WC.eq {ρ : Nat → Nat} {n : Nat} {c c' : C} (h : c = c') (hi : c'.imm = true) : WC ρ n c c' := by subst h; exact WC.imm hi
theorem WC.fn0 {f : Fn} {g g' : Nat → C} : WC ρ n (.fn f 0 g) (.fn f 0 g') := ⟨⟨rfl, rfl, fun j hj => by omega⟩⟩
theorem WC.fzImm {ρ : Nat → Nat} {n id m : Nat} {g : Nat → Nat → C} {c : C} (h : c.imm = true) : WC ρ n (fzC id m g c) c := by
  cases c with
  | ptr => cases h
  | ep => cases h
  | sl => cases h
  | fn f k get =>
    have hm : k = 0 := Nat.eq_of_beq_eq_true h
    subst hm
    exact WC.fn0
  | _ => exact WC.imm rfl
theorem WL.nil : WL ρ n [] [] := ⟨trivial⟩
theorem WL.cons {x y : C} {r r' : List C} (h : WC ρ n x y) (k : WL ρ n r r') : WL ρ n (x :: r) (y :: r') := ⟨⟨h.out, k.out⟩⟩
theorem WL.imm {xs : List C} (h : xs.all C.imm = true) : WL ρ n xs xs := ⟨immL_wk h⟩
theorem WTL.nil : WTL ρ n [] [] := ⟨trivial⟩
theorem WTL.consC {x y : C} {r r' : List (C ⊕ List C)} (h : WC ρ n x y) (k : WTL ρ n r r') : WTL ρ n (.inl x :: r) (.inl y :: r') := ⟨⟨h.out, k.out⟩⟩
theorem WTL.consL {x y : List C} {r r' : List (C ⊕ List C)} (h : WL ρ n x y) (k : WTL ρ n r r') : WTL ρ n (.inr x :: r) (.inr y :: r') := ⟨⟨h.out, k.out⟩⟩
theorem WS.u {s : S} : WS ρ n s .u := ⟨wkS.u⟩
theorem WS.c {x y : C} (h : WC ρ n x y) : WS ρ n (.c x) (.c y) := ⟨h.out⟩
theorem WS.a {xs ys : List C} (h : WL ρ n xs ys) : WS ρ n (.a xs) (.a ys) := ⟨wkS.a h.out⟩
theorem WS.t {xs ys : List (C ⊕ List C)} (h : WTL ρ n xs ys) : WS ρ n (.t xs) (.t ys) := ⟨wkS.t h.out⟩
theorem WS.imm {s : S} (h : s.imm = true) : WS ρ n s s := ⟨wkS.imm h⟩
theorem WO.vr {xs ys : List C} (h : WL ρ n xs ys) : WO ρ n (.vr xs) (.vr ys) := ⟨O.wk.vr h.out⟩
theorem WO.arr {e es m m' : Nat} {g g' : Nat → Nat → C} (hm : m = m') (h : ∀ i, i < m → ∀ j, j < es → WC ρ n (g i j) (g' i j)) : WO ρ n (.arr e es m g) (.arr e es m' g') := ⟨O.wk.arr hm fun i hi j hj => (h i hi j hj).out⟩
theorem WO.dead : WO ρ n .dead .dead := ⟨trivial⟩
theorem WH.nil {H : List O} : WH ρ n H [] := by
  refine ⟨?_⟩
  cases H <;> trivial
theorem WH.cons {o o' : O} {r r' : List O} (h : WO ρ n o o') (k : WH ρ n r r') : WH ρ n (o :: r) (o' :: r') := ⟨⟨h.out, k.out⟩⟩
theorem WT.nil {ts : Ts} : WT ρ n ts [] := ⟨trivial⟩
theorem WT.cons {ts r : Ts} {t : Nat} {s : S} (h : WS ρ n (find t ts) s) (k : WT ρ n ts r) : WT ρ n ts ((t, s) :: r) := ⟨⟨h.out, k.out⟩⟩
theorem WA.nil : WA [] [] := ⟨trivial⟩
theorem WA.cons {s s' : S} {r r' : List S} (h1 : s.imm = true) (h2 : WS idN 0 s s') (h3 : WA r r') : WA (s :: r) (s' :: r') := ⟨leA.cons h1 h2.out h3.out⟩
theorem WB.nil : WB ρ n [] [] := ⟨trivial⟩
theorem WB.cons {s s' : S} {r r' : List S} (h2 : WS ρ n s s') (h3 : WB ρ n r r') : WB ρ n (s :: r) (s' :: r') := ⟨⟨h2.out, h3.out⟩⟩

theorem CallN.pureW {X : Cx} {f : FuncId} {args args' : List S} {r : S} {dst : Option Tmp} {ts : Ts} {H : List O} (hb : HasBody X.P f) (hp : PSpec X.P f args' r) (ha : WA args args') (hr : r.imm = true) {k : Ts → List O → Prop}
    (hk : forceS r fun s' => putK X.nt dst s' ts fun ts' => k ts' H) : CallN X f args dst ts H k := CallN.pure hb hp ha.out hr hk
theorem CallP.mkW {P : Program} {f : FuncId} {args args' : List S} {r : S} (hb : HasBody P f) (hp : PSpec P f args' r) (ha : WA args args') (hr : r.imm = true) {k : S → Prop} (hk : k r) : CallP P true f args k := CallP.mk hb hp ha.out hr hk
theorem Mv.mkW {X : Cx} {ts ts' : Ts} {H H' : List O} (h : WH idN H'.length H H') (t : WT idN H'.length ts ts') (h0 : X.n0 ≤ H'.length) : Mv X ts H ts' H' := Mv.mk' _ rfl h.out t.out h0
theorem RM.immW {H : List O} {s s' : S} (h : s.imm = true) (hs : WS idN 0 s s') : RM 0 s H s' [] := RM.imm h hs.out
theorem RM.wkW {n0 : Nat} {s s' : S} {H H' : List O} (h : WH idN H'.length H H') (hs : WS idN H'.length s s') (hn : n0 ≤ H'.length) : RM n0 s H s' H' := RM.wk _ rfl h.out hs.out hn

/-! ### a loop that keeps slots -/
def C.bel (n : Nat) : C → Bool
  | .ptr a _ => Nat.blt a n
  | .ep a _ _ _ => Nat.blt a n
  | .sl a _ _ _ _ => Nat.blt a n
  | .fn _ m _ => Nat.beq m 0
  | _ => true
theorem C.bel_ok {c : C} (h : c.bel n = true) : wkC idN n c c := by
  cases c with
  | ptr a o => exact ⟨rfl, rfl, Nat.le_of_ble_eq_true h⟩
  | ep a i j t => exact ⟨rfl, rfl, rfl, rfl, Nat.le_of_ble_eq_true h⟩
  | sl a es l t x => exact ⟨rfl, rfl, rfl, rfl, Nat.le_of_ble_eq_true h, fun e => e⟩
  | fn f m g =>
    have hm : m = 0 := Nat.eq_of_beq_eq_true h
    subst hm
    exact ⟨rfl, rfl, fun j hj => by omega⟩
  | _ => exact wkC.imm rfl
theorem WC.bel {c : C} (h : c.bel n = true) : WC idN n c c := ⟨C.bel_ok h⟩

/-- The slots that are kept. -/
def keepT : List Nat → Ts → Ts
  | [], _ => []
  | t :: r, ts => (t, find t ts) :: keepT r ts

theorem Lp.mkK {X : Cx} (hΓ : EnvOk X.P X.Γ) {c : Code} {ts : Ts} {H : List O} {k : Kp} {ι : Type} (kp : List Nat) (st : ι → Ts) (Hs : ι → List O) (ok : ι → Prop) (m : ι → Nat) (i0 : ι) (h0 : ok i0) (hw : Mv X ts H (st i0 ++ keepT kp ts) (Hs i0))
    (round : ∀ i, ok i → vc X c (st i ++ keepT kp ts) (Hs i) fun e ts' H' => match e with
      | .normal => ∃ j, ok j ∧ m j < m i ∧ Mv X ts' H' (st j ++ keepT kp ts) (Hs j)
      | .exit id => k (.exit id) ts' H'
      | .ret => k .ret ts' H') : Lp X c ts H k :=
  Lp.mk hΓ (fun i => st i ++ keepT kp ts) Hs ok m i0 h0 hw round

theorem Dr.mvK {X : Cx} {id : Nat} {ops : Array Oper} {ts : Ts} {H : List O} {k : Kp} (kp : List Nat) (st : Ts) (H' : List O) (hm : Mv X ts H (st ++ keepT kp ts) H') (h : Dr X id ops (st ++ keepT kp ts) H' k) : Dr X id ops ts H k := ⟨AW.mv hm h.out⟩
theorem CallN.mvK {X : Cx} {f : FuncId} {args : List S} {dst : Option Tmp} {ts : Ts} {H : List O} {k : Ts → List O → Prop} (kp : List Nat) (st : Ts) (H' : List O) (args' : List S)
    (hm : ∀ K F0 H0 μ0 F μ a w, Sat X K F0 H0 μ0 ts H F μ a w → ∃ F' μ', Sat X K F0 H0 μ0 (st ++ keepT kp ts) H' F' μ' a w ∧ ∀ vs, RepA F H μ args vs → RepA F' H' μ' args' vs)
    (h : CallN X f args' dst (st ++ keepT kp ts) H' k) : CallN X f args dst ts H k := by
  obtain ⟨h1, h2⟩ := h.out
  refine ⟨h1, fun K F0 H0 μ0 F μ a w vs hs hA => ?_⟩
  obtain ⟨F', μ', hs', hA'⟩ := hm _ _ _ _ _ _ _ _ hs
  exact h2 K F0 H0 μ0 F' μ' a w vs hs' (hA' vs hA)

/-! ### rows that stand for lists -/
def rowG {α : Type} [Inhabited α] (f : α → Nat → C) (l : List α) : Nat → Nat → C := fun i j => f (l.getD i default) j

section
variable {α : Type} [Inhabited α] {f : α → Nat → C}
theorem rowG_get (l : List α) {i : Nat} (h : i < l.length) (j : Nat) : rowG f l i j = f l[i] j := by simp [rowG, List.getD, h]
theorem rowG_app {l r : List α} {n : Nat} (hn : n = l.length) {i : Nat} (j : Nat) : appG (rowG f l) n (rowG f r) i j = rowG f (l ++ r) i j := by
  subst hn
  simp only [appG, rowG, List.getD]
  split
  · rw [List.getElem?_append_left (by assumption)]
  · rw [List.getElem?_append_right (by omega)]
theorem rowG_app0 {l : List α} {g : Nat → Nat → C} {i : Nat} (j : Nat) : appG g 0 (rowG f l) i j = rowG f l i j := by simp [appG]
theorem rowG_snoc {l : List α} {n es : Nat} {x : α} {cs : List C} (hn : n = l.length) (hc : ∀ j, j < es → lget cs j = f x j) {i j : Nat} (hi : i < l.length + 1) (hj : j < es) : appG (rowG f l) n (flatG es cs) i j = rowG f (l ++ [x]) i j := by
  subst hn
  simp only [appG, rowG, List.getD]
  split
  · rw [List.getElem?_append_left (by assumption)]
  · have : i = l.length := by omega
    subst this
    simp [flatG, hc j hj]
theorem rowG_set {l : List α} {k j0 : Nat} {x : α} {ys : List C} (hk : k < l.length) {es : Nat} (hy : ∀ j, j < es → (if j0 ≤ j ∧ j < j0 + ys.length then lget ys (j - j0) else f (l.getD k default) j) = f x j) (i j : Nat) (hj : j < es) : updG (rowG f l) k j0 ys i j = rowG f (l.set k x) i j := by
  have hy' := hy j hj
  simp only [updG, rowG]
  by_cases c : i = k
  · subst c
    have e : (l.set i x).getD i default = x := by simp [List.getD, hk]
    rw [e, ← hy']
    by_cases c2 : j0 ≤ j ∧ j < j0 + ys.length
    · rw [if_pos ⟨rfl, c2⟩, if_pos c2]
    · rw [if_neg (fun h => c2 h.2), if_neg c2]
  · rw [if_neg (fun h => c h.1)]
    simp only [List.getD]
    rw [List.getElem?_set_ne (Ne.symm c)]
theorem rowG_zero {n : Nat} {z : List C} (hz : ∀ j, lget z j = f default j) (i j : Nat) : zeroG z i j = rowG f (List.replicate n default) i j := by
  simp only [zeroG, rowG, hz]
  congr 1
  simp only [List.getD]
  by_cases h : i < n
  · simp [h]
  · simp [h]
end

/-! ### an array's cells are taken for others -/
theorem ext_set {H H' : List O} {μ : Nat → Value} {id e es n : Nat} {g g' : Nat → Nat → C} (hid : getL H id = some (.arr e es n g)) (hset : setL H id (.arr e es n g') = some H') : Ext H μ H' μ := by
  obtain ⟨h1, h2⟩ := getL_set hset
  refine ⟨fun i cs hc => ⟨⟨cs, ?_⟩, rfl⟩, fun i e' es' n' g'' hc => ?_⟩
  · by_cases c : i = id
    · subst c; rw [hid] at hc; cases hc
    · rw [h2 i c]; exact hc
  · by_cases c : i = id
    · subst c; rw [hid] at hc; cases hc
      exact ⟨_, g', h1, Nat.le_refl _, fun _ => rfl⟩
    · exact ⟨_, g'', by rw [h2 i c]; exact hc, Nat.le_refl _, fun _ => rfl⟩

theorem HSat.rg {K : Keep} {F : Mem} {H H' : List O} {μ : Nat → Value} {w : World} (hw : HSat K F H μ w) {id e es n : Nat} {g g' : Nat → Nat → C} (hid : getL H id = some (.arr e es n g))
    (hg : ∀ i, i < n → ∀ j, j < es → ∀ v, RepC F H μ (g i j) v → RepC F H μ (g' i j) v) (hset : setL H id (.arr e es n g') = some H') : HSat K F H' μ w := by
  obtain ⟨h1, h2⟩ := getL_set hset
  have hE : Ext H μ H' μ := ext_set hid hset
  have := hw.step id (.arr e es n g') (μ id) h1 h2 (by rw [upd_self]; exact hE) (row := none) ⟨rfl, rfl, rfl, Nat.le_refl _, fun _ _ _ => rfl⟩ (fun k e => by cases e) (fun b hb => .inl ⟨⟨_, hid, fun e => by cases e⟩, hb⟩) (by
    rw [upd_self]
    obtain ⟨xs, x1, x2, x3⟩ := hw.ob id _ hid
    exact ⟨xs, x1, x2, fun i hi j hj => by
      obtain ⟨v, v1, v2⟩ := x3 i hi j hj
      exact ⟨v, v1, RepC.mono (Mem.le_refl F) hE _ _ (hg i hi j hj v v2)⟩⟩)
  rw [upd_self] at this
  exact this

theorem Mv.rg {X : Cx} {ts : Ts} {H H' : List O} (id : Nat) {e es n : Nat} {g g' : Nat → Nat → C} (hid : getL H id = some (.arr e es n g)) (hg : ∀ i, i < n → ∀ j, j < es → g i j = g' i j) (hset : setL H id (.arr e es n g') = some H') : Mv X ts H ts H' := by
  intro K F0 H0 μ0 F μ a w hs
  have hE : Ext H μ H' μ := ext_set hid hset
  exact ⟨F, μ, hs.le, hs.ext.trans hE, hs.hs.rg hid (fun i hi j hj v hv => by rw [← hg i hi j hj]; exact hv) hset, hs.tp.mono (Mem.le_refl F) hE, hs.sz, hs.df, hs.n0⟩

theorem RM.rg {n0 : Nat} {s s' : S} {H H' H'' : List O} (id : Nat) {e es n : Nat} {g g' : Nat → Nat → C} (hid : getL H id = some (.arr e es n g)) (hg : ∀ i, i < n → ∀ j, j < es → g i j = g' i j) (hset : setL H id (.arr e es n g') = some H')
    (h : RM n0 s H' s' H'') : RM n0 s H s' H'' :=
  RM.trans ⟨fun K F μ w v hw hs => by
    have hE : Ext H μ H' μ := ext_set hid hset
    exact ⟨F, μ, Mem.le_refl F, hw.rg hid (fun i hi j hj v hv => by rw [← hg i hi j hj]; exact hv) hset, RepS.mono (Mem.le_refl F) hE _ _ hs, fun _ _ _ he => he.trans hE⟩⟩ h

theorem CallN.mv {X : Cx} {f : FuncId} {args : List S} {dst : Option Tmp} {ts ts' : Ts} {H H' : List O} {k : Ts → List O → Prop} (hm : ∀ K F0 H0 μ0 F μ a w, Sat X K F0 H0 μ0 ts H F μ a w → ∃ F' μ', Sat X K F0 H0 μ0 ts' H' F' μ' a w ∧ ∀ vs, RepA F H μ args vs → RepA F' H' μ' args vs)
    (h : CallN X f args dst ts' H' k) : CallN X f args dst ts H k := by
  obtain ⟨h1, h2⟩ := h.out
  refine ⟨h1, fun K F0 H0 μ0 F μ a w vs hs hA => ?_⟩
  obtain ⟨F', μ', hs', hA'⟩ := hm _ _ _ _ _ _ _ _ hs
  exact h2 K F0 H0 μ0 F' μ' a w vs hs' (hA' vs hA)

theorem CallN.rg {X : Cx} {f : FuncId} {args : List S} {dst : Option Tmp} {ts : Ts} {H H' : List O} {k : Ts → List O → Prop} (id : Nat) {e es n : Nat} {g g' : Nat → Nat → C} (hid : getL H id = some (.arr e es n g)) (hg : ∀ i, i < n → ∀ j, j < es → g i j = g' i j) (hset : setL H id (.arr e es n g') = some H')
    (h : CallN X f args dst ts H' k) : CallN X f args dst ts H k := by
  refine CallN.mv (fun K F0 H0 μ0 F μ a w hs => ?_) h
  have hE : Ext H μ H' μ := ext_set hid hset
  exact ⟨F, μ, ⟨hs.le, hs.ext.trans hE, hs.hs.rg hid (fun i hi j hj v hv => by rw [← hg i hi j hj]; exact hv) hset, hs.tp.mono (Mem.le_refl F) hE, hs.sz, hs.df, hs.n0⟩, fun vs hA => ⟨hA.1, fun j s hj => by
    obtain ⟨v, v1, v2⟩ := hA.2 j s hj
    exact ⟨v, v1, RepS.mono (Mem.le_refl F) hE _ _ v2⟩⟩⟩

theorem Lp.mv {X : Cx} {c : Code} {ts ts' : Ts} {H H' : List O} {k : Kp} (hm : Mv X ts H ts' H') (h : Lp X c ts' H' k) : Lp X c ts H k := ⟨AW.mv hm h.out⟩

/-! ### the objects get other numbers -/
structure WR (ρ : Nat → Nat) (n : Nat) (H : List O) (rs : List Nat) (H' : List O) : Prop where
  len : rs.length = H'.length
  get : ∀ i a o', getL rs i = some a → getL H' i = some o' → ∃ o, getL H a = some o ∧ O.wk ρ n o o'
theorem WR.nil {H : List O} : WR ρ n H [] [] := ⟨rfl, fun i a o' h => by simp [getL] at h⟩
theorem WR.cons {H : List O} {a : Nat} {o o' : O} {r : List Nat} {r' : List O} (ha : getL H a = some o) (h : WO ρ n o o') (k : WR ρ n H r r') : WR ρ n H (a :: r) (o' :: r') := by
  refine ⟨by simp [k.len], fun i b x hb hx => ?_⟩
  cases i with
  | zero => simp only [getL, Option.some.injEq] at hb hx; subst hb; subst hx; exact ⟨o, ha, h.out⟩
  | succ i => exact k.get i b x (by simpa [getL] using hb) (by simpa [getL] using hx)

theorem getL_some {α : Type} {l : List α} {i : Nat} (h : i < l.length) : ∃ x, getL l i = some x := ⟨l[i], by rw [getL_eq]; simp [h]⟩

theorem RM.renW {s s' : S} {H H' : List O} (rs : List Nat) (hr : rs.Nodup) (h : WR (rho rs) H'.length H rs H') (hs : WS (rho rs) H'.length s s') : RM 0 s H s' H' := by
  refine RM.ren (rho rs) _ rfl ⟨fun i o' ho => ?_, fun i j hi hj e => ?_⟩ hs.out
  · have hi := getL_lt ho
    rw [← h.len] at hi
    obtain ⟨a, ha⟩ := getL_some hi
    have : rho rs i = a := by simp [rho, ha]
    rw [this]
    exact h.get i a o' ha ho
  · rw [← h.len] at hi hj
    have e1 : rho rs i = rs[i] := by simp [rho, getL_eq, hi]
    have e2 : rho rs j = rs[j] := by simp [rho, getL_eq, hj]
    rw [e1, e2] at e
    have hp := List.pairwise_iff_getElem.1 hr
    rcases Nat.lt_trichotomy i j with h | h | h
    · exact absurd e (hp i j hi hj h)
    · exact h
    · exact absurd e.symm (hp j i hj hi h)

/-! ### lists of whole numbers -/
def intC (k : IntKind) (n : Int) (_ : Nat) : C := .int k n
def intsG (k : IntKind) (l : List Int) : Nat → Nat → C := rowG (intC k) l
def intsC (l : List Int) : C := .isl 1 l.length (intsG .i64 l) false
theorem intsG_imm {k : IntKind} {l : List Int} {i j : Nat} : (intsG k l i j).imm = true := rfl

theorem ints_set {q : IntKind} {l : List Int} {k : Nat} {x : Int} (hk : k < l.length) (i j : Nat) (hj : j < 1) : updG (intsG q l) k 0 [.int q x] i j = intsG q (l.set k x) i j := by
  refine rowG_set hk (es := 1) (fun j hj => ?_) i j hj
  have : j = 0 := by omega
  subst this
  simp [lget, getL, intC]
theorem ints_zero {q : IntKind} {n : Nat} {z : List C} (hz : z = [.int q 0]) (i j : Nat) (hj : j < 1) : zeroG z i j = intsG q (List.replicate n 0) i j := by
  subst hz
  have : j = 0 := by omega
  subst this
  simp only [zeroG, intsG, rowG, intC, lget, getL, List.getD]
  by_cases h : i < n
  · simp [h]
  · simp [h]

/-- A list of which the first k were made. -/
def fillL {α : Type} (f : α → Int) (l : List α) (k : Nat) : List Int := (l.take k).map f ++ List.replicate (l.length - k) 0
section
variable {α : Type} [Inhabited α] {f : α → Int} {l : List α}
omit [Inhabited α] in
theorem fillL_len {k : Nat} (h : k ≤ l.length) : (fillL f l k).length = l.length := by simp [fillL]; omega
omit [Inhabited α] in
theorem fillL_zero : fillL f l 0 = List.replicate l.length 0 := by simp [fillL]
omit [Inhabited α] in
theorem fillL_all : fillL f l l.length = l.map f := by simp [fillL]
theorem fillL_set {k : Nat} (h : k < l.length) : (fillL f l k).set k (f (l.getD k default)) = fillL f l (k + 1) := by
  apply List.ext_getElem?
  intro i
  simp only [fillL, List.getD]
  rcases Nat.lt_trichotomy i k with c | c | c
  · rw [List.getElem?_set_ne (by omega), List.getElem?_append_left (by simp; omega), List.getElem?_append_left (by simp; omega)]
    simp [List.getElem?_take, c, Nat.lt_succ_of_lt c]
  · subst c
    rw [List.getElem?_set_self (by simp; omega), List.getElem?_append_left (by simp; omega)]
    simp [h]
  · rw [List.getElem?_set_ne (by omega), List.getElem?_append_right (by simp; omega), List.getElem?_append_right (by simp; omega)]
    simp only [List.length_map, List.length_take, List.getElem?_replicate]
    by_cases c2 : i < l.length
    · rw [if_pos (by omega), if_pos (by omega)]
    · rw [if_neg (by omega), if_neg (by omega)]
theorem fillL_same {k : Nat} (h : k < l.length) (h0 : f (l.getD k default) = 0) : fillL f l (k + 1) = fillL f l k := by
  rw [← fillL_set h, h0]
  apply List.ext_getElem?
  intro i
  by_cases c : i = k
  · subst c
    rw [List.getElem?_set_self (by rw [fillL_len]; exact h; omega)]
    simp only [fillL]
    rw [List.getElem?_append_right (by simp; omega)]
    simp only [List.length_map, List.length_take, List.getElem?_replicate]
    rw [if_pos (by omega)]
  · rw [List.getElem?_set_ne (Ne.symm c)]
end
end Go.Am
end

section
/- THE ABSTRACT MACHINE, PART 25: a nil in a variable, taken for an array without elements. -/
namespace Go.Am
theorem ext_setV {H H' : List O} {μ : Nat → Value} {id : Nat} {cs cs' : List C} (hid : getL H id = some (.vr cs)) (hset : setL H id (.vr cs') = some H') : Ext H μ H' μ := by
  obtain ⟨h1, h2⟩ := getL_set hset
  refine ⟨fun i ds hc => ⟨?_, rfl⟩, fun i e' es' n' g'' hc => ?_⟩
  · by_cases c : i = id
    · subst c; exact ⟨_, h1⟩
    · exact ⟨_, by rw [h2 i c]; exact hc⟩
  · by_cases c : i = id
    · subst c; rw [hid] at hc; cases hc
    · exact ⟨_, g'', by rw [h2 i c]; exact hc, Nat.le_refl _, fun _ => rfl⟩

theorem HSat.rv {K : Keep} {F : Mem} {H H' : List O} {μ : Nat → Value} {w : World} (hw : HSat K F H μ w) {id : Nat} {cs cs' : List C} (hid : getL H id = some (.vr cs)) (hl : cs.length = cs'.length)
    (hg : ∀ (j : Nat) x y, getL cs j = some x → getL cs' j = some y → ∀ v, RepC F H μ x v → RepC F H μ y v) (hset : setL H id (.vr cs') = some H') : HSat K F H' μ w := by
  obtain ⟨h1, h2⟩ := getL_set hset
  have hE : Ext H μ H' μ := ext_setV hid hset
  have := hw.step id (.vr cs') (μ id) h1 h2 (by rw [upd_self]; exact hE) (row := none) ⟨rfl, rfl, rfl, Nat.le_refl _, fun _ _ _ => rfl⟩ (fun k e => by cases e) (fun b hb => .inl ⟨⟨_, hid, fun e => by cases e⟩, hb⟩) (by
    rw [upd_self]
    obtain ⟨b, c, T, x1, x2, x3⟩ := hw.ob id _ hid
    refine ⟨b, c, T, x1, x2, by rw [x3.1, hl], fun j y hy => ?_⟩
    obtain ⟨x, hx⟩ := getL_some (l := cs) (i := j) (by rw [hl]; exact getL_lt hy)
    obtain ⟨v, v1, v2⟩ := x3.2 j x hx
    exact ⟨v, v1, RepC.mono (Mem.le_refl F) hE _ _ (hg j x y hx hy v v2)⟩)
  rw [upd_self] at this
  exact this

/-- A cell 'nil' of a variable, taken for an array of the call's own without elements. -/
theorem Mv.reserveO {X : Cx} {ts : Ts} {H H' : List O} (id j e es : Nat) (g : Nat → Nat → C) {cs cs' : List C} (hid : getL H id = some (.vr cs)) (hj : getL cs j = some .nils) (hcs : setL cs j (.sl H.length es 0 0 false) = some cs')
    (hset : setL H id (.vr cs') = some H') : Mv X ts H ts (H' ++ [.arr e es 0 g]) := by
  intro K F0 H0 μ0 F μ a w hs
  have hE := Ext.push H μ (.arr e es 0 g) (.slice none 0 0)
  have hw : HSat K F (H ++ [.arr e es 0 g]) (upd μ H.length (.slice none 0 0)) w := hs.hs.push _ _ ⟨rfl, rfl, rfl, Nat.le_refl _, fun _ _ _ => rfl⟩ (fun b hb => by cases hb) (by
    refine ⟨[], ?_, Nat.zero_le _, fun i hi => by omega⟩
    simp only [upd, if_true]
    exact World.ownsRow_nil w 0 e es)
  have hlt := getL_lt hid
  have hid' : getL (H ++ [.arr e es 0 g]) id = some (.vr cs) := by rw [getL_append_lt H _ id (by omega)]; exact hid
  have hset' : setL (H ++ [.arr e es 0 g]) id (.vr cs') = some (H' ++ [.arr e es 0 g]) := by
    have key : ∀ (l l' : List O) (i : Nat) (y z : O), setL l i y = some l' → setL (l ++ [z]) i y = some (l' ++ [z]) := by
      intro l
      induction l with
      | nil => intro l' i y z h; simp [setL] at h
      | cons x r ih =>
        intro l' i y z h
        cases i with
        | zero => simp only [setL, Option.some.injEq] at h; subst h; rfl
        | succ i =>
          simp only [setL, List.cons_append] at h ⊢
          cases hr : setL r i y with
          | none => rw [hr] at h; cases h
          | some r' =>
            rw [hr] at h
            cases h
            rw [ih r' i y z hr]
            rfl
    exact key _ _ _ _ _ hset
  obtain ⟨hjl, hcs2⟩ := setL_eq _ _ _ _ hcs
  obtain ⟨hc1, hc2⟩ : getL cs' j = some (.sl H.length es 0 0 false) ∧ ∀ i, i ≠ j → getL cs' i = getL cs i := by
    subst hcs2
    refine ⟨by rw [getL_eq]; simp [hjl], fun i hi => ?_⟩
    rw [getL_eq, getL_eq, List.getElem?_set_ne (Ne.symm hi)]
  have hE2 := ext_setV (μ := upd μ H.length (.slice none 0 0)) hid' hset'
  refine ⟨F, _, hs.le, (hs.ext.trans hE).trans hE2, hw.rv hid' (by rw [hcs2]; simp) (fun i x y hx hy v hv => ?_) hset', (hs.tp.mono (Mem.le_refl F) hE).mono (Mem.le_refl F) hE2, hs.sz, hs.df, hs.n0⟩
  by_cases c : i = j
  · subst c
    rw [hj] at hx
    rw [hc1] at hy
    cases hx
    cases hy
    have hv' : v = .slice none 0 0 := hv
    subst hv'
    exact ⟨rfl, e, 0, g, getL_append_eq _ _, Nat.le_refl _, Nat.le_refl _, fun _ => ⟨none, 0, by simp [upd], rfl, fun e => by cases e⟩⟩
  · rw [hc2 i c, hx] at hy
    cases hy
    exact hv

/-- The array is frozen ahead of a call; slots are kept. -/
theorem CallN.fzK {X : Cx} {f : FuncId} {args : List S} {dst : Option Tmp} {ts : Ts} {H : List O} {k : Ts → List O → Prop} {e es n : Nat} {g : Nat → Nat → C} (id : Nat) (kp : List Nat) (st : Ts) (H' : List O) (args' : List S) (hid : getL H id = some (.arr e es n g)) (hn : X.n0 ≤ id)
    (him : ∀ i, i < n → ∀ j, j < es → (g i j).imm = true) (hH : WH idN H'.length (fzH id n g H) H') (ht : WT idN H'.length (fzT id n g ts) (st ++ keepT kp ts)) (ha : WB idN H'.length (fzA id n g args) args') (h0 : X.n0 ≤ H'.length)
    (h : CallN X f args' dst (st ++ keepT kp ts) H' k) : CallN X f args dst ts H k :=
  CallN.fzTo id hid hn him _ rfl hH.out ht.out ha.out h0 h
end Go.Am
namespace Go.Am
def noDead : List O → Bool
  | [] => true
  | .dead :: _ => false
  | _ :: r => noDead r
theorem noDead_ok : ∀ {H : List O}, noDead H = true → ∀ i, getL H i ≠ some .dead
  | [], _, i => by simp [getL]
  | .dead :: _, h, _ => by simp [noDead] at h
  | .vr cs :: r, h, i => by
    cases i with
    | zero => simp [getL]
    | succ i => exact noDead_ok (H := r) h i
  | .arr e es n g :: r, h, i => by
    cases i with
    | zero => simp [getL]
    | succ i => exact noDead_ok (H := r) h i

theorem Fr.ofW {H Hc : List O} {rs : List Nat} (hr : rs.Nodup) (h : WR (rho rs) Hc.length H rs Hc) : Fr H Hc rs := by
  refine ⟨h.len, ⟨fun i o' ho => ?_, fun i j hi hj e => ?_⟩⟩
  · have hi := getL_lt ho
    rw [← h.len] at hi
    obtain ⟨a, ha⟩ := getL_some hi
    have : rho rs i = a := by simp [rho, ha]
    rw [this]
    exact h.get i a o' ha ho
  · rw [← h.len] at hi hj
    have e1 : rho rs i = rs[i] := by simp [rho, getL_eq, hi]
    have e2 : rho rs j = rs[j] := by simp [rho, getL_eq, hj]
    rw [e1, e2] at e
    have hp := List.pairwise_iff_getElem.1 hr
    rcases Nat.lt_trichotomy i j with h | h | h
    · exact absurd e (hp i j hi hj h)
    · exact h
    · exact absurd e.symm (hp j i hj hi h)

/-- A call with objects of the caller's, by a contract that names what comes out. -/
theorem CallN.frameQ {X : Cx} {f : FuncId} {args args' : List S} {dst : Option Tmp} {ts : Ts} {H Hc Hc0 : List O} {s0 : S} (rs : List Nat) (hb : HasBody X.P f) (hc : CSpec X.P f args' Hc fun s H' => s = s0 ∧ H' = Hc0) (hr : rs.Nodup) (h : WR (rho rs) Hc.length H rs Hc)
    (hd : noDead Hc = true) (ha : WB (rho rs) Hc.length args args') {k : Ts → List O → Prop}
    (hk : forceH (plug rs H Hc0) fun H1 => forceS (reS (sg rs H.length) s0) fun s' => putK X.nt dst s' ts fun ts' => k ts' H1) : CallN X f args dst ts H k :=
  CallN.frame hb hc rs (Fr.ofW hr h) (noDead_ok hd) ha.out fun s Hc' hq => by
    obtain ⟨rfl, rfl⟩ := hq
    exact ⟨_, _, rfl, rfl, hk⟩

def memI : List S → Nat → Bool
  | [], _ => false
  | s :: r, n => (match idS s with
    | some m => Nat.beq m n
    | none => false) || memI r n
theorem memI_ok : ∀ {l : List S} {n : Nat}, memI l n = true → ∃ a ∈ l, idS a = some n
  | [], _, h => by simp [memI] at h
  | s :: r, n, h => by
    simp only [memI, Bool.or_eq_true] at h
    rcases h with h | h
    · refine ⟨s, by simp, ?_⟩
      cases hs : idS s with
      | none => rw [hs] at h; cases h
      | some m =>
        rw [hs] at h
        have := Nat.eq_of_beq_eq_true h
        subst this; rfl
    · obtain ⟨a, a1, a2⟩ := memI_ok h
      exact ⟨a, by simp [a1], a2⟩

theorem CallE.frameQ {P : Program} {f : FuncId} {args args' : List S} {H Hc Hc0 : List O} {s0 : S} (rs : List Nat) (hb : HasBody P f) (hc : CSpec P f args' Hc fun s H' => s = s0 ∧ H' = Hc0) (hr : rs.Nodup) (h : WR (rho rs) Hc.length H rs Hc)
    (hd : noDead Hc = true) (ha : WB (rho rs) Hc.length args args') (hrs : rs.all (memI args) = true) {k : S → List O → Prop} (hk : k (reS (sg rs H.length) s0) (plug rs H Hc0)) : CallE P f args H k := by
  refine ⟨_, _, hb, CSpec.frame hc rs (Fr.ofW hr h) (noDead_ok hd) ha.out fun s Hc' hq => ?_, fun id o hid ho => ?_, hk⟩
  · obtain ⟨rfl, rfl⟩ := hq
    exact ⟨rfl, rfl⟩
  · refine (Fr.old (μ := fun _ => undef) (μ' := fun _ => undef) (Fr.ofW hr h) ho ?_).1
    cases hx : idx rs id with
    | none => rfl
    | some i =>
      have hm := idx_some hx
      rw [getL_eq] at hm
      have := List.all_eq_true.1 hrs id (List.mem_of_getElem? hm)
      obtain ⟨a, a1, a2⟩ := memI_ok this
      exact absurd a2 (hid a a1)
end Go.Am
namespace Go.Am
/-- A loop that leaves the objects alone. -/
theorem Lp.mkH {X : Cx} (hΓ : EnvOk X.P X.Γ) {c : Code} {ts : Ts} {H : List O} {k : Kp} {ι : Type} (kp : List Nat) (st : ι → Ts) (ok : ι → Prop) (m : ι → Nat) (i0 : ι) (h0 : ok i0) (hw : Mv X ts H (st i0 ++ keepT kp ts) H)
    (round : ∀ i, ok i → vc X c (st i ++ keepT kp ts) H fun e ts' H' => match e with
      | .normal => ∃ j, ok j ∧ m j < m i ∧ Mv X ts' H' (st j ++ keepT kp ts) H
      | .exit id => k (.exit id) ts' H'
      | .ret => k .ret ts' H') : Lp X c ts H k := Lp.mkK hΓ kp st (fun _ => H) ok m i0 h0 hw round
theorem CallP.mkGW {P : Program} {g : Bool} {f : FuncId} {args args' : List S} {r : S} (hb : HasBody P f) (hp : g = true → PSpec P f args' r) (ha : WA args args') (hr : r.imm = true) {k : S → Prop} (hk : k r) : CallP P g f args k := CallP.mkG hb hp (fun _ => ha.out) hr hk
theorem CallG.pureW {P : Program} {g : Bool} {f : FuncId} {args args' : List S} {r : S} {H : List O} (hb : HasBody P f) (hp : g = true → PSpec P f args' r) (ha : WA args args') (hr : r.imm = true) {k : S → Prop} (hk : k r) : CallG P g f args H k := CallG.pure hb hp (fun _ => ha.out) hr hk
theorem lit_ints {q : IntKind} {l : List Int} {xs : List C} (h : xs = l.map (fun n => C.int q n)) {i j : Nat} (hi : i < l.length) (hj : j < 1) : flatG 1 xs i j = intsG q l i j := by
  subst h
  have : j = 0 := by omega
  subst this
  simp [flatG, lget, getL_eq, intsG, rowG, intC, List.getD, hi]
theorem andD (p q : Prop) [Decidable p] [Decidable q] : (decide p && decide q) = decide (p ∧ q) := by simp
end Go.Am
end

section
/- THE ABSTRACT MACHINE, PART 26: the same steps, with what is mostly plain left to a fixed tactic. -/
namespace Go.Am
theorem Need.auto {p k : Prop} (hk : k) (h : p := by first | omega | (dsimp only; omega) | (simp; done) | decide | (intro _h; first | omega | decide | (simp; done)) | (simp_all; done) | (intro _h; simp_all; done) | (simp_all; omega)) : Need p k := ⟨h, hk⟩
theorem CallN.pureA {X : Cx} {f : FuncId} {args args' : List S} {r : S} {dst : Option Tmp} {ts : Ts} {H : List O} {k : Ts → List O → Prop} (hb : HasBody X.P f) (hp : PSpec X.P f args' r)
    (hk : forceS r fun s' => putK X.nt dst s' ts fun ts' => k ts' H) (hr : r.imm = true := by exact rfl) (ha : WA args args' := by (repeat' (first | exact WA.nil | refine WA.cons rfl ?_ ?_ | exact WB.nil | refine WB.cons ?_ ?_ | exact WT.nil | refine WT.cons ?_ ?_ | exact WH.nil | refine WH.cons ?_ ?_ | exact WR.nil | refine WR.cons rfl ?_ ?_ | refine WO.vr ?_ | exact WO.dead | refine WO.arr (by first | with_reducible rfl | assumption | (symm; assumption) | omega | (dsimp only; omega) | (rw [wrap_id _ (by omega) (by omega)]; first | rfl | omega | (push_cast; omega)) | rfl | (simp; done)) ?_ | exact WS.u | refine WS.c ?_ | refine WS.a ?_ | refine WS.t ?_ | exact WL.nil | refine WL.cons ?_ ?_ | exact WTL.nil | refine WTL.consC ?_ ?_ | refine WTL.consL ?_ ?_ | exact WC.nils | exact WC.nil rfl | exact WC.nilp | exact WC.fz (by first | with_reducible rfl | assumption | (symm; assumption) | omega | (dsimp only; omega) | (rw [wrap_id _ (by omega) (by omega)]; first | rfl | omega | (push_cast; omega)) | rfl | (simp; done)) (by first | with_reducible rfl | assumption | (symm; assumption) | omega | (dsimp only; omega) | (rw [wrap_id _ (by omega) (by omega)]; first | rfl | omega | (push_cast; omega)) | rfl | (simp; done)) (fun _ _ _ _ => leF.refl) (by first | (intro e; cases e; done) | (intro _; exact ⟨rfl, by first | with_reducible rfl | assumption | (symm; assumption) | omega | (dsimp only; omega) | (rw [wrap_id _ (by omega) (by omega)]; first | rfl | omega | (push_cast; omega)) | rfl | (simp; done)⟩)) | exact WC.ptr rfl (Nat.le_of_ble_eq_true rfl) | exact WC.sl rfl (Nat.le_of_ble_eq_true rfl) (by first | with_reducible rfl | assumption | (symm; assumption) | omega | (dsimp only; omega) | (rw [wrap_id _ (by omega) (by omega)]; first | rfl | omega | (push_cast; omega)) | rfl | (simp; done)) (by first | with_reducible rfl | assumption | (symm; assumption) | omega | (dsimp only; omega) | (rw [wrap_id _ (by omega) (by omega)]; first | rfl | omega | (push_cast; omega)) | rfl | (simp; done)) (fun e => e) | (refine WC.int ?_; try first | with_reducible rfl | assumption | (symm; assumption) | omega | (dsimp only; omega) | (rw [wrap_id _ (by omega) (by omega)]; first | rfl | omega | (push_cast; omega)) | rfl | (simp; done)) | (refine WC.bool ?_; try first | with_reducible rfl | assumption | (symm; assumption) | omega | (dsimp only; omega) | (rw [wrap_id _ (by omega) (by omega)]; first | rfl | omega | (push_cast; omega)) | rfl | (simp; done)) | (refine WC.str ?_; try first | with_reducible rfl | assumption | (symm; assumption) | omega | (dsimp only; omega) | (rw [wrap_id _ (by omega) (by omega)]; first | rfl | omega | (push_cast; omega)) | rfl | (simp; done)) | exact WC.imm rfl))) : CallN X f args dst ts H k := CallN.pureW hb hp ha hr hk
theorem CallP.auto {P : Program} {f : FuncId} {args args' : List S} {r : S} {k : S → Prop} (hb : HasBody P f) (hp : PSpec P f args' r) (hk : k r) (hr : r.imm = true := by exact rfl) (ha : WA args args' := by (repeat' (first | exact WA.nil | refine WA.cons rfl ?_ ?_ | exact WB.nil | refine WB.cons ?_ ?_ | exact WT.nil | refine WT.cons ?_ ?_ | exact WH.nil | refine WH.cons ?_ ?_ | exact WR.nil | refine WR.cons rfl ?_ ?_ | refine WO.vr ?_ | exact WO.dead | refine WO.arr (by first | with_reducible rfl | assumption | (symm; assumption) | omega | (dsimp only; omega) | (rw [wrap_id _ (by omega) (by omega)]; first | rfl | omega | (push_cast; omega)) | rfl | (simp; done)) ?_ | exact WS.u | refine WS.c ?_ | refine WS.a ?_ | refine WS.t ?_ | exact WL.nil | refine WL.cons ?_ ?_ | exact WTL.nil | refine WTL.consC ?_ ?_ | refine WTL.consL ?_ ?_ | exact WC.nils | exact WC.nil rfl | exact WC.nilp | exact WC.fz (by first | with_reducible rfl | assumption | (symm; assumption) | omega | (dsimp only; omega) | (rw [wrap_id _ (by omega) (by omega)]; first | rfl | omega | (push_cast; omega)) | rfl | (simp; done)) (by first | with_reducible rfl | assumption | (symm; assumption) | omega | (dsimp only; omega) | (rw [wrap_id _ (by omega) (by omega)]; first | rfl | omega | (push_cast; omega)) | rfl | (simp; done)) (fun _ _ _ _ => leF.refl) (by first | (intro e; cases e; done) | (intro _; exact ⟨rfl, by first | with_reducible rfl | assumption | (symm; assumption) | omega | (dsimp only; omega) | (rw [wrap_id _ (by omega) (by omega)]; first | rfl | omega | (push_cast; omega)) | rfl | (simp; done)⟩)) | exact WC.ptr rfl (Nat.le_of_ble_eq_true rfl) | exact WC.sl rfl (Nat.le_of_ble_eq_true rfl) (by first | with_reducible rfl | assumption | (symm; assumption) | omega | (dsimp only; omega) | (rw [wrap_id _ (by omega) (by omega)]; first | rfl | omega | (push_cast; omega)) | rfl | (simp; done)) (by first | with_reducible rfl | assumption | (symm; assumption) | omega | (dsimp only; omega) | (rw [wrap_id _ (by omega) (by omega)]; first | rfl | omega | (push_cast; omega)) | rfl | (simp; done)) (fun e => e) | (refine WC.int ?_; try first | with_reducible rfl | assumption | (symm; assumption) | omega | (dsimp only; omega) | (rw [wrap_id _ (by omega) (by omega)]; first | rfl | omega | (push_cast; omega)) | rfl | (simp; done)) | (refine WC.bool ?_; try first | with_reducible rfl | assumption | (symm; assumption) | omega | (dsimp only; omega) | (rw [wrap_id _ (by omega) (by omega)]; first | rfl | omega | (push_cast; omega)) | rfl | (simp; done)) | (refine WC.str ?_; try first | with_reducible rfl | assumption | (symm; assumption) | omega | (dsimp only; omega) | (rw [wrap_id _ (by omega) (by omega)]; first | rfl | omega | (push_cast; omega)) | rfl | (simp; done)) | exact WC.imm rfl))) : CallP P true f args k := CallP.mkW hb hp ha hr hk
theorem CallP.autoG {P : Program} {g : Bool} {f : FuncId} {args args' : List S} {r : S} {k : S → Prop} (hb : HasBody P f) (hp : g = true → PSpec P f args' r) (hk : k r) (hr : r.imm = true := by exact rfl) (ha : WA args args' := by (repeat' (first | exact WA.nil | refine WA.cons rfl ?_ ?_ | exact WB.nil | refine WB.cons ?_ ?_ | exact WT.nil | refine WT.cons ?_ ?_ | exact WH.nil | refine WH.cons ?_ ?_ | exact WR.nil | refine WR.cons rfl ?_ ?_ | refine WO.vr ?_ | exact WO.dead | refine WO.arr (by first | with_reducible rfl | assumption | (symm; assumption) | omega | (dsimp only; omega) | (rw [wrap_id _ (by omega) (by omega)]; first | rfl | omega | (push_cast; omega)) | rfl | (simp; done)) ?_ | exact WS.u | refine WS.c ?_ | refine WS.a ?_ | refine WS.t ?_ | exact WL.nil | refine WL.cons ?_ ?_ | exact WTL.nil | refine WTL.consC ?_ ?_ | refine WTL.consL ?_ ?_ | exact WC.nils | exact WC.nil rfl | exact WC.nilp | exact WC.fz (by first | with_reducible rfl | assumption | (symm; assumption) | omega | (dsimp only; omega) | (rw [wrap_id _ (by omega) (by omega)]; first | rfl | omega | (push_cast; omega)) | rfl | (simp; done)) (by first | with_reducible rfl | assumption | (symm; assumption) | omega | (dsimp only; omega) | (rw [wrap_id _ (by omega) (by omega)]; first | rfl | omega | (push_cast; omega)) | rfl | (simp; done)) (fun _ _ _ _ => leF.refl) (by first | (intro e; cases e; done) | (intro _; exact ⟨rfl, by first | with_reducible rfl | assumption | (symm; assumption) | omega | (dsimp only; omega) | (rw [wrap_id _ (by omega) (by omega)]; first | rfl | omega | (push_cast; omega)) | rfl | (simp; done)⟩)) | exact WC.ptr rfl (Nat.le_of_ble_eq_true rfl) | exact WC.sl rfl (Nat.le_of_ble_eq_true rfl) (by first | with_reducible rfl | assumption | (symm; assumption) | omega | (dsimp only; omega) | (rw [wrap_id _ (by omega) (by omega)]; first | rfl | omega | (push_cast; omega)) | rfl | (simp; done)) (by first | with_reducible rfl | assumption | (symm; assumption) | omega | (dsimp only; omega) | (rw [wrap_id _ (by omega) (by omega)]; first | rfl | omega | (push_cast; omega)) | rfl | (simp; done)) (fun e => e) | (refine WC.int ?_; try first | with_reducible rfl | assumption | (symm; assumption) | omega | (dsimp only; omega) | (rw [wrap_id _ (by omega) (by omega)]; first | rfl | omega | (push_cast; omega)) | rfl | (simp; done)) | (refine WC.bool ?_; try first | with_reducible rfl | assumption | (symm; assumption) | omega | (dsimp only; omega) | (rw [wrap_id _ (by omega) (by omega)]; first | rfl | omega | (push_cast; omega)) | rfl | (simp; done)) | (refine WC.str ?_; try first | with_reducible rfl | assumption | (symm; assumption) | omega | (dsimp only; omega) | (rw [wrap_id _ (by omega) (by omega)]; first | rfl | omega | (push_cast; omega)) | rfl | (simp; done)) | exact WC.imm rfl))) : CallP P g f args k := CallP.mkGW hb hp ha hr hk
theorem CallG.auto {P : Program} {g : Bool} {f : FuncId} {args args' : List S} {r : S} {H : List O} {k : S → Prop} (hb : HasBody P f) (hp : g = true → PSpec P f args' r) (hk : k r) (hr : r.imm = true := by exact rfl) (ha : WA args args' := by (repeat' (first | exact WA.nil | refine WA.cons rfl ?_ ?_ | exact WB.nil | refine WB.cons ?_ ?_ | exact WT.nil | refine WT.cons ?_ ?_ | exact WH.nil | refine WH.cons ?_ ?_ | exact WR.nil | refine WR.cons rfl ?_ ?_ | refine WO.vr ?_ | exact WO.dead | refine WO.arr (by first | with_reducible rfl | assumption | (symm; assumption) | omega | (dsimp only; omega) | (rw [wrap_id _ (by omega) (by omega)]; first | rfl | omega | (push_cast; omega)) | rfl | (simp; done)) ?_ | exact WS.u | refine WS.c ?_ | refine WS.a ?_ | refine WS.t ?_ | exact WL.nil | refine WL.cons ?_ ?_ | exact WTL.nil | refine WTL.consC ?_ ?_ | refine WTL.consL ?_ ?_ | exact WC.nils | exact WC.nil rfl | exact WC.nilp | exact WC.fz (by first | with_reducible rfl | assumption | (symm; assumption) | omega | (dsimp only; omega) | (rw [wrap_id _ (by omega) (by omega)]; first | rfl | omega | (push_cast; omega)) | rfl | (simp; done)) (by first | with_reducible rfl | assumption | (symm; assumption) | omega | (dsimp only; omega) | (rw [wrap_id _ (by omega) (by omega)]; first | rfl | omega | (push_cast; omega)) | rfl | (simp; done)) (fun _ _ _ _ => leF.refl) (by first | (intro e; cases e; done) | (intro _; exact ⟨rfl, by first | with_reducible rfl | assumption | (symm; assumption) | omega | (dsimp only; omega) | (rw [wrap_id _ (by omega) (by omega)]; first | rfl | omega | (push_cast; omega)) | rfl | (simp; done)⟩)) | exact WC.ptr rfl (Nat.le_of_ble_eq_true rfl) | exact WC.sl rfl (Nat.le_of_ble_eq_true rfl) (by first | with_reducible rfl | assumption | (symm; assumption) | omega | (dsimp only; omega) | (rw [wrap_id _ (by omega) (by omega)]; first | rfl | omega | (push_cast; omega)) | rfl | (simp; done)) (by first | with_reducible rfl | assumption | (symm; assumption) | omega | (dsimp only; omega) | (rw [wrap_id _ (by omega) (by omega)]; first | rfl | omega | (push_cast; omega)) | rfl | (simp; done)) (fun e => e) | (refine WC.int ?_; try first | with_reducible rfl | assumption | (symm; assumption) | omega | (dsimp only; omega) | (rw [wrap_id _ (by omega) (by omega)]; first | rfl | omega | (push_cast; omega)) | rfl | (simp; done)) | (refine WC.bool ?_; try first | with_reducible rfl | assumption | (symm; assumption) | omega | (dsimp only; omega) | (rw [wrap_id _ (by omega) (by omega)]; first | rfl | omega | (push_cast; omega)) | rfl | (simp; done)) | (refine WC.str ?_; try first | with_reducible rfl | assumption | (symm; assumption) | omega | (dsimp only; omega) | (rw [wrap_id _ (by omega) (by omega)]; first | rfl | omega | (push_cast; omega)) | rfl | (simp; done)) | exact WC.imm rfl))) : CallG P g f args H k := CallG.pureW hb hp ha hr hk
theorem CallN.autoQ {X : Cx} {f : FuncId} {args args' : List S} {dst : Option Tmp} {ts : Ts} {H Hc Hc0 : List O} {s0 : S} {k : Ts → List O → Prop} (rs : List Nat) (hb : HasBody X.P f) (hc : CSpec X.P f args' Hc fun s H' => s = s0 ∧ H' = Hc0)
    (hk : forceH (plug rs H Hc0) fun H1 => forceS (reS (sg rs H.length) s0) fun s' => putK X.nt dst s' ts fun ts' => k ts' H1) (hr : rs.Nodup := by decide) (h : WR (rho rs) Hc.length H rs Hc := by (repeat' (first | exact WA.nil | refine WA.cons rfl ?_ ?_ | exact WB.nil | refine WB.cons ?_ ?_ | exact WT.nil | refine WT.cons ?_ ?_ | exact WH.nil | refine WH.cons ?_ ?_ | exact WR.nil | refine WR.cons rfl ?_ ?_ | refine WO.vr ?_ | exact WO.dead | refine WO.arr (by first | with_reducible rfl | assumption | (symm; assumption) | omega | (dsimp only; omega) | (rw [wrap_id _ (by omega) (by omega)]; first | rfl | omega | (push_cast; omega)) | rfl | (simp; done)) ?_ | exact WS.u | refine WS.c ?_ | refine WS.a ?_ | refine WS.t ?_ | exact WL.nil | refine WL.cons ?_ ?_ | exact WTL.nil | refine WTL.consC ?_ ?_ | refine WTL.consL ?_ ?_ | exact WC.nils | exact WC.nil rfl | exact WC.nilp | exact WC.fz (by first | with_reducible rfl | assumption | (symm; assumption) | omega | (dsimp only; omega) | (rw [wrap_id _ (by omega) (by omega)]; first | rfl | omega | (push_cast; omega)) | rfl | (simp; done)) (by first | with_reducible rfl | assumption | (symm; assumption) | omega | (dsimp only; omega) | (rw [wrap_id _ (by omega) (by omega)]; first | rfl | omega | (push_cast; omega)) | rfl | (simp; done)) (fun _ _ _ _ => leF.refl) (by first | (intro e; cases e; done) | (intro _; exact ⟨rfl, by first | with_reducible rfl | assumption | (symm; assumption) | omega | (dsimp only; omega) | (rw [wrap_id _ (by omega) (by omega)]; first | rfl | omega | (push_cast; omega)) | rfl | (simp; done)⟩)) | exact WC.ptr rfl (Nat.le_of_ble_eq_true rfl) | exact WC.sl rfl (Nat.le_of_ble_eq_true rfl) (by first | with_reducible rfl | assumption | (symm; assumption) | omega | (dsimp only; omega) | (rw [wrap_id _ (by omega) (by omega)]; first | rfl | omega | (push_cast; omega)) | rfl | (simp; done)) (by first | with_reducible rfl | assumption | (symm; assumption) | omega | (dsimp only; omega) | (rw [wrap_id _ (by omega) (by omega)]; first | rfl | omega | (push_cast; omega)) | rfl | (simp; done)) (fun e => e) | (refine WC.int ?_; try first | with_reducible rfl | assumption | (symm; assumption) | omega | (dsimp only; omega) | (rw [wrap_id _ (by omega) (by omega)]; first | rfl | omega | (push_cast; omega)) | rfl | (simp; done)) | (refine WC.bool ?_; try first | with_reducible rfl | assumption | (symm; assumption) | omega | (dsimp only; omega) | (rw [wrap_id _ (by omega) (by omega)]; first | rfl | omega | (push_cast; omega)) | rfl | (simp; done)) | (refine WC.str ?_; try first | with_reducible rfl | assumption | (symm; assumption) | omega | (dsimp only; omega) | (rw [wrap_id _ (by omega) (by omega)]; first | rfl | omega | (push_cast; omega)) | rfl | (simp; done)) | exact WC.imm rfl)))
    (hd : noDead Hc = true := by exact rfl) (ha : WB (rho rs) Hc.length args args' := by (repeat' (first | exact WA.nil | refine WA.cons rfl ?_ ?_ | exact WB.nil | refine WB.cons ?_ ?_ | exact WT.nil | refine WT.cons ?_ ?_ | exact WH.nil | refine WH.cons ?_ ?_ | exact WR.nil | refine WR.cons rfl ?_ ?_ | refine WO.vr ?_ | exact WO.dead | refine WO.arr (by first | with_reducible rfl | assumption | (symm; assumption) | omega | (dsimp only; omega) | (rw [wrap_id _ (by omega) (by omega)]; first | rfl | omega | (push_cast; omega)) | rfl | (simp; done)) ?_ | exact WS.u | refine WS.c ?_ | refine WS.a ?_ | refine WS.t ?_ | exact WL.nil | refine WL.cons ?_ ?_ | exact WTL.nil | refine WTL.consC ?_ ?_ | refine WTL.consL ?_ ?_ | exact WC.nils | exact WC.nil rfl | exact WC.nilp | exact WC.fz (by first | with_reducible rfl | assumption | (symm; assumption) | omega | (dsimp only; omega) | (rw [wrap_id _ (by omega) (by omega)]; first | rfl | omega | (push_cast; omega)) | rfl | (simp; done)) (by first | with_reducible rfl | assumption | (symm; assumption) | omega | (dsimp only; omega) | (rw [wrap_id _ (by omega) (by omega)]; first | rfl | omega | (push_cast; omega)) | rfl | (simp; done)) (fun _ _ _ _ => leF.refl) (by first | (intro e; cases e; done) | (intro _; exact ⟨rfl, by first | with_reducible rfl | assumption | (symm; assumption) | omega | (dsimp only; omega) | (rw [wrap_id _ (by omega) (by omega)]; first | rfl | omega | (push_cast; omega)) | rfl | (simp; done)⟩)) | exact WC.ptr rfl (Nat.le_of_ble_eq_true rfl) | exact WC.sl rfl (Nat.le_of_ble_eq_true rfl) (by first | with_reducible rfl | assumption | (symm; assumption) | omega | (dsimp only; omega) | (rw [wrap_id _ (by omega) (by omega)]; first | rfl | omega | (push_cast; omega)) | rfl | (simp; done)) (by first | with_reducible rfl | assumption | (symm; assumption) | omega | (dsimp only; omega) | (rw [wrap_id _ (by omega) (by omega)]; first | rfl | omega | (push_cast; omega)) | rfl | (simp; done)) (fun e => e) | (refine WC.int ?_; try first | with_reducible rfl | assumption | (symm; assumption) | omega | (dsimp only; omega) | (rw [wrap_id _ (by omega) (by omega)]; first | rfl | omega | (push_cast; omega)) | rfl | (simp; done)) | (refine WC.bool ?_; try first | with_reducible rfl | assumption | (symm; assumption) | omega | (dsimp only; omega) | (rw [wrap_id _ (by omega) (by omega)]; first | rfl | omega | (push_cast; omega)) | rfl | (simp; done)) | (refine WC.str ?_; try first | with_reducible rfl | assumption | (symm; assumption) | omega | (dsimp only; omega) | (rw [wrap_id _ (by omega) (by omega)]; first | rfl | omega | (push_cast; omega)) | rfl | (simp; done)) | exact WC.imm rfl))) : CallN X f args dst ts H k := CallN.frameQ rs hb hc hr h hd ha hk
theorem CallE.autoQ {P : Program} {f : FuncId} {args args' : List S} {H Hc Hc0 : List O} {s0 : S} {k : S → List O → Prop} (rs : List Nat) (hb : HasBody P f) (hc : CSpec P f args' Hc fun s H' => s = s0 ∧ H' = Hc0)
    (hk : k (reS (sg rs H.length) s0) (plug rs H Hc0)) (hr : rs.Nodup := by decide) (h : WR (rho rs) Hc.length H rs Hc := by (repeat' (first | exact WA.nil | refine WA.cons rfl ?_ ?_ | exact WB.nil | refine WB.cons ?_ ?_ | exact WT.nil | refine WT.cons ?_ ?_ | exact WH.nil | refine WH.cons ?_ ?_ | exact WR.nil | refine WR.cons rfl ?_ ?_ | refine WO.vr ?_ | exact WO.dead | refine WO.arr (by first | with_reducible rfl | assumption | (symm; assumption) | omega | (dsimp only; omega) | (rw [wrap_id _ (by omega) (by omega)]; first | rfl | omega | (push_cast; omega)) | rfl | (simp; done)) ?_ | exact WS.u | refine WS.c ?_ | refine WS.a ?_ | refine WS.t ?_ | exact WL.nil | refine WL.cons ?_ ?_ | exact WTL.nil | refine WTL.consC ?_ ?_ | refine WTL.consL ?_ ?_ | exact WC.nils | exact WC.nil rfl | exact WC.nilp | exact WC.fz (by first | with_reducible rfl | assumption | (symm; assumption) | omega | (dsimp only; omega) | (rw [wrap_id _ (by omega) (by omega)]; first | rfl | omega | (push_cast; omega)) | rfl | (simp; done)) (by first | with_reducible rfl | assumption | (symm; assumption) | omega | (dsimp only; omega) | (rw [wrap_id _ (by omega) (by omega)]; first | rfl | omega | (push_cast; omega)) | rfl | (simp; done)) (fun _ _ _ _ => leF.refl) (by first | (intro e; cases e; done) | (intro _; exact ⟨rfl, by first | with_reducible rfl | assumption | (symm; assumption) | omega | (dsimp only; omega) | (rw [wrap_id _ (by omega) (by omega)]; first | rfl | omega | (push_cast; omega)) | rfl | (simp; done)⟩)) | exact WC.ptr rfl (Nat.le_of_ble_eq_true rfl) | exact WC.sl rfl (Nat.le_of_ble_eq_true rfl) (by first | with_reducible rfl | assumption | (symm; assumption) | omega | (dsimp only; omega) | (rw [wrap_id _ (by omega) (by omega)]; first | rfl | omega | (push_cast; omega)) | rfl | (simp; done)) (by first | with_reducible rfl | assumption | (symm; assumption) | omega | (dsimp only; omega) | (rw [wrap_id _ (by omega) (by omega)]; first | rfl | omega | (push_cast; omega)) | rfl | (simp; done)) (fun e => e) | (refine WC.int ?_; try first | with_reducible rfl | assumption | (symm; assumption) | omega | (dsimp only; omega) | (rw [wrap_id _ (by omega) (by omega)]; first | rfl | omega | (push_cast; omega)) | rfl | (simp; done)) | (refine WC.bool ?_; try first | with_reducible rfl | assumption | (symm; assumption) | omega | (dsimp only; omega) | (rw [wrap_id _ (by omega) (by omega)]; first | rfl | omega | (push_cast; omega)) | rfl | (simp; done)) | (refine WC.str ?_; try first | with_reducible rfl | assumption | (symm; assumption) | omega | (dsimp only; omega) | (rw [wrap_id _ (by omega) (by omega)]; first | rfl | omega | (push_cast; omega)) | rfl | (simp; done)) | exact WC.imm rfl)))
    (hd : noDead Hc = true := by exact rfl) (ha : WB (rho rs) Hc.length args args' := by (repeat' (first | exact WA.nil | refine WA.cons rfl ?_ ?_ | exact WB.nil | refine WB.cons ?_ ?_ | exact WT.nil | refine WT.cons ?_ ?_ | exact WH.nil | refine WH.cons ?_ ?_ | exact WR.nil | refine WR.cons rfl ?_ ?_ | refine WO.vr ?_ | exact WO.dead | refine WO.arr (by first | with_reducible rfl | assumption | (symm; assumption) | omega | (dsimp only; omega) | (rw [wrap_id _ (by omega) (by omega)]; first | rfl | omega | (push_cast; omega)) | rfl | (simp; done)) ?_ | exact WS.u | refine WS.c ?_ | refine WS.a ?_ | refine WS.t ?_ | exact WL.nil | refine WL.cons ?_ ?_ | exact WTL.nil | refine WTL.consC ?_ ?_ | refine WTL.consL ?_ ?_ | exact WC.nils | exact WC.nil rfl | exact WC.nilp | exact WC.fz (by first | with_reducible rfl | assumption | (symm; assumption) | omega | (dsimp only; omega) | (rw [wrap_id _ (by omega) (by omega)]; first | rfl | omega | (push_cast; omega)) | rfl | (simp; done)) (by first | with_reducible rfl | assumption | (symm; assumption) | omega | (dsimp only; omega) | (rw [wrap_id _ (by omega) (by omega)]; first | rfl | omega | (push_cast; omega)) | rfl | (simp; done)) (fun _ _ _ _ => leF.refl) (by first | (intro e; cases e; done) | (intro _; exact ⟨rfl, by first | with_reducible rfl | assumption | (symm; assumption) | omega | (dsimp only; omega) | (rw [wrap_id _ (by omega) (by omega)]; first | rfl | omega | (push_cast; omega)) | rfl | (simp; done)⟩)) | exact WC.ptr rfl (Nat.le_of_ble_eq_true rfl) | exact WC.sl rfl (Nat.le_of_ble_eq_true rfl) (by first | with_reducible rfl | assumption | (symm; assumption) | omega | (dsimp only; omega) | (rw [wrap_id _ (by omega) (by omega)]; first | rfl | omega | (push_cast; omega)) | rfl | (simp; done)) (by first | with_reducible rfl | assumption | (symm; assumption) | omega | (dsimp only; omega) | (rw [wrap_id _ (by omega) (by omega)]; first | rfl | omega | (push_cast; omega)) | rfl | (simp; done)) (fun e => e) | (refine WC.int ?_; try first | with_reducible rfl | assumption | (symm; assumption) | omega | (dsimp only; omega) | (rw [wrap_id _ (by omega) (by omega)]; first | rfl | omega | (push_cast; omega)) | rfl | (simp; done)) | (refine WC.bool ?_; try first | with_reducible rfl | assumption | (symm; assumption) | omega | (dsimp only; omega) | (rw [wrap_id _ (by omega) (by omega)]; first | rfl | omega | (push_cast; omega)) | rfl | (simp; done)) | (refine WC.str ?_; try first | with_reducible rfl | assumption | (symm; assumption) | omega | (dsimp only; omega) | (rw [wrap_id _ (by omega) (by omega)]; first | rfl | omega | (push_cast; omega)) | rfl | (simp; done)) | exact WC.imm rfl))) (hrs : rs.all (memI args) = true := by exact rfl) : CallE P f args H k := CallE.frameQ rs hb hc hr h hd ha hrs hk
theorem Mv.auto {X : Cx} {ts ts' : Ts} {H H' : List O} (h : WH idN H'.length H H' := by (repeat' (first | exact WA.nil | refine WA.cons rfl ?_ ?_ | exact WB.nil | refine WB.cons ?_ ?_ | exact WT.nil | refine WT.cons ?_ ?_ | exact WH.nil | refine WH.cons ?_ ?_ | exact WR.nil | refine WR.cons rfl ?_ ?_ | refine WO.vr ?_ | exact WO.dead | refine WO.arr (by first | with_reducible rfl | assumption | (symm; assumption) | omega | (dsimp only; omega) | (rw [wrap_id _ (by omega) (by omega)]; first | rfl | omega | (push_cast; omega)) | rfl | (simp; done)) ?_ | exact WS.u | refine WS.c ?_ | refine WS.a ?_ | refine WS.t ?_ | exact WL.nil | refine WL.cons ?_ ?_ | exact WTL.nil | refine WTL.consC ?_ ?_ | refine WTL.consL ?_ ?_ | exact WC.nils | exact WC.nil rfl | exact WC.nilp | exact WC.fz (by first | with_reducible rfl | assumption | (symm; assumption) | omega | (dsimp only; omega) | (rw [wrap_id _ (by omega) (by omega)]; first | rfl | omega | (push_cast; omega)) | rfl | (simp; done)) (by first | with_reducible rfl | assumption | (symm; assumption) | omega | (dsimp only; omega) | (rw [wrap_id _ (by omega) (by omega)]; first | rfl | omega | (push_cast; omega)) | rfl | (simp; done)) (fun _ _ _ _ => leF.refl) (by first | (intro e; cases e; done) | (intro _; exact ⟨rfl, by first | with_reducible rfl | assumption | (symm; assumption) | omega | (dsimp only; omega) | (rw [wrap_id _ (by omega) (by omega)]; first | rfl | omega | (push_cast; omega)) | rfl | (simp; done)⟩)) | exact WC.ptr rfl (Nat.le_of_ble_eq_true rfl) | exact WC.sl rfl (Nat.le_of_ble_eq_true rfl) (by first | with_reducible rfl | assumption | (symm; assumption) | omega | (dsimp only; omega) | (rw [wrap_id _ (by omega) (by omega)]; first | rfl | omega | (push_cast; omega)) | rfl | (simp; done)) (by first | with_reducible rfl | assumption | (symm; assumption) | omega | (dsimp only; omega) | (rw [wrap_id _ (by omega) (by omega)]; first | rfl | omega | (push_cast; omega)) | rfl | (simp; done)) (fun e => e) | (refine WC.int ?_; try first | with_reducible rfl | assumption | (symm; assumption) | omega | (dsimp only; omega) | (rw [wrap_id _ (by omega) (by omega)]; first | rfl | omega | (push_cast; omega)) | rfl | (simp; done)) | (refine WC.bool ?_; try first | with_reducible rfl | assumption | (symm; assumption) | omega | (dsimp only; omega) | (rw [wrap_id _ (by omega) (by omega)]; first | rfl | omega | (push_cast; omega)) | rfl | (simp; done)) | (refine WC.str ?_; try first | with_reducible rfl | assumption | (symm; assumption) | omega | (dsimp only; omega) | (rw [wrap_id _ (by omega) (by omega)]; first | rfl | omega | (push_cast; omega)) | rfl | (simp; done)) | exact WC.imm rfl))) (t : WT idN H'.length ts ts' := by (repeat' (first | exact WA.nil | refine WA.cons rfl ?_ ?_ | exact WB.nil | refine WB.cons ?_ ?_ | exact WT.nil | refine WT.cons ?_ ?_ | exact WH.nil | refine WH.cons ?_ ?_ | exact WR.nil | refine WR.cons rfl ?_ ?_ | refine WO.vr ?_ | exact WO.dead | refine WO.arr (by first | with_reducible rfl | assumption | (symm; assumption) | omega | (dsimp only; omega) | (rw [wrap_id _ (by omega) (by omega)]; first | rfl | omega | (push_cast; omega)) | rfl | (simp; done)) ?_ | exact WS.u | refine WS.c ?_ | refine WS.a ?_ | refine WS.t ?_ | exact WL.nil | refine WL.cons ?_ ?_ | exact WTL.nil | refine WTL.consC ?_ ?_ | refine WTL.consL ?_ ?_ | exact WC.nils | exact WC.nil rfl | exact WC.nilp | exact WC.fz (by first | with_reducible rfl | assumption | (symm; assumption) | omega | (dsimp only; omega) | (rw [wrap_id _ (by omega) (by omega)]; first | rfl | omega | (push_cast; omega)) | rfl | (simp; done)) (by first | with_reducible rfl | assumption | (symm; assumption) | omega | (dsimp only; omega) | (rw [wrap_id _ (by omega) (by omega)]; first | rfl | omega | (push_cast; omega)) | rfl | (simp; done)) (fun _ _ _ _ => leF.refl) (by first | (intro e; cases e; done) | (intro _; exact ⟨rfl, by first | with_reducible rfl | assumption | (symm; assumption) | omega | (dsimp only; omega) | (rw [wrap_id _ (by omega) (by omega)]; first | rfl | omega | (push_cast; omega)) | rfl | (simp; done)⟩)) | exact WC.ptr rfl (Nat.le_of_ble_eq_true rfl) | exact WC.sl rfl (Nat.le_of_ble_eq_true rfl) (by first | with_reducible rfl | assumption | (symm; assumption) | omega | (dsimp only; omega) | (rw [wrap_id _ (by omega) (by omega)]; first | rfl | omega | (push_cast; omega)) | rfl | (simp; done)) (by first | with_reducible rfl | assumption | (symm; assumption) | omega | (dsimp only; omega) | (rw [wrap_id _ (by omega) (by omega)]; first | rfl | omega | (push_cast; omega)) | rfl | (simp; done)) (fun e => e) | (refine WC.int ?_; try first | with_reducible rfl | assumption | (symm; assumption) | omega | (dsimp only; omega) | (rw [wrap_id _ (by omega) (by omega)]; first | rfl | omega | (push_cast; omega)) | rfl | (simp; done)) | (refine WC.bool ?_; try first | with_reducible rfl | assumption | (symm; assumption) | omega | (dsimp only; omega) | (rw [wrap_id _ (by omega) (by omega)]; first | rfl | omega | (push_cast; omega)) | rfl | (simp; done)) | (refine WC.str ?_; try first | with_reducible rfl | assumption | (symm; assumption) | omega | (dsimp only; omega) | (rw [wrap_id _ (by omega) (by omega)]; first | rfl | omega | (push_cast; omega)) | rfl | (simp; done)) | exact WC.imm rfl))) (h0 : X.n0 ≤ H'.length := by exact Nat.le_of_ble_eq_true rfl) : Mv X ts H ts' H' := Mv.mkW h t h0
theorem RM.auto {H : List O} {s s' : S} (h : s.imm = true := by exact rfl) (hs : WS idN 0 s s' := by (repeat' (first | exact WA.nil | refine WA.cons rfl ?_ ?_ | exact WB.nil | refine WB.cons ?_ ?_ | exact WT.nil | refine WT.cons ?_ ?_ | exact WH.nil | refine WH.cons ?_ ?_ | exact WR.nil | refine WR.cons rfl ?_ ?_ | refine WO.vr ?_ | exact WO.dead | refine WO.arr (by first | with_reducible rfl | assumption | (symm; assumption) | omega | (dsimp only; omega) | (rw [wrap_id _ (by omega) (by omega)]; first | rfl | omega | (push_cast; omega)) | rfl | (simp; done)) ?_ | exact WS.u | refine WS.c ?_ | refine WS.a ?_ | refine WS.t ?_ | exact WL.nil | refine WL.cons ?_ ?_ | exact WTL.nil | refine WTL.consC ?_ ?_ | refine WTL.consL ?_ ?_ | exact WC.nils | exact WC.nil rfl | exact WC.nilp | exact WC.fz (by first | with_reducible rfl | assumption | (symm; assumption) | omega | (dsimp only; omega) | (rw [wrap_id _ (by omega) (by omega)]; first | rfl | omega | (push_cast; omega)) | rfl | (simp; done)) (by first | with_reducible rfl | assumption | (symm; assumption) | omega | (dsimp only; omega) | (rw [wrap_id _ (by omega) (by omega)]; first | rfl | omega | (push_cast; omega)) | rfl | (simp; done)) (fun _ _ _ _ => leF.refl) (by first | (intro e; cases e; done) | (intro _; exact ⟨rfl, by first | with_reducible rfl | assumption | (symm; assumption) | omega | (dsimp only; omega) | (rw [wrap_id _ (by omega) (by omega)]; first | rfl | omega | (push_cast; omega)) | rfl | (simp; done)⟩)) | exact WC.ptr rfl (Nat.le_of_ble_eq_true rfl) | exact WC.sl rfl (Nat.le_of_ble_eq_true rfl) (by first | with_reducible rfl | assumption | (symm; assumption) | omega | (dsimp only; omega) | (rw [wrap_id _ (by omega) (by omega)]; first | rfl | omega | (push_cast; omega)) | rfl | (simp; done)) (by first | with_reducible rfl | assumption | (symm; assumption) | omega | (dsimp only; omega) | (rw [wrap_id _ (by omega) (by omega)]; first | rfl | omega | (push_cast; omega)) | rfl | (simp; done)) (fun e => e) | (refine WC.int ?_; try first | with_reducible rfl | assumption | (symm; assumption) | omega | (dsimp only; omega) | (rw [wrap_id _ (by omega) (by omega)]; first | rfl | omega | (push_cast; omega)) | rfl | (simp; done)) | (refine WC.bool ?_; try first | with_reducible rfl | assumption | (symm; assumption) | omega | (dsimp only; omega) | (rw [wrap_id _ (by omega) (by omega)]; first | rfl | omega | (push_cast; omega)) | rfl | (simp; done)) | (refine WC.str ?_; try first | with_reducible rfl | assumption | (symm; assumption) | omega | (dsimp only; omega) | (rw [wrap_id _ (by omega) (by omega)]; first | rfl | omega | (push_cast; omega)) | rfl | (simp; done)) | exact WC.imm rfl))) : RM 0 s H s' [] := RM.immW h hs
end Go.Am
end

section
namespace Go.Am
open Go.ChangeShapes Go.WideShapes

/-- Everything that was there is there. -/
structure Stays (w w' : World) : Prop where
  os : w'.os = w.os
  output : w'.output = w.output
  heap : ∀ (b : Nat) (o : Obj), w.heap[b]? = some o → w'.heap[b]? = some o

theorem Stays.kept {w w' : World} (h : Stays w w') (may : MemPlace → Prop) : w.keptBut w' may := by
  refine ⟨h.os, h.output, fun i hi => ?_⟩
  have e : w.heap[i]? = some w.heap[i] := by simp [hi]
  have e' := h.heap i _ e
  rw [e, e']
  cases w.heap[i] with
  | cells c t fr => exact ⟨rfl, rfl, rfl, fun _ _ => rfl⟩
  | map es clock => exact .inr ⟨rfl, rfl⟩
  | _ => rfl


/-- A law: it returns true. -/
theorem PSpec.law {P : Program} {f : FuncId} {args : List S} (h : PSpec P f args (.c (.bool true))) (w : World) (vs : Array Value) (hA : RepA (heapM w) [] (fun _ => undef) args vs) :
    Calls P f vs w fun e w' => e = .returned (.bool true) ∧ Stays w w' := by
  have hw0 : HSat ⟨fun _ => none, w.os, w.tape, w.output⟩ (heapM w) [] (fun _ => undef) w :=
    ⟨rfl, rfl, rfl, fun b o hb => hb, fun b o hb => (by cases hb), fun id o ho => by simp [getL] at ho, fun id b ⟨⟨o, ho, _⟩, _⟩ => by simp [getL] at ho, fun id id' b ⟨⟨o, ho, _⟩, _⟩ => by simp [getL] at ho, fun _ _ _ => rfl⟩
  refine (h _ (heapM w) (fun _ => undef) w vs hw0 hA).mono ?_
  rintro e w' ⟨v, F', μ', s, H', rfl, h1, h2, h3, h4, rfl⟩
  exact ⟨congrArg _ h4, h2.os, h2.output, fun b o hb => h2.fr b o (h1 b o hb)⟩

theorem RepA.ints {F : Mem} {μ : Nat → Value} : ∀ (l : List (IntKind × Int)), RepA F [] μ (l.map fun x => .c (.int x.1 x.2)) (l.map fun x => Value.int x.1 x.2).toArray := by
  intro l
  refine ⟨by simp, fun j s hs => ?_⟩
  rw [getL_eq, List.getElem?_map] at hs
  cases hx : l[j]? with
  | none => rw [hx] at hs; cases hs
  | some x =>
    rw [hx] at hs
    cases hs
    exact ⟨.int x.1 x.2, by simp [hx], rfl⟩

section
variable {H : Type} {enc : TypeId × Value → H} {P : Program}

theorem post_stays {f : Func} {s : ChangeSpec} {apart fresh handsOn : Bool} {W W' : World} {args : Array Value} {v : Value} {ds gs : List (DataW H)} {before pa pv : List MemPlace}
    (hW : DataW.Whole enc P f.params.toList s.vars apart W args.toList ds gs before)
    (hres : ∀ (b : Nat) (sp : Nat → Bool) (hd : Bool), DataW.TrodAll enc P W' b sp hd f.resultTypes.toList (v.resultList f.resultTypes.size) (s.fn H (ds ++ gs)).results [])
    (hargs : DataW.TrodAll enc P W' 0 (fun b => decide (b < W.heap.size)) true f.params.toList args.toList (s.fn H (ds ++ gs)).args pa)
    (hvars : DataW.TrodVars enc P W' (fun b => decide (b < W.heap.size)) s.vars (s.fn H (ds ++ gs)).vars pv)
    (hk : Stays W W') : s.post enc P f apart fresh handsOn false W args v W' :=
  ⟨ds, gs, before, [], pa, pv, hW, hres _ _ _, hargs, hvars, hk.kept _, fun e => by cases e⟩
end
end Go.Am
end

section
namespace Go.Am
open Go.RowKit

/-- A law: it returns true, and writes nothing that was there. -/
theorem PSpec.lawB {P : Program} {f : FuncId} {args : List S} (h : PSpec P f args (.c (.bool true))) (w : World) (vs : Array Value) (hA : RepA (heapM w) [] (fun _ => undef) args vs) :
    Calls P f vs w fun e w' => e = .returned (.bool true) ∧ Below w.heap.size w w' := by
  have hw0 : HSat ⟨fun _ => none, w.os, w.tape, w.output⟩ (heapM w) [] (fun _ => undef) w :=
    ⟨rfl, rfl, rfl, fun b o hb => hb, fun b o hb => (by cases hb), fun id o ho => by simp [getL] at ho, fun id b ⟨⟨o, ho, _⟩, _⟩ => by simp [getL] at ho, fun id id' b ⟨⟨o, ho, _⟩, _⟩ => by simp [getL] at ho, fun _ _ _ => rfl⟩
  refine (h _ (heapM w) (fun _ => undef) w vs hw0 hA).mono ?_
  rintro e w' ⟨v, F', μ', s, H', rfl, h1, h2, h3, h4, rfl⟩
  have hb : ∀ (b : Nat) (o : Obj), w.heap[b]? = some o → w'.heap[b]? = some o := fun b o hb => h2.fr b o (h1 b o hb)
  have hbl : ∀ k, k < w.heap.size → w'.heap[k]? = w.heap[k]? := fun k hk => by
    have e : w.heap[k]? = some w.heap[k] := by simp [hk]
    rw [e, hb k _ e]
  refine ⟨congrArg _ h4, h2.os, h2.tape, h2.output, ?_, hbl⟩
  rcases Nat.lt_or_ge w'.heap.size w.heap.size with c | c
  · have h0 := hbl w'.heap.size c
    rw [Array.getElem?_eq_none (Nat.le_refl _), Array.getElem?_eq_getElem c] at h0
    cases h0
  · exact c

theorem heapM_cell {w : World} {a : Addr} {v : Value} (h : w.cell? a = some v) : a = ⟨a.block, a.off, none⟩ ∧ (heapM w).cell a.block a.off = some v := by
  have hs := World.cell?_spot h
  unfold World.cell? at h
  refine ⟨by cases a; simp_all, ?_⟩
  unfold Mem.cell heapM
  split at h
  · rename_i c e f hc
    rw [hc]
    rw [hs] at h
    simpa using h
  · cases h

/-- A row of whole numbers that came in. -/
theorem intsRow {k : IntKind} {w : World} {a : Option Addr} {len cap : Nat} {zs : List Int}
    (h : (a = none ∧ len = 0 ∧ cap = 0 ∧ zs = []) ∨ ∃ x, a = some x ∧ len ≤ cap ∧ cap ≤ maxLen ∧ zs.length = cap ∧ (∀ i, i < zs.length → w.cell? (x.add i) = some (.int k (zs.getD i 0))) ∧ ∀ n ∈ zs, (Lit.int k n).wf = true) :
    RepF (heapM w) (.isl 1 (zs.take len).length (intsG k (zs.take len)) false) (.slice a len cap) ∧ (∀ n ∈ zs.take len, (Lit.int k n).wf = true) := by
  rcases h with ⟨rfl, rfl, rfl, rfl⟩ | ⟨x, rfl, h1, h2, h3, h4, h5⟩
  · exact ⟨⟨none, 0, rfl, Nat.zero_le _, Nat.le_refl _, fun e => (by cases e), fun _ => rfl, .inl rfl⟩, fun n hn => by simp at hn⟩
  · have hl : (zs.take len).length = len := by rw [List.length_take]; omega
    refine ⟨?_, fun n hn => h5 n (List.mem_of_mem_take hn)⟩
    rw [hl]
    refine ⟨some x, cap, rfl, by omega, h1, fun e => (by cases e), fun e => (by cases e), ?_⟩
    by_cases c : len = 0
    · exact .inl c
    · right
      have h0 := h4 0 (by omega)
      rw [show x.add 0 = x by simp [Addr.add]] at h0
      obtain ⟨hx, _⟩ := heapM_cell h0
      refine ⟨x.block, x.off, congrArg some hx, fun i hi j hj => ?_⟩
      have : j = 0 := by omega
      subst this
      have hi' := h4 i (by omega)
      rw [hx, add_at] at hi'
      obtain ⟨_, e⟩ := heapM_cell hi'
      refine ⟨_, by rw [Nat.mul_one, Nat.add_zero]; exact e, ?_⟩
      show Value.int k (zs.getD i 0) = .int k ((zs.take len).getD i default)
      have : (zs.take len).getD i default = zs.getD i 0 := by
        simp [List.getD, List.getElem?_take, hi]
      rw [this]

theorem wf_i64 {n : Int} (h : (Lit.int .i64 n).wf = true) : -9223372036854775808 ≤ n ∧ n ≤ 9223372036854775807 := by
  simp only [Lit.wf, Bool.and_eq_true, decide_eq_true_eq, IntKind.min, IntKind.max] at h
  simpa [IntKind.signed, IntKind.bits] using h
theorem wf_u8 {n : Int} (h : (Lit.int .u8 n).wf = true) : 0 ≤ n ∧ n ≤ 255 := by
  simp only [Lit.wf, Bool.and_eq_true, decide_eq_true_eq, IntKind.min, IntKind.max] at h
  simpa [IntKind.signed, IntKind.bits] using h
theorem wf_u16 {n : Int} (h : (Lit.int .u16 n).wf = true) : 0 ≤ n ∧ n ≤ 65535 := by
  simp only [Lit.wf, Bool.and_eq_true, decide_eq_true_eq, IntKind.min, IntKind.max] at h
  simpa [IntKind.signed, IntKind.bits] using h

def RepAL (F : Mem) (μ : Nat → Value) : List S → List Value → Prop
  | [], [] => True
  | s :: r, v :: r' => RepS F [] μ s v ∧ RepAL F μ r r'
  | _, _ => False
theorem RepAL.get {F : Mem} {μ : Nat → Value} : ∀ {l : List S} {vs : List Value}, RepAL F μ l vs → vs.length = l.length ∧ ∀ (j : Nat) s, getL l j = some s → ∃ v, vs[j]? = some v ∧ RepS F [] μ s v
  | [], [], _ => ⟨rfl, fun j s h => by simp [getL] at h⟩
  | s :: r, v :: r', h => by
    obtain ⟨h1, h2⟩ := RepAL.get h.2
    refine ⟨by simp [h1], fun j x hx => ?_⟩
    cases j with
    | zero => simp only [getL, Option.some.injEq] at hx; subst hx; exact ⟨v, rfl, h.1⟩
    | succ j => simp only [getL] at hx; simpa using h2 j x hx
  | [], _ :: _, h => h.elim
  | _ :: _, [], h => h.elim
theorem RepA.ofL {F : Mem} {μ : Nat → Value} {l : List S} {vs : List Value} (h : RepAL F μ l vs) : RepA F [] μ l vs.toArray := by
  obtain ⟨h1, h2⟩ := RepAL.get h
  exact ⟨by simpa using h1, fun j s hs => by simpa using h2 j s hs⟩
theorem RepS.ofF {F : Mem} {μ : Nat → Value} {c : C} {v : Value} (h : RepF F c v) : RepS F [] μ (.c c) v := RepF.toC [] μ c v h
end Go.Am
end

section
namespace Go.Am
open Go.RowKit
section
variable {H : Type} {enc : TypeId × Value → H} {P : Program}

/-- What comes in of type t: n cells, read as something; 'good': what is known of it, and of the datum. -/
structure Rd (enc : TypeId × Value → H) (P : Program) (t : TypeId) (n : Nat) (α : Type) (cell : α → Nat → C) (good : α → DataW H → Prop) : Prop where
  cells : P.cellsOf t = n
  out : ∀ (W : World) (sp : Nat → Bool) (fuel : Nat) (cs : List Value) x, DataW.trod enc P W 0 sp true fuel t cs = some x → cs.length = n ∧ ∃ a : α, (∀ j, j < n → ∃ v, cs[j]? = some v ∧ RepF (heapM W) (cell a j) v) ∧ good a x.1

theorem one_get {v : Value} {j : Nat} (h : j < 1) : [v][j]? = some v := by
  have : j = 0 := by omega
  subst this; rfl

theorem Rd.int {t : TypeId} {k : IntKind} (ht : P.underlying t = some (.int k)) (hc : P.cellsOf t = 1) : Rd enc P t 1 Int (fun n _ => .int k n) fun n d => (Lit.int k n).wf = true ∧ d = .lit (.int k n) :=
  ⟨hc, fun W sp fuel cs x h => by
    obtain ⟨n, rfl, rfl, hw⟩ := DataW.trod_int ht h
    exact ⟨rfl, n, fun j hj => ⟨.int k n, one_get hj, rfl⟩, hw, rfl⟩⟩
theorem Rd.str {t : TypeId} (ht : P.underlying t = some .string) (hc : P.cellsOf t = 1) : Rd enc P t 1 ByteArray (fun s _ => .str s) fun s d => s.size ≤ maxLen ∧ d = .lit (.string s.data.toList) :=
  ⟨hc, fun W sp fuel cs x h => by
    obtain ⟨s, rfl, rfl, hw⟩ := DataW.trod_string ht h
    exact ⟨rfl, s, fun j hj => ⟨.string s, one_get hj, rfl, hw⟩, hw, rfl⟩⟩
theorem Rd.bool {t : TypeId} (ht : P.underlying t = some .bool) (hc : P.cellsOf t = 1) : Rd enc P t 1 Bool (fun b _ => .bool b) fun b d => d = .lit (.bool b) :=
  ⟨hc, fun W sp fuel cs x h => by
    obtain ⟨b, rfl, rfl⟩ := DataW.trod_bool ht h
    exact ⟨rfl, b, fun j hj => ⟨.bool b, one_get hj, rfl⟩, rfl⟩⟩

/-- What is known of a list, and its datum. -/
def GoodL {α : Type} (good : α → DataW H → Prop) (l : List α) (d : DataW H) : Prop :=
  (d = .nil ∧ l = []) ∨ ∃ es sp, d = .slice es sp ∧ es.length = l.length ∧ ∀ (i : Nat) a e, l[i]? = some a → es[i]? = some e → good a e

theorem Rd.slice {t e : TypeId} {n : Nat} {α : Type} [Inhabited α] {cell : α → Nat → C} {good : α → DataW H → Prop} (ht : P.underlying t = some (.slice e)) (hc : P.cellsOf t = 1) (hn : 0 < n) (he : Rd enc P e n α cell good) :
    Rd enc P t 1 (List α) (fun l _ => .isl n l.length (rowG cell l) false) (GoodL good) :=
  ⟨hc, fun W sp fuel cs x h => by
    rcases DataW.trod_slice ht h with ⟨rfl, rfl⟩ | ⟨a, len, cap, elems, rest, m, -, rfl, rfl, -, h1, h2, h3, h4, -⟩
    · exact ⟨rfl, [], fun j hj => ⟨.slice none 0 0, one_get hj, none, 0, rfl, Nat.zero_le _, Nat.le_refl _, fun e => (by cases e), fun _ => rfl, .inl rfl⟩, .inl ⟨rfl, rfl⟩⟩
    · rw [he.cells] at h4
      have key : ∀ i, i < len → ∃ b : α, ∃ y, elems[i]? = some y ∧ good b y.1 ∧ ∀ j, j < n → ∃ v, W.cell? ((a.add (i * n)).add j) = some v ∧ RepF (heapM W) (cell b j) v := by
        intro i hi
        have hq := h4 i hi
        have hy : elems[i]? = some (elems[i]'(by omega)) := by simp [h3, hi]
        rw [hy] at hq
        simp only [Option.bind_eq_some_iff] at hq
        obtain ⟨cs', c1, c2⟩ := hq
        obtain ⟨-, l1, l2⟩ := World.cells?_some c1
        obtain ⟨l3, b, b1, b2⟩ := he.out W sp m cs' _ c2
        refine ⟨b, _, hy, b2, fun j hj => ?_⟩
        obtain ⟨v, v1, v2⟩ := b1 j hj
        exact ⟨v, by rw [l2 j hj]; exact v1, v2⟩
      classical
      let f : Nat → α := fun i => if h : i < len then (key i h).choose else default
      have hf : ∀ i (h : i < len), f i = (key i h).choose := fun i h => by simp only [f]; rw [dif_pos h]
      let l : List α := (List.range len).map f
      have hl : l.length = len := by simp [l]
      have hg : ∀ i, i < len → l.getD i default = f i := fun i h => by simp [l, List.getD, h]
      refine ⟨rfl, l, fun j hj => ⟨.slice (some a) len cap, one_get hj, ?_⟩, .inr ⟨elems.map (·.1), rest.map (·.1), rfl, by simp [h3, hl], fun i b e hb he' => ?_⟩⟩
      · rw [hl]
        refine ⟨some a, cap, rfl, by omega, h1, fun e => (by cases e), fun e => (by cases e), ?_⟩
        by_cases c : len = 0
        · exact .inl c
        · right
          obtain ⟨v0, w0, -⟩ := (key 0 (by omega)).choose_spec.choose_spec.2.2 0 (by omega)
          rw [show (a.add (0 * n)).add 0 = a by simp [Addr.add]] at w0
          obtain ⟨hx, _⟩ := heapM_cell w0
          refine ⟨a.block, a.off, congrArg some hx, fun i hi j hj => ?_⟩
          obtain ⟨v, v1, v2⟩ := (key i hi).choose_spec.choose_spec.2.2 j hj
          rw [hx, add_at, add_at] at v1
          obtain ⟨_, e⟩ := heapM_cell v1
          refine ⟨v, e, ?_⟩
          simp only [rowG]
          rw [hg i hi, hf i hi]
          exact v2
      · have hi : i < len := by
          have := (List.getElem?_eq_some_iff.1 hb).1
          omega
        obtain ⟨y1, y2, -⟩ := (key i hi).choose_spec.choose_spec
        have e1 : b = (key i hi).choose := by
          have : l[i]? = some (f i) := by simp [l, hi]
          rw [this, hf i hi] at hb
          exact (Option.some.inj hb).symm
        rw [List.getElem?_map, y1] at he'
        cases he'
        rw [e1]
        exact y2⟩
theorem struct_part {t : TypeId} {fs : Array Field} (ht : P.underlying t = some (.struct fs)) {W : World} {sp : Nat → Bool} {fuel : Nat} {cs : List Value} {x : DataW H × List MemPlace} (h : DataW.trod enc P W 0 sp true fuel t cs = some x) :
    cs.length = P.cellsOf t ∧ ∃ ps : List (DataW H), x.1 = .agg ps ∧ ps.length = fs.size ∧ ∀ (i : Nat) (f : Field) (m : Nat) (α : Type) (cell : α → Nat → C) (good : α → DataW H → Prop), fs[i]? = some f → Rd enc P f.type m α cell good →
      ∃ a : α, (∀ j, j < m → ∃ v, cs[f.offset + j]? = some v ∧ RepF (heapM W) (cell a j) v) ∧ ∃ y, ps[i]? = some y ∧ good a y := by
  obtain ⟨xs, n, rfl, rfl, hl, hx, hf⟩ := DataW.trod_struct ht h
  refine ⟨hl, xs.map (·.1), rfl, by simp [hx], fun i f m α cell good hi R => ?_⟩
  have h1 := hf i f hi
  have hlt : i < xs.length := by
    rw [hx]; exact (Array.getElem?_eq_some_iff.1 hi).1
  have hy : xs[i]? = some xs[i] := by simp [hlt]
  rw [hy, R.cells] at h1
  obtain ⟨-, a, a1, a2⟩ := R.out W sp n _ _ h1
  refine ⟨a, fun j hj => ?_, _, by rw [List.getElem?_map, hy]; rfl, a2⟩
  obtain ⟨v, v1, v2⟩ := a1 j hj
  refine ⟨v, ?_, v2⟩
  rw [List.getElem?_take, if_pos hj, List.getElem?_drop] at v1
  exact v1
end
end Go.Am
end
