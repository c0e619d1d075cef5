import Derived.Test.YtbdhjlanfigdgaaA21
/- THE ABSTRACT MACHINE, PART 22: a call by a contract that was proved beside fewer objects; a call that only reads. -/
namespace Go.Am

/-- The place of a number in a list. -/
def idx (rs : List Nat) (a : Nat) : Option Nat :=
  match rs with
  | [] => none
  | r :: t => match Nat.beq r a with
    | true => some 0
    | false => match idx t a with
      | some i => some (i + 1)
      | none => none

/-- The number that an object of the callee has here. -/
def sg (rs : List Nat) (h j : Nat) : Nat :=
  match getL rs j with
  | some r => r
  | none => j - rs.length + h

def reC (σ : Nat → Nat) : C → C
  | .ptr a o => .ptr (σ a) o
  | .ep a i j t => .ep (σ a) i j t
  | .sl a es l t x => .sl (σ a) es l t x
  | .fn f m g => .fn f m fun j => reC σ (g j)
  | c => c

def reL (σ : Nat → Nat) : List C → List C
  | [] => []
  | x :: r => reC σ x :: reL σ r
def reE (σ : Nat → Nat) : C ⊕ List C → C ⊕ List C
  | .inl x => .inl (reC σ x)
  | .inr xs => .inr (reL σ xs)
def reEL (σ : Nat → Nat) : List (C ⊕ List C) → List (C ⊕ List C)
  | [] => []
  | x :: r => reE σ x :: reEL σ r
def reS (σ : Nat → Nat) : S → S
  | .u => .u
  | .c x => .c (reC σ x)
  | .a xs => .a (reL σ xs)
  | .t l => .t (reEL σ l)
  | .lz b s => .lz b (reS σ s)
def reO (σ : Nat → Nat) : O → O
  | .vr cs => .vr (reL σ cs)
  | .arr e es m h => .arr e es m fun i j => reC σ (h i j)
  | .dead => .dead
def reHL (σ : Nat → Nat) : List O → List O
  | [] => []
  | o :: r => reO σ o :: reHL σ r

/-- The callee's objects, put back among the caller's. -/
def plugK (σ : Nat → Nat) (rs : List Nat) (Hc : List O) : Nat → List O → List O
  | _, [] => []
  | k, o :: r => (match idx rs k with
    | some i => match getL Hc i with
      | some o' => reO σ o'
      | none => o
    | none => o) :: plugK σ rs Hc (k + 1) r

def dropL {α : Type} : Nat → List α → List α
  | 0, l => l
  | _ + 1, [] => []
  | k + 1, _ :: r => dropL k r

def plug (rs : List Nat) (H Hc : List O) : List O :=
  plugK (sg rs H.length) rs Hc 0 H ++ reHL (sg rs H.length) (dropL rs.length Hc)

section
variable {σ : Nat → Nat}

theorem dropL_eq {α : Type} : ∀ (k : Nat) (l : List α), dropL k l = l.drop k
  | 0, _ => rfl
  | _ + 1, [] => rfl
  | k + 1, _ :: r => by simp [dropL, dropL_eq k r]
theorem reL_len : ∀ l : List C, (reL σ l).length = l.length
  | [] => rfl
  | _ :: r => by simp [reL, reL_len r]
theorem reL_get : ∀ (l : List C) (j : Nat), getL (reL σ l) j = (getL l j).map (reC σ)
  | [], _ => rfl
  | _ :: _, 0 => rfl
  | _ :: r, j + 1 => by simp only [reL, getL]; exact reL_get r j
theorem reEL_len : ∀ l : List (C ⊕ List C), (reEL σ l).length = l.length
  | [] => rfl
  | _ :: r => by simp [reEL, reEL_len r]
theorem reEL_get : ∀ (l : List (C ⊕ List C)) (j : Nat), getL (reEL σ l) j = (getL l j).map (reE σ)
  | [], _ => rfl
  | _ :: _, 0 => rfl
  | _ :: r, j + 1 => by simp only [reEL, getL]; exact reEL_get r j
theorem reHL_len : ∀ l : List O, (reHL σ l).length = l.length
  | [] => rfl
  | _ :: r => by simp [reHL, reHL_len r]
theorem reHL_get : ∀ (l : List O) (j : Nat), getL (reHL σ l) j = (getL l j).map (reO σ)
  | [], _ => rfl
  | _ :: _, 0 => rfl
  | _ :: r, j + 1 => by simp only [reHL, getL]; exact reHL_get r j

theorem plugK_len {rs : List Nat} {Hc : List O} : ∀ (k : Nat) (H : List O), (plugK σ rs Hc k H).length = H.length
  | _, [] => rfl
  | k, _ :: r => by simp [plugK, plugK_len (k + 1) r]
theorem plugK_get {rs : List Nat} {Hc : List O} : ∀ (k : Nat) (H : List O) (j : Nat), getL (plugK σ rs Hc k H) j = (getL H j).map fun o => match idx rs (k + j) with
    | some i => match getL Hc i with
      | some o' => reO σ o'
      | none => o
    | none => o
  | _, [], _ => rfl
  | k, _ :: _, 0 => rfl
  | k, _ :: r, j + 1 => by
    simp only [plugK, getL, plugK_get (k + 1) r j]
    rw [show k + 1 + j = k + (j + 1) by omega]

theorem idx_some {a i : Nat} : ∀ {rs : List Nat}, idx rs a = some i → getL rs i = some a
  | [], h => by simp [idx] at h
  | r :: t, h => by
    simp only [idx] at h
    split at h
    · rename_i hb
      cases h
      rw [Nat.eq_of_beq_eq_true hb]
      rfl
    · cases hi : idx t a with
      | none => rw [hi] at h; cases h
      | some k =>
        rw [hi] at h
        cases h
        simpa [getL] using idx_some hi
theorem idx_none {a : Nat} : ∀ {rs : List Nat}, idx rs a = none → ∀ i, getL rs i ≠ some a
  | [], _, i => by simp [getL]
  | r :: t, h, i => by
    simp only [idx] at h
    split at h
    · cases h
    · rename_i hb
      cases hi : idx t a with
      | some k => rw [hi] at h; cases h
      | none =>
        cases i with
        | zero =>
          simp only [getL]
          intro e
          cases e
          simp at hb
        | succ i => simpa [getL] using idx_none hi i

end

theorem getL_append_ge {α : Type} (l r : List α) (i : Nat) (h : l.length ≤ i) : getL (l ++ r) i = getL r (i - l.length) := by
  rw [getL_eq, getL_eq, List.getElem?_append_right h]
theorem getL_append_lt' {α : Type} (l r : List α) (i : Nat) (h : i < l.length) : getL (l ++ r) i = getL l i := by
  rw [getL_eq, getL_eq, List.getElem?_append_left h]

/-- The caller's objects that the callee does not have, put aside. -/
noncomputable def Keep.but (K : Keep) (H : List O) (μ : Nat → Value) (w : World) (rs : List Nat) : Keep :=
  { K with mem := open Classical in fun b => if ∃ id, idx rs id = none ∧ owned H μ id b then w.heap[b]? else K.mem b }

section
variable {K : Keep} {F F' : Mem} {H Hc Hc' : List O} {μ μ' : Nat → Value} {w w' : World} {rs : List Nat}

/-- The values of all objects, the callee's put back. -/
def plugM (rs : List Nat) (h : Nat) (μ μ' : Nat → Value) : Nat → Value := fun id =>
  if h ≤ id then μ' (id - h + rs.length) else match idx rs id with
    | some i => μ' i
    | none => μ id

def rho (rs : List Nat) : Nat → Nat := fun i => (getL rs i).getD 0

structure Fr (H Hc : List O) (rs : List Nat) : Prop where
  len : rs.length = Hc.length
  wk : HWk (rho rs) H Hc

theorem Fr.lt (h : Fr H Hc rs) {i a : Nat} (hi : getL rs i = some a) : i < Hc.length ∧ a < H.length ∧ rho rs i = a ∧ idx rs a = some i := by
  have h1 := getL_lt hi
  have h2 : rho rs i = a := by simp [rho, hi]
  have h3 : i < Hc.length := by rw [← h.len]; exact h1
  refine ⟨h3, ?_, h2, ?_⟩
  · obtain ⟨o, ho, _⟩ := h.wk.ob i Hc[i] (by rw [getL_eq]; simp [h3])
    rw [h2] at ho
    exact getL_lt ho
  · cases hx : idx rs a with
    | none => exact absurd hi (idx_none hx i)
    | some k =>
      have hk := idx_some hx
      have k1 := getL_lt hk
      have := h.wk.inj i k h3 (by rw [← h.len]; exact k1) (by rw [h2]; simp [rho, hk])
      rw [this]

/-- An object of the callee, seen by the caller. -/
theorem Fr.at (h : Fr H Hc rs) (hl : Hc.length ≤ Hc'.length) {j : Nat} {o : O} (hj : getL Hc' j = some o) :
    getL (plug rs H Hc') (sg rs H.length j) = some (reO (sg rs H.length) o) ∧ plugM rs H.length μ μ' (sg rs H.length j) = μ' j := by
  cases hr : getL rs j with
  | some a =>
    obtain ⟨h1, h2, h3, h4⟩ := h.lt hr
    have hs : sg rs H.length j = a := by simp [sg, hr]
    rw [hs]
    constructor
    · unfold plug
      rw [getL_append_lt' _ _ _ (by rw [plugK_len]; exact h2), plugK_get]
      have : ∃ p, getL H a = some p := ⟨H[a], by rw [getL_eq]; simp [h2]⟩
      obtain ⟨p, hp⟩ := this
      rw [hp]
      simp only [Option.map_some, Nat.zero_add, h4, hj]
    · simp only [plugM]
      rw [if_neg (by omega), h4]
  | none =>
    have hge : rs.length ≤ j := by
      rw [getL_eq] at hr
      exact List.getElem?_eq_none_iff.1 hr
    have hs : sg rs H.length j = j - rs.length + H.length := by simp [sg, hr]
    rw [hs]
    constructor
    · unfold plug
      rw [getL_append_ge _ _ _ (by rw [plugK_len]; omega), plugK_len, reHL_get, dropL_eq]
      have : getL (Hc'.drop rs.length) (j - rs.length + H.length - H.length) = some o := by
        rw [getL_eq, List.getElem?_drop]
        rw [getL_eq] at hj
        rw [← hj]
        congr 1
        omega
      rw [this]
      rfl
    · simp only [plugM]
      rw [if_pos (by omega)]
      congr 1
      omega

theorem Fr.repC (h : Fr H Hc rs) (hl : Hc.length ≤ Hc'.length) : ∀ (c : C) (v : Value), RepC F Hc' μ' c v → RepC F (plug rs H Hc') (plugM rs H.length μ μ') (reC (sg rs H.length) c) v := by
  intro c
  induction c with
  | ptr a off =>
    intro v hv
    obtain ⟨⟨cs, h1⟩, b, h2, h3⟩ := hv
    obtain ⟨k1, k2⟩ := h.at (μ := μ) (μ' := μ') hl h1
    exact ⟨⟨_, k1⟩, b, by rw [k2]; exact h2, h3⟩
  | ep a i j t =>
    intro v hv
    obtain ⟨h0, e, es, n, g, h1, h2, h3⟩ := hv
    obtain ⟨k1, k2⟩ := h.at (μ := μ) (μ' := μ') hl h1
    exact ⟨h0, e, es, n, _, k1, h2, fun q => by rw [k2]; exact h3 q⟩
  | sl a es l t x =>
    intro v hv
    obtain ⟨h0, e, n, g, h1, h2, h3, h4⟩ := hv
    obtain ⟨k1, k2⟩ := h.at (μ := μ) (μ' := μ') hl h1
    exact ⟨h0, e, n, _, k1, h2, h3, fun q => by rw [k2]; exact h4 q⟩
  | fn f m g ih =>
    intro v hv
    obtain ⟨cs, h1, h2, h3⟩ := hv
    refine ⟨cs, h1, h2, fun j hj => ?_⟩
    obtain ⟨x, x1, x2⟩ := h3 j hj
    exact ⟨x, x1, ih j x x2⟩
  | _ => intro v hv; exact hv

theorem Fr.repL (h : Fr H Hc rs) (hl : Hc.length ≤ Hc'.length) {xs : List C} {cs : Array Value} (hx : RepL F Hc' μ' xs cs) : RepL F (plug rs H Hc') (plugM rs H.length μ μ') (reL (sg rs H.length) xs) cs := by
  refine ⟨by rw [reL_len]; exact hx.1, fun j x hj => ?_⟩
  rw [reL_get] at hj
  cases hy : getL xs j with
  | none => rw [hy] at hj; cases hj
  | some y =>
    rw [hy] at hj
    cases hj
    obtain ⟨v, v1, v2⟩ := hx.2 j y hy
    exact ⟨v, v1, h.repC hl y v v2⟩

theorem Fr.repS (h : Fr H Hc rs) (hl : Hc.length ≤ Hc'.length) : ∀ {s : S} {v : Value}, RepS F Hc' μ' s v → RepS F (plug rs H Hc') (plugM rs H.length μ μ') (reS (sg rs H.length) s) v
  | .u, _, _ => trivial
  | .c x, v, hv => h.repC hl x v hv
  | .a _, _, ⟨cs, h1, h2⟩ => ⟨cs, h1, h.repL hl h2⟩
  | .t l, _, ⟨vs, h1, h2, h3⟩ => by
    refine ⟨vs, h1, by rw [reEL_len]; exact h2, fun j x hx => ?_⟩
    rw [reEL_get] at hx
    cases hy : getL l j with
    | none => rw [hy] at hx; cases hx
    | some y =>
      rw [hy] at hx
      cases hx
      obtain ⟨u, u1, u2⟩ := h3 j y hy
      refine ⟨u, u1, ?_⟩
      cases y with
      | inl c => exact h.repC hl c u u2
      | inr cs => obtain ⟨k, k1, k2⟩ := u2; exact ⟨k, k1, h.repL hl k2⟩
  | .lz _ s, _, hv => ⟨fun hg => h.repS hl (s := s) (hv.1 hg), hv.2⟩

theorem Ext.len (h : Ext Hc μ Hc' μ') (hd : ∀ i, getL Hc i ≠ some .dead) : Hc.length ≤ Hc'.length := by
  by_cases hz : Hc.length = 0
  · omega
  · have hlt : Hc.length - 1 < Hc.length := by omega
    have hg : getL Hc (Hc.length - 1) = some Hc[Hc.length - 1] := by rw [getL_eq]; simp
    cases ho : Hc[Hc.length - 1] with
    | vr cs =>
      rw [ho] at hg
      obtain ⟨⟨cs', h1⟩, _⟩ := h.1 _ cs hg
      have := getL_lt h1
      omega
    | arr e es n g =>
      rw [ho] at hg
      obtain ⟨n', g', h1, _⟩ := h.2 _ e es n g hg
      have := getL_lt h1
      omega
    | dead => rw [ho] at hg; exact absurd hg (hd _)

/-- The caller's object that is not the callee's, later. -/
theorem Fr.old (h : Fr H Hc rs) {a : Nat} {o : O} (ha : getL H a = some o) (hx : idx rs a = none) :
    getL (plug rs H Hc') a = some o ∧ plugM rs H.length μ μ' a = μ a := by
  have := getL_lt ha
  constructor
  · unfold plug
    rw [getL_append_lt' _ _ _ (by rw [plugK_len]; exact this), plugK_get, ha]
    simp only [Option.map_some, Nat.zero_add, hx]
  · simp only [plugM]
    rw [if_neg (by omega), hx]

theorem Fr.ext (h : Fr H Hc rs) (hl : Hc.length ≤ Hc'.length) (hE : Ext Hc (fun i => μ (rho rs i)) Hc' μ') : Ext H μ (plug rs H Hc') (plugM rs H.length μ μ') := by
  refine ⟨fun a cs ha => ?_, fun a e es n g ha => ?_⟩
  · cases hx : idx rs a with
    | none =>
      obtain ⟨h1, h2⟩ := h.old (Hc' := Hc') (μ := μ) (μ' := μ') ha hx
      exact ⟨⟨cs, h1⟩, h2⟩
    | some i =>
      obtain ⟨k1, k2, k3, _⟩ := h.lt (idx_some hx)
      obtain ⟨cs', hc⟩ := h.wk.kind_vr (b := i) k1 (by rw [k3]; exact ha)
      obtain ⟨⟨cs'', h1⟩, h2⟩ := hE.1 i cs' hc
      obtain ⟨q1, q2⟩ := h.at (μ := μ) (μ' := μ') hl h1
      have hs : sg rs H.length i = a := by simp [sg, idx_some hx]
      rw [hs] at q1 q2
      exact ⟨⟨_, q1⟩, by rw [q2, h2]; show μ (rho rs i) = μ a; rw [k3]⟩
  · cases hx : idx rs a with
    | none =>
      obtain ⟨h1, h2⟩ := h.old (Hc' := Hc') (μ := μ) (μ' := μ') ha hx
      exact ⟨n, g, h1, Nat.le_refl _, fun _ => h2⟩
    | some i =>
      obtain ⟨k1, k2, k3, _⟩ := h.lt (idx_some hx)
      obtain ⟨g', hc⟩ := h.wk.kind_arr (b := i) k1 (by rw [k3]; exact ha)
      obtain ⟨n', g'', h1, h2, h3⟩ := hE.2 i e es n g' hc
      obtain ⟨q1, q2⟩ := h.at (μ := μ) (μ' := μ') hl h1
      have hs : sg rs H.length i = a := by simp [sg, idx_some hx]
      rw [hs] at q1 q2
      exact ⟨n', _, q1, h2, fun q => by rw [q2, h3 q]; show μ (rho rs i) = μ a; rw [k3]⟩

theorem Fr.aside (h : Fr H Hc rs) (hw : HSat K F H μ w) : HSat (K.but H μ w rs) F Hc (fun i => μ (rho rs i)) w := by
  have hk := hw.wk h.wk
  refine ⟨hk.os, hk.tape, hk.output, hk.fr, fun b o hb => ?_, hk.ob, fun i b hb => ⟨(hk.sp i b hb).1, ?_⟩, hk.ij, fun b o hb => ?_⟩
  · simp only [Keep.but] at hb
    split at hb
    · exact hb
    · exact hk.kp b o hb
  · simp only [Keep.but]
    rw [if_neg]
    · exact (hk.sp i b hb).2
    · rintro ⟨id, h1, h2⟩
      obtain ⟨⟨o, o1, o2⟩, hbb⟩ := hb
      have hi := getL_lt o1
      obtain ⟨p, p1, p2⟩ := h.wk.ob i o o1
      have hown : owned H μ (rho rs i) b := ⟨⟨p, p1, fun e => by subst e; cases o with
        | dead => exact o2 rfl
        | vr => exact p2.elim
        | arr => exact p2.elim⟩, hbb⟩
      have := hw.ij _ _ b h2 hown
      have hr : getL rs i = some (rho rs i) := by
        have : i < rs.length := by rw [h.len]; exact hi
        simp only [rho, getL_eq]
        simp [this]
      rw [← this] at hr
      exact idx_none h1 i hr
  · simp only [Keep.but]
    rw [if_neg]
    · exact hk.dj b o hb
    · rintro ⟨id, _, h2⟩
      rw [(hw.sp id b h2).1] at hb
      cases hb

theorem Fr.back (h : Fr H Hc rs) (hw : HSat K F H μ w) (hl : Hc.length ≤ Hc'.length) (hE : Ext Hc (fun i => μ (rho rs i)) Hc' μ') (hF : F.le F') (k : HSat (K.but H μ w rs) F' Hc' μ' w') : HSat K F' (plug rs H Hc') (plugM rs H.length μ μ') w' := by
  have hext := h.ext hl hE
  have ownK : ∀ id b, idx rs id = none → owned H μ id b → (K.but H μ w rs).mem b = w.heap[b]? := by
    intro id b h1 h2
    simp only [Keep.but]
    rw [if_pos ⟨id, h1, h2⟩]
  -- what an object of the whole is
  have split : ∀ a o, getL (plug rs H Hc') a = some o → (idx rs a = none ∧ getL H a = some o ∧ plugM rs H.length μ μ' a = μ a) ∨ ∃ j o', getL Hc' j = some o' ∧ a = sg rs H.length j ∧ o = reO (sg rs H.length) o' ∧ plugM rs H.length μ μ' a = μ' j := by
    intro a o ha
    by_cases hlt : a < H.length
    · have hg : getL H a = some H[a] := by rw [getL_eq]; simp [hlt]
      cases hx : idx rs a with
      | none =>
        obtain ⟨h1, h2⟩ := h.old (Hc' := Hc') (μ := μ) (μ' := μ') hg hx
        rw [h1] at ha
        cases ha
        exact .inl ⟨rfl, hg, h2⟩
      | some i =>
        obtain ⟨k1, k2, k3, _⟩ := h.lt (idx_some hx)
        have hi : getL Hc' i = some (Hc'[i]'(by omega)) := by rw [getL_eq]; simp
        obtain ⟨q1, q2⟩ := h.at (μ := μ) (μ' := μ') hl hi
        have hs : sg rs H.length i = a := by simp [sg, idx_some hx]
        rw [hs] at q1 q2
        rw [q1] at ha
        cases ha
        exact .inr ⟨i, _, hi, hs.symm, rfl, q2⟩
    · have hge : H.length ≤ a := by omega
      have hlen := getL_lt ha
      have hsz : (plug rs H Hc').length = H.length + (Hc'.length - rs.length) := by
        unfold plug
        rw [List.length_append, plugK_len, reHL_len, dropL_eq, List.length_drop]
      rw [hsz] at hlen
      have hj : a - H.length + rs.length < Hc'.length := by omega
      have hi : getL Hc' (a - H.length + rs.length) = some Hc'[a - H.length + rs.length] := by rw [getL_eq]; simp
      obtain ⟨q1, q2⟩ := h.at (μ := μ) (μ' := μ') hl hi
      have hs : sg rs H.length (a - H.length + rs.length) = a := by
        have : getL rs (a - H.length + rs.length) = none := by rw [getL_eq]; simp
        simp only [sg, this]
        omega
      rw [hs] at q1 q2
      rw [q1] at ha
      cases ha
      exact .inr ⟨_, _, hi, hs.symm, rfl, q2⟩
  have own : ∀ a b, owned (plug rs H Hc') (plugM rs H.length μ μ') a b → (idx rs a = none ∧ owned H μ a b) ∨ ∃ j, a = sg rs H.length j ∧ owned Hc' μ' j b := by
    intro a b ⟨⟨o, o1, o2⟩, hb⟩
    rcases split a o o1 with ⟨h1, h2, h3⟩ | ⟨j, o', h1, h2, h3, h4⟩
    · exact .inl ⟨h1, ⟨o, h2, o2⟩, by rw [← h3]; exact hb⟩
    · refine .inr ⟨j, h2, ⟨o', h1, fun e => o2 ?_⟩, by rw [← h4]; exact hb⟩
      subst e
      exact h3
  have apart : ∀ a j b, idx rs a = none → owned H μ a b → owned Hc' μ' j b → False := by
    intro a j b h1 h2 h3
    have := (k.sp j b h3).2
    rw [ownK a b h1 h2] at this
    obtain ⟨o, ho⟩ := owned_some hw h2
    rw [ho] at this
    cases this
  refine ⟨k.os, k.tape, k.output, k.fr, fun b o hb => k.kp b o ?_, fun a o ho => ?_, fun a b ho => ?_, fun a a' b ho ho' => ?_, fun b o hb => ?_⟩
  · simp only [Keep.but]
    rw [if_neg]
    · exact hb
    · rintro ⟨id, _, hid⟩
      rw [(hw.sp id b hid).2] at hb
      cases hb
  · rcases split a o ho with ⟨h1, h2, h3⟩ | ⟨j, o', h1, h2, h3, h4⟩
    · have := hw.ob a o h2
      cases o with
      | vr cs =>
        obtain ⟨b, c, T, q1, q2, q3⟩ := this
        have hb : owned H μ a b := ⟨⟨_, h2, by simp⟩, by rw [q1]; rfl⟩
        exact ⟨b, c, T, by rw [h3]; exact q1, k.kp b _ (by rw [ownK a b h1 hb]; exact q2), q3.mono hF hext⟩
      | arr e es n g =>
        obtain ⟨xs, q1, q2, q3⟩ := this
        refine ⟨xs, ?_, q2, fun i hi j hj => ?_⟩
        · rw [h3]
          refine ⟨q1.1, ?_⟩
          rcases q1.2 with q | ⟨g', cap, cur, q, r2, r3, rest⟩
          · exact .inl q
          · have hb : owned H μ a g' := ⟨⟨_, h2, by simp⟩, by rw [q]; rfl⟩
            exact .inr ⟨g', cap, cur, q, r2, k.kp g' _ (by rw [ownK a g' h1 hb]; exact r3), rest⟩
        · obtain ⟨v, v1, v2⟩ := q3 i hi j hj
          exact ⟨v, v1, RepC.mono hF hext _ _ v2⟩
      | dead => trivial
    · have := k.ob j o' h1
      subst h3
      cases o' with
      | vr cs =>
        obtain ⟨b, c, T, q1, q2, q3⟩ := this
        exact ⟨b, c, T, by rw [h4]; exact q1, q2, h.repL hl q3⟩
      | arr e es n g =>
        obtain ⟨xs, q1, q2, q3⟩ := this
        refine ⟨xs, by rw [h4]; exact q1, q2, fun i hi j hj => ?_⟩
        obtain ⟨v, v1, v2⟩ := q3 i hi j hj
        exact ⟨v, v1, h.repC hl _ v v2⟩
      | dead => trivial
  · rcases own a b ho with ⟨h1, h2⟩ | ⟨j, h1, h2⟩
    · refine ⟨?_, (hw.sp a b h2).2⟩
      cases hf : F' b with
      | none => rfl
      | some o =>
        have := k.dj b o hf
        rw [ownK a b h1 h2] at this
        obtain ⟨o', ho'⟩ := owned_some hw h2
        rw [ho'] at this
        cases this
    · refine ⟨(k.sp j b h2).1, ?_⟩
      have := (k.sp j b h2).2
      simp only [Keep.but] at this
      split at this
      · rename_i hid
        obtain ⟨id, _, hid⟩ := hid
        exact (hw.sp id b hid).2
      · exact this
  · rcases own a b ho with ⟨h1, h2⟩ | ⟨j, h1, h2⟩
    · rcases own a' b ho' with ⟨h1', h2'⟩ | ⟨j', h1', h2'⟩
      · exact hw.ij a a' b h2 h2'
      · exact (apart a j' b h1 h2 h2').elim
    · rcases own a' b ho' with ⟨h1', h2'⟩ | ⟨j', h1', h2'⟩
      · exact (apart a' j b h1' h2' h2).elim
      · rw [h1, h1', k.ij j j' b h2 h2']
  · have := k.dj b o hb
    simp only [Keep.but] at this
    split at this
    · rename_i hid
      obtain ⟨id, _, hid⟩ := hid
      exact (hw.sp id b hid).2
    · exact this

def wkA (ρ : Nat → Nat) (n : Nat) : List S → List S → Prop
  | [], [] => True
  | s :: r, s' :: r' => wkS ρ n s s' ∧ wkA ρ n r r'
  | _, _ => False

theorem wkA_ok {ρ : Nat → Nat} {H H' : List O} (h : HWk ρ H H') {F : Mem} {μ : Nat → Value} : ∀ {l l' : List S}, wkA ρ H'.length l l' → ∀ {vs : Array Value} {o : Nat}, (∀ (j : Nat) s, getL l j = some s → ∃ v, vs[o + j]? = some v ∧ RepS F H μ s v) →
    l.length = l'.length ∧ ∀ (j : Nat) s, getL l' j = some s → ∃ v, vs[o + j]? = some v ∧ RepS F H' (fun i => μ (ρ i)) s v
  | [], [], _, _, _, _ => ⟨rfl, fun j s h => by simp [getL] at h⟩
  | s :: r, s' :: r', ⟨h2, h3⟩, vs, o, hh => by
    obtain ⟨k1, k2⟩ := wkA_ok h (o := o + 1) h3 (fun j t ht => by
      obtain ⟨v, v1, v2⟩ := hh (j + 1) t (by simpa [getL] using ht)
      exact ⟨v, by rw [← v1]; congr 1; omega, v2⟩)
    refine ⟨by simp [k1], fun j t ht => ?_⟩
    cases j with
    | zero =>
      simp only [getL, Option.some.injEq] at ht
      subst ht
      obtain ⟨v, v1, v2⟩ := hh 0 s rfl
      exact ⟨v, v1, wkS_ok h s s' h2 v v2⟩
    | succ j =>
      simp only [getL] at ht
      obtain ⟨v, v1, v2⟩ := k2 j t ht
      exact ⟨v, by rw [← v1]; congr 1; omega, v2⟩
  | [], _ :: _, h, _, _, _ => h.elim
  | _ :: _, [], h, _, _, _ => h.elim

/-- A call by a contract that was proved beside fewer objects, under other numbers. -/
theorem CSpec.frame {P : Program} {f : FuncId} {args args' : List S} {H Hc : List O} {Q : S → List O → Prop} (hc : CSpec P f args' Hc Q) (rs : List Nat) (h : Fr H Hc rs) (hd : ∀ i, getL Hc i ≠ some .dead) (ha : wkA (rho rs) Hc.length args args') {k : S → List O → Prop}
    (hk : ∀ s Hc', Q s Hc' → k (reS (sg rs H.length) s) (plug rs H Hc')) : CSpec P f args H k := by
  intro K F μ w vs hw hA
  obtain ⟨l1, l2⟩ := wkA_ok h.wk (o := 0) ha (fun j s hs => by simpa using hA.2 j s hs)
  refine (hc (K.but H μ w rs) F (fun i => μ (rho rs i)) w vs (h.aside hw) ⟨hA.1.trans l1, fun j s hs => by simpa using l2 j s hs⟩).mono ?_
  rintro e w' ⟨v, F', μ', s, Hc', rfl, h1, h2, h3, h4, h5⟩
  have hl := h3.len hd
  exact ⟨v, F', plugM rs H.length μ μ', _, _, rfl, h1, h.back hw hl h3 h1 h2, h.ext hl h3, h.repS hl h4, hk s Hc' h5⟩

theorem Fr.nil : Fr H [] [] := ⟨rfl, ⟨fun i o' h => by simp [getL] at h, fun i j h => by simp at h⟩⟩

/-- A call by a contract that was proved beside nothing. -/
theorem CSpec.opens {P : Program} {f : FuncId} {args args' : List S} {H : List O} {Q : S → List O → Prop} (hc : CSpec P f args' [] Q) (ha : leA args args') {k : S → List O → Prop}
    (hk : ∀ s Hc', Q s Hc' → k (reS (sg [] H.length) s) (plug [] H Hc')) : CSpec P f args H k := by
  intro K F μ w vs hw hA
  obtain ⟨l1, l2⟩ := leA_ok (o := 0) ha (fun j s hs => by simpa using hA.2 j s hs)
  have k0 := (Fr.nil (H := H)).aside hw
  have k1 : HSat (K.but H μ w []) F [] μ w := ⟨k0.os, k0.tape, k0.output, k0.fr, k0.kp, fun id o ho => by simp [getL] at ho, fun id b ⟨⟨o, ho, _⟩, _⟩ => by simp [getL] at ho, fun id id' b ⟨⟨o, ho, _⟩, _⟩ => by simp [getL] at ho, k0.dj⟩
  refine (hc (K.but H μ w []) F μ w vs k1 ⟨hA.1.trans l1, fun j s hs => by simpa using l2 j s hs⟩).mono ?_
  rintro e w' ⟨v, F', μ', s, Hc', rfl, h1, h2, h3, h4, h5⟩
  have hl : ([] : List O).length ≤ Hc'.length := Nat.zero_le _
  have h3' : Ext [] (fun i => μ (rho [] i)) Hc' μ' := ⟨fun _ _ hc => by simp [getL] at hc, fun _ _ _ _ _ hc => by simp [getL] at hc⟩
  exact ⟨v, F', plugM [] H.length μ μ', _, _, rfl, h1, Fr.nil.back hw hl h3' h1 h2, Fr.nil.ext hl h3', Fr.nil.repS hl h4, hk s Hc' h5⟩

end
end Go.Am
