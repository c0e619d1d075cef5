/- Contracts, lemmas; no condition. -/
import Derived.Test.YtjjlblnbeggejaaGreatA20
import Derived.ProofKit
import Derived.RowKit3
set_option linter.all false
section
namespace Go.Am
variable {n0 : Nat} {s : S} {H' : List O}
section
variable {id n : Nat} {g : Nat → Nat → C}
variable {K : Keep} {F : Mem} {H : List O} {μ : Nat → Value} {w : World} {e es : Nat}
theorem Sat.fz {X : Cx} {F0 : Mem} {H0 : List O} {μ0 : Nat → Value} {ts : Ts} {a : Act} (hs : Sat X K F0 H0 μ0 ts H F μ a w) (hid : getL H id = some (.arr e es n g)) (hn : X.n0 ≤ id) (him : ∀ i, i < n → ∀ j, j < es → (g i j).imm = true) :
  Sat X K F0 H0 μ0 (fzT id n g ts) (fzH id n g H) (fzM F H μ w id) μ a w :=
 ⟨hs.le.le_trans' (QdV hs.hs), hs.ext.fz (Qza hs.n0 hn), QiS hs.hs hid him, fun t => by rw [Qm1]; exact Qfp hs.hs hid him (hs.tp t), hs.sz, hs.df, hs.n0⟩
theorem Mv.fz {X : Cx} {ts : Ts} (id : Nat) (hid : getL H id = some (.arr e es n g)) (hn : X.n0 ≤ id) (him : ∀ i, i < n → ∀ j, j < es → (g i j).imm = true) : Mv X ts H (fzT id n g ts) (fzH id n g H) :=
 fun _ _ _ _ _ _ _ _ hs => ⟨_, _, hs.fz hid hn him⟩
theorem CallN.fz {X : Cx} {f : FuncId} {args : List S} {dst : Option Tmp} {ts : Ts} {k : Ts → List O → Prop} (id : Nat) (hid : getL H id = some (.arr e es n g)) (hn : X.n0 ≤ id) (him : ∀ i, i < n → ∀ j, j < es → (g i j).imm = true)
  (h : CallN X f (fzA id n g args) dst (fzT id n g ts) (fzH id n g H) k) : CallN X f args dst ts H k := by
 obtain ⟨h1, h2⟩ := h.out
 refine ⟨h1, fun K F0 H0 μ0 F μ a w vs hs hA => ?_⟩
 refine h2 K F0 H0 μ0 _ μ a w vs (hs.fz hid hn him) ⟨by rw [Qow]; exact hA.1, fun j s hj => ?_⟩
 rw [QoX] at hj
 cases hy : getL args j with
 | none => rw [hy] at hj; cases hj
 | some y =>
  rw [hy] at hj
  cases hj
  obtain ⟨v, v1, v2⟩ := hA.2 j y hy
  exact ⟨v, v1, Qfp hs.hs hid him v2⟩
structure RM (n0 : Nat) (s : S) (H : List O) (s' : S) (H' : List O) : Prop where
 intro ::
 out : ∀ K F μ w v, HSat K F H μ w → RepS F H μ s v → ∃ F' μ', F.le F' ∧ HSat K F' H' μ' w ∧ RepS F' H' μ' s' v ∧ ∀ H0 μ0, H0.length ≤ n0 → Ext H0 μ0 H μ → Ext H0 μ0 H' μ'
theorem RM.refl : RM n0 s H s H := ⟨fun _ F μ _ _ hw hs => ⟨F, μ, Mem.le_refl F, hw, hs, fun _ _ _ h => h⟩⟩
theorem RM.trans {s' s'' : S} {H'' : List O} (h : RM n0 s H s' H') (k : RM n0 s' H' s'' H'') : RM n0 s H s'' H'' := by
 refine ⟨fun K F μ w v hw hs => ?_⟩
 obtain ⟨F', μ', h1, h2, h3, h4⟩ := h.out K F μ w v hw hs
 obtain ⟨F'', μ'', k1, k2, k3, k4⟩ := k.out K F' μ' w v h2 h3
 exact ⟨F'', μ'', h1.le_trans' k1, k2, k3, fun H0 μ0 hn he => k4 H0 μ0 hn (h4 H0 μ0 hn he)⟩
theorem RM.fz {n0 : Nat} {s s' : S} {H' : List O} (id : Nat) (hid : getL H id = some (.arr e es n g)) (hn : n0 ≤ id) (him : ∀ i, i < n → ∀ j, j < es → (g i j).imm = true) (h : RM n0 (fzS id n g s) (fzH id n g H) s' H') : RM n0 s H s' H' :=
 RM.trans ⟨fun K F μ w v hw hs => ⟨_, μ, QdV hw, QiS hw hid him, Qfp hw hid him hs, fun _ _ hl he => he.fz (Qza hl hn)⟩⟩ h
theorem RM.wk {n0 : Nat} {s s' : S} {H' : List O} (m : Nat) (hm : H'.length = m) (h : HWkL idN m H H') (hs : wkS idN m s s') (hn : n0 ≤ m) : RM n0 s H s' H' := by
 subst hm
 refine ⟨fun K F μ w v hw hv => ?_⟩
 have hk : HWk idN H H' := ⟨fun i o' hi => QfF h i o' hi, fun i j _ _ e => e⟩
 exact ⟨F, fun i => μ (idN i), Mem.le_refl F, hw.wk hk, Qfx hk s s' hs v hv, fun H0 μ0 hl he => he.wk hk (Qza hl hn)⟩
theorem QwR {s' : S} (ρ : Nat → Nat) (m : Nat) (hm : H'.length = m) (h : HWk ρ H H') (hs : wkS ρ m s s') : RM 0 s H s' H' := by
 subst hm
 refine ⟨fun K F μ w v hw hv => ?_⟩
 refine ⟨F, fun i => μ (ρ i), Mem.le_refl F, hw.wk h, Qfx h s s' hs v hv, fun H0 μ0 hl _ => ?_⟩
 have : H0 = [] := List.length_eq_zero_iff.1 om
 subst this
 exact ⟨fun _ _ hc => by simp [getL] at hc, fun _ _ _ _ _ hc => by simp [getL] at hc, fun _ _ _ _ _ _ hc => by simp [getL] at hc⟩
theorem RM.imm {s s' : S} (h : s.imm = true) (hs : wkS idN 0 s s') : RM 0 s H s' [] :=
 RM.wk 0 rfl (by cases H <;> trivial) hs (QxB 0)
theorem CSpec.rm {P : Program} {f : FuncId} {args : List S} {Q : S → List O → Prop} (h : CSpec P f args H fun s H' => ∃ s' H'', RM H.length s H' s' H'' ∧ Q s' H'') : CSpec P f args H Q := by
 intro K F μ w vs hw hA
 refine (h K F μ w vs hw hA).mono ?_
 rintro e w' ⟨v, F', μ', s, H', rfl, h1, h2, h3, h4, s', H'', hr, hq⟩
 obtain ⟨F'', μ'', r1, r2, r3, r4⟩ := hr.out K F' μ' w' v h2 h4
 exact ⟨v, F'', μ'', s', H'', rfl, h1.le_trans' r1, r2, r4 H μ (QxB _) h3, r3, hq⟩
theorem PSpec.rm {P : Program} {f : FuncId} {args : List S} {r : S} (h : CSpec P f args [] fun s H' => RM 0 s H' r []) : PSpec P f args r := by
 refine CSpec.rm (Q := fun s _ => s = r) ?_
 intro K F μ w vs hw hA
 refine (h K F μ w vs hw hA).mono ?_
 rintro e w' ⟨v, F', μ', s, H', h0, h1, h2, h3, h4, hr⟩
 exact ⟨v, F', μ', s, H', h0, h1, h2, h3, h4, r, [], hr, rfl⟩
theorem CSpec.mono {P : Program} {f : FuncId} {args : List S} {Q Q' : S → List O → Prop} (h : CSpec P f args H Q) (hq : ∀ s H', Q s H' → Q' s H') : CSpec P f args H Q' := by
 intro K F μ w vs hw hA
 refine (h K F μ w vs hw hA).mono ?_
 rintro e w' ⟨v, F', μ', s, H', h0, h1, h2, h3, h4, hr⟩
 exact ⟨v, F', μ', s, H', h0, h1, h2, h3, h4, hq _ _ hr⟩
end
end Go.Am
end

section
namespace Go.Am
variable {α : Type} {a : Nat} {o : O} {P : Program} {f : FuncId} {args args' : List S} {Q k : S → List O → Prop}
def idx (rs : List Nat) (a : Nat) : Option Nat :=
 match rs with
 | [] => none
 | r :: t => match Nat.beq r a with
  | true => some 0
  | false => match idx t a with
   | some i => some (i + 1)
   | none => none
def sg (rs : List Nat) (h j : Nat) : Nat :=
 match getL rs j with
 | some r => r
 | none => j - rs.length + h
def reC (σ : Nat → Nat) : C → C
 | .ptr a o => .ptr (σ a) o
 | .ep a i j t => .ep (σ a) i j t
 | .sl a es l t x => .sl (σ a) es l t x
 | .mpr a => .mpr (σ a)
 | .fn f m g => .fn f m fun j => reC σ (g j)
 | c => c
def reL (σ : Nat → Nat) : List C → List C
 | [] => []
 | x :: r => reC σ x :: reL σ r
def reE (σ : Nat → Nat) : C ⊕ List C → C ⊕ List C
 | .inl x => .inl (reC σ x)
 | .inr xs => .inr (reL σ xs)
def reEL (σ : Nat → Nat) : List (C ⊕ List C) → List (C ⊕ List C)
 | [] => []
 | x :: r => reE σ x :: reEL σ r
def reS (σ : Nat → Nat) : S → S
 | .u => .u
 | .c x => .c (reC σ x)
 | .a xs => .a (reL σ xs)
 | .t l => .t (reEL σ l)
 | .lz b s => .lz b (reS σ s)
 | .so .. => .u
def reO (σ : Nat → Nat) : O → O
 | .vr cs => .vr (reL σ cs)
 | .arr e es m h => .arr e es m fun i j => reC σ (h i j)
 | .dead => .dead
 | .mp sh z va ks val => .mp sh z va ks val
def reHL (σ : Nat → Nat) : List O → List O
 | [] => []
 | o :: r => reO σ o :: reHL σ r
def Qdv (σ : Nat → Nat) (rs : List Nat) (Hc : List O) : Nat → List O → List O
 | _, [] => []
 | k, o :: r => (match idx rs k with
  | some i => match getL Hc i with
   | some o' => reO σ o'
   | none => o
  | none => o) :: Qdv σ rs Hc (k + 1) r
def QfP {α : Type} : Nat → List α → List α
 | 0, l => l
 | _ + 1, [] => []
 | k + 1, _ :: r => QfP k r
def plug (rs : List Nat) (H Hc : List O) : List O :=
 Qdv (sg rs H.length) rs Hc 0 H ++ reHL (sg rs H.length) (QfP rs.length Hc)
section
variable {σ : Nat → Nat}
theorem QfI {α : Type} : ∀ (k : Nat) (l : List α), QfP k l = l.drop k
 | 0, _ => rfl
 | _ + 1, [] => rfl
 | k + 1, _ :: r => by simp [QfP, QfI k r]
theorem Qox : ∀ l : List C, (reL σ l).length = l.length
 | [] => rfl
 | _ :: r => by simp [reL, Qox r]
theorem QoQ : ∀ (l : List C) (j : Nat), getL (reL σ l) j = (getL l j).map (reC σ)
 | [], _ => rfl
 | _ :: _, 0 => rfl
 | _ :: r, j + 1 => by simp only [reL, getL]; exact QoQ r j
theorem Ql7 : ∀ l : List (C ⊕ List C), (reEL σ l).length = l.length
 | [] => rfl
 | _ :: r => by simp [reEL, Ql7 r]
theorem QlX : ∀ (l : List (C ⊕ List C)) (j : Nat), getL (reEL σ l) j = (getL l j).map (reE σ)
 | [], _ => rfl
 | _ :: _, 0 => rfl
 | _ :: r, j + 1 => by simp only [reEL, getL]; exact QlX r j
theorem Qmw : ∀ l : List O, (reHL σ l).length = l.length
 | [] => rfl
 | _ :: r => by simp [reHL, Qmw r]
theorem QmW : ∀ (l : List O) (j : Nat), getL (reHL σ l) j = (getL l j).map (reO σ)
 | [], _ => rfl
 | _ :: _, 0 => rfl
 | _ :: r, j + 1 => by simp only [reHL, getL]; exact QmW r j
theorem QcP {rs : List Nat} {Hc : List O} : ∀ (k : Nat) (H : List O), (Qdv σ rs Hc k H).length = H.length
 | _, [] => rfl
 | k, _ :: r => by simp [Qdv, QcP (k + 1) r]
theorem QgP {rs : List Nat} {Hc : List O} : ∀ (k : Nat) (H : List O) (j : Nat), getL (Qdv σ rs Hc k H) j = (getL H j).map fun o => match idx rs (k + j) with
  | some i => match getL Hc i with
   | some o' => reO σ o'
   | none => o
  | none => o
 | _, [], _ => rfl
 | k, _ :: _, 0 => rfl
 | k, _ :: r, j + 1 => by
  simp only [Qdv, getL, QgP (k + 1) r j]
  rw [show k + 1 + j = k + (j + 1) by omega]
theorem Qbd {a i : Nat} : ∀ {rs : List Nat}, idx rs a = some i → getL rs i = some a
 | [], h => by simp [idx] at h
 | r :: t, h => by
  simp only [idx] at h
  split at h
  ·rename_i hb
   cases h
   rw [QxD hb]
   rfl
  ·cases hi : idx t a with
   | none => rw [hi] at h; cases h
   | some k =>
    rw [hi] at h
    cases h
    simpa [getL] using Qbd hi
theorem Qil {a : Nat} : ∀ {rs : List Nat}, idx rs a = none → ∀ i, getL rs i ≠ some a
 | [], _, i => by simp [getL]
 | r :: t, h, i => by
  simp only [idx] at h
  split at h
  ·cases h
  ·rename_i hb
   cases hi : idx t a with
   | some k => rw [hi] at h; cases h
   | none =>
    cases i with
    | zero =>
     simp only [getL]
     intro e
     cases e
     simp at hb
    | succ i => simpa [getL] using Qil hi i
end
theorem Qj9 (l r : List α) (i : Nat) (h : l.length ≤ i) : getL (l ++ r) i = getL r (i - l.length) := by
 rw [Qc, Qc, QxY h]
theorem QeR (l r : List α) (i : Nat) (h : i < l.length) : getL (l ++ r) i = getL l i := by
 rw [Qc, Qc, QxS h]
noncomputable def Keep.but (K : Keep) (H : List O) (μ : Nat → Value) (w : World) (rs : List Nat) : Keep :=
 { K with mem := open Classical in fun b => if ∃ id, idx rs id = none ∧ QS H μ id b then w.heap[b]? else K.mem b }
section
variable {K : Keep} {F F' : Mem} {H Hc Hc' : List O} {μ μ' : Nat → Value} {w w' : World} {rs : List Nat}
def QbN (rs : List Nat) (h : Nat) (μ μ' : Nat → Value) : Nat → Value := fun id =>
 if h ≤ id then μ' (id - h + rs.length) else match idx rs id with
  | some i => μ' i
  | none => μ id
def rho (rs : List Nat) : Nat → Nat := fun i => (getL rs i).getD 0
structure Fr (H Hc : List O) (rs : List Nat) : Prop where
 len : rs.length = Hc.length
 wk : HWk (rho rs) H Hc
theorem Fr.lt (h : Fr H Hc rs) {i : Nat} (hi : getL rs i = some a) : i < Hc.length ∧ a < H.length ∧ rho rs i = a ∧ idx rs a = some i := by
 have h1 := Qt hi
 have h2 : rho rs i = a := by simp [rho, hi]
 have h3 : i < Hc.length := by rw [← h.len]; exact h1
 refine ⟨h3, ?_, h2, ?_⟩
 ·obtain ⟨o, ho, _⟩ := h.wk.ob i Hc[i] (by rw [Qc]; simp [h3])
  rw [h2] at ho
  exact Qt ho
 ·cases hx : idx rs a with
  | none => exact absurd hi (Qil hx i)
  | some k =>
   have hk := Qbd hx
   have k1 := Qt hk
   have := h.wk.inj i k h3 (by rw [← h.len]; exact k1) (by rw [h2]; simp [rho, hk])
   rw [this]
theorem Fr.at (h : Fr H Hc rs) (hl : Hc.length ≤ Hc'.length) {j : Nat} (hj : getL Hc' j = some o) :
  getL (plug rs H Hc') (sg rs H.length j) = some (reO (sg rs H.length) o) ∧ QbN rs H.length μ μ' (sg rs H.length j) = μ' j := by
 cases hr : getL rs j with
 | some a =>
  obtain ⟨h1, h2, h3, h4⟩ := h.lt hr
  have hs : sg rs H.length j = a := by simp [sg, hr]
  rw [hs]
  constructor
  ·unfold plug
   rw [QeR _ _ _ (by rw [QcP]; exact h2), QgP]
   have : ∃ p, getL H a = some p := ⟨H[a], by rw [Qc]; simp [h2]⟩
   obtain ⟨p, hp⟩ := this
   rw [hp]
   simp only [Qyd, QxX, h4, hj]
  ·simp only [QbN]
   rw [Qxu om, h4]
 | none =>
  have hge : rs.length ≤ j := by
   rw [Qc] at hr
   exact List.getElem?_eq_none_iff.1 hr
  have hs : sg rs H.length j = j - rs.length + H.length := by simp [sg, hr]
  rw [hs]
  constructor
  ·unfold plug
   rw [Qj9 _ _ _ (by rw [QcP]; omega), QcP, QmW, QfI]
   have : getL (Hc'.drop rs.length) (j - rs.length + H.length - H.length) = some o := by
    rw [Qc, QyE]
    rw [Qc] at hj
    rw [← hj]
    congr 1
    omega
   rw [this]
   rfl
  ·simp only [QbN]
   rw [Qxt om]
   congr 1
   omega
theorem Fr.repC (h : Fr H Hc rs) (hl : Hc.length ≤ Hc'.length) : ∀ (c : C) (v : Value), RepC F Hc' μ' c v → RepC F (plug rs H Hc') (QbN rs H.length μ μ') (reC (sg rs H.length) c) v := by
 intro c
 induction c with
 | ptr a off =>
  intro v hv
  obtain ⟨⟨cs, h1⟩, b, h2, h3⟩ := hv
  obtain ⟨k1, k2⟩ := h.at (μ := μ) (μ' := μ') hl h1
  exact ⟨⟨_, k1⟩, b, by rw [k2]; exact h2, h3⟩
 | ep a i j t =>
  intro v hv
  obtain ⟨h0, e, es, n, g, h1, h2, h3⟩ := hv
  obtain ⟨k1, k2⟩ := h.at (μ := μ) (μ' := μ') hl h1
  exact ⟨h0, e, es, n, _, k1, h2, fun q => by rw [k2]; exact h3 q⟩
 | sl a es l t x =>
  intro v hv
  obtain ⟨h0, e, n, g, h1, h2, h3, h4⟩ := hv
  obtain ⟨k1, k2⟩ := h.at (μ := μ) (μ' := μ') hl h1
  exact ⟨h0, e, n, _, k1, h2, h3, fun q => by rw [k2]; exact h4 q⟩
 | fn f m g ih =>
  intro v hv
  obtain ⟨cs, h1, h2, h3⟩ := hv
  refine ⟨cs, h1, h2, fun j hj => ?_⟩
  obtain ⟨x, x1, x2⟩ := h3 j hj
  exact ⟨x, x1, ih j x x2⟩
 | mpr a =>
  intro v hv
  obtain ⟨⟨sh, z, va, ks, val, h1⟩, b, h2, h3⟩ := hv
  obtain ⟨k1, k2⟩ := h.at (μ := μ) (μ' := μ') hl h1
  exact ⟨⟨_, _, _, _, _, k1⟩, b, by rw [k2]; exact h2, h3⟩
 | _ => intro v hv; exact hv
theorem Fr.repL (h : Fr H Hc rs) (hl : Hc.length ≤ Hc'.length) {xs : List C} {cs : Array Value} (hx : RepL F Hc' μ' xs cs) : RepL F (plug rs H Hc') (QbN rs H.length μ μ') (reL (sg rs H.length) xs) cs := by
 refine ⟨by rw [Qox]; exact hx.1, fun j x hj => ?_⟩
 rw [QoQ] at hj
 cases hy : getL xs j with
 | none => rw [hy] at hj; cases hj
 | some y =>
  rw [hy] at hj
  cases hj
  obtain ⟨v, v1, v2⟩ := hx.2 j y hy
  exact ⟨v, v1, h.repC hl y v v2⟩
theorem Fr.repS (h : Fr H Hc rs) (hl : Hc.length ≤ Hc'.length) : ∀ {s : S} {v : Value}, RepS F Hc' μ' s v → RepS F (plug rs H Hc') (QbN rs H.length μ μ') (reS (sg rs H.length) s) v
 | .u, _, _ => trivial
 | .c x, v, hv => h.repC hl x v hv
 | .a _, _, ⟨cs, h1, h2⟩ => ⟨cs, h1, h.repL hl h2⟩
 | .t l, _, ⟨vs, h1, h2, h3⟩ => by
  refine ⟨vs, h1, by rw [Ql7]; exact h2, fun j x hx => ?_⟩
  rw [QlX] at hx
  cases hy : getL l j with
  | none => rw [hy] at hx; cases hx
  | some y =>
   rw [hy] at hx
   cases hx
   obtain ⟨u, u1, u2⟩ := h3 j y hy
   refine ⟨u, u1, ?_⟩
   cases y with
   | inl c => exact h.repC hl c u u2
   | inr cs => obtain ⟨k, k1, k2⟩ := u2; exact ⟨k, k1, h.repL hl k2⟩
 | .lz _ s, _, hv => ⟨fun hg => h.repS hl (s := s) (hv.1 hg), hv.2⟩
 | .so .., _, _ => trivial
theorem Ext.len (h : Ext Hc μ Hc' μ') (hd : ∀ i, getL Hc i ≠ some .dead) : Hc.length ≤ Hc'.length := by
 by_cases hz : Hc.length = 0
 ·omega
 ·have hlt : Hc.length - 1 < Hc.length := by omega
  have hg : getL Hc (Hc.length - 1) = some Hc[Hc.length - 1] := by rw [Qc]; simp
  cases ho : Hc[Hc.length - 1] with
  | vr cs =>
   rw [ho] at hg
   obtain ⟨⟨cs', h1⟩, _⟩ := h.1 _ cs hg
   have := Qt h1
   omega
  | arr e es n g =>
   rw [ho] at hg
   obtain ⟨n', g', h1, _⟩ := h.2.1 _ e es n g hg
   have := Qt h1
   omega
  | mp sh z va ks val =>
   rw [ho] at hg
   obtain ⟨⟨ks', val', h1⟩, _⟩ := h.2.2 _ sh z va ks val hg
   have := Qt h1
   omega
  | dead => rw [ho] at hg; exact absurd hg (hd _)
theorem Fr.old (h : Fr H Hc rs) (ha : getL H a = some o) (hx : idx rs a = none) :
  getL (plug rs H Hc') a = some o ∧ QbN rs H.length μ μ' a = μ a := by
 have := Qt ha
 constructor
 ·unfold plug
  rw [QeR _ _ _ (by rw [QcP]; exact this), QgP, ha]
  simp only [Qyd, QxX, hx]
 ·simp only [QbN]
  rw [Qxu om, hx]
theorem Fr.ext (h : Fr H Hc rs) (hl : Hc.length ≤ Hc'.length) (hE : Ext Hc (fun i => μ (rho rs i)) Hc' μ') : Ext H μ (plug rs H Hc') (QbN rs H.length μ μ') := by
 refine ⟨fun a cs ha => ?_, fun a e es n g ha => ?_, fun a sh z va ks val ha => ?_⟩
 ·cases hx : idx rs a with
  | none =>
   obtain ⟨h1, h2⟩ := h.old (Hc' := Hc') (μ := μ) (μ' := μ') ha hx
   exact ⟨⟨cs, h1⟩, h2⟩
  | some i =>
   obtain ⟨k1, k2, k3, _⟩ := h.lt (Qbd hx)
   obtain ⟨cs', hc⟩ := h.wk.kind_vr (b := i) k1 (by rw [k3]; exact ha)
   obtain ⟨⟨cs'', h1⟩, h2⟩ := hE.1 i cs' hc
   obtain ⟨q1, q2⟩ := h.at (μ := μ) (μ' := μ') hl h1
   have hs : sg rs H.length i = a := by simp [sg, Qbd hx]
   rw [hs] at q1 q2
   exact ⟨⟨_, q1⟩, by rw [q2, h2]; show μ (rho rs i) = μ a; rw [k3]⟩
 ·cases hx : idx rs a with
  | none =>
   obtain ⟨h1, h2⟩ := h.old (Hc' := Hc') (μ := μ) (μ' := μ') ha hx
   exact ⟨n, g, h1, QxB _, fun _ => h2⟩
  | some i =>
   obtain ⟨k1, k2, k3, _⟩ := h.lt (Qbd hx)
   obtain ⟨g', hc⟩ := h.wk.kind_arr (b := i) k1 (by rw [k3]; exact ha)
   obtain ⟨n', g'', h1, h2, h3⟩ := hE.2.1 i e es n g' hc
   obtain ⟨q1, q2⟩ := h.at (μ := μ) (μ' := μ') hl h1
   have hs : sg rs H.length i = a := by simp [sg, Qbd hx]
   rw [hs] at q1 q2
   exact ⟨n', _, q1, h2, fun q => by rw [q2, h3 q]; show μ (rho rs i) = μ a; rw [k3]⟩
 ·cases hx : idx rs a with
  | none =>
   obtain ⟨h1, h2⟩ := h.old (Hc' := Hc') (μ := μ) (μ' := μ') ha hx
   exact ⟨⟨ks, val, h1⟩, h2⟩
  | some i =>
   obtain ⟨k1, k2, k3, _⟩ := h.lt (Qbd hx)
   obtain ⟨ks', val', hc⟩ := h.wk.kind_mp (b := i) k1 (by rw [k3]; exact ha)
   obtain ⟨⟨ks'', val'', h1⟩, h2⟩ := hE.2.2 i sh z va ks' val' hc
   obtain ⟨q1, q2⟩ := h.at (μ := μ) (μ' := μ') hl h1
   have hs : sg rs H.length i = a := by simp [sg, Qbd hx]
   rw [hs] at q1 q2
   exact ⟨⟨_, _, q1⟩, by rw [q2, h2]; show μ (rho rs i) = μ a; rw [k3]⟩
theorem Fr.aside (h : Fr H Hc rs) (hw : HSat K F H μ w) : HSat (K.but H μ w rs) F Hc (fun i => μ (rho rs i)) w := by
 have hk := hw.wk h.wk
 refine ⟨hk.os, hk.tape, hk.output, hk.fr, fun b o hb => ?_, hk.ob, fun i b hb => ⟨(hk.sp i b hb).1, ?_⟩, hk.ij, fun b o hb => ?_⟩
 ·simp only [Keep.but] at hb
  split at hb
  ·exact hb
  ·exact hk.kp b o hb
 ·simp only [Keep.but]
  rw [Qxu]
  ·exact (hk.sp i b hb).2
  ·rintro ⟨id, h1, h2⟩
   obtain ⟨⟨o, o1, o2⟩, hbb⟩ := hb
   have hi := Qt o1
   obtain ⟨p, p1, p2⟩ := h.wk.ob i o o1
   have hown : QS H μ (rho rs i) b := ⟨⟨p, p1, fun e => by subst e; cases o with
    | dead => exact o2 rfl
    | vr => exact p2.elim
    | arr => exact p2.elim
    | mp => exact p2.elim⟩, hbb⟩
   have := hw.ij _ _ b h2 hown
   have hr : getL rs i = some (rho rs i) := by
    have : i < rs.length := by rw [h.len]; exact hi
    simp only [rho, Qc]
    simp [this]
   rw [← this] at hr
   exact Qil h1 i hr
 ·simp only [Keep.but]
  rw [Qxu]
  ·exact hk.dj b o hb
  ·rintro ⟨id, _, h2⟩
   rw [(hw.sp id b h2).1] at hb
   cases hb
theorem Fr.back (h : Fr H Hc rs) (hw : HSat K F H μ w) (hl : Hc.length ≤ Hc'.length) (hE : Ext Hc (fun i => μ (rho rs i)) Hc' μ') (hF : F.le F') (k : HSat (K.but H μ w rs) F' Hc' μ' w') : HSat K F' (plug rs H Hc') (QbN rs H.length μ μ') w' := by
 have hext := h.ext hl hE
 have ownK : ∀ id b, idx rs id = none → QS H μ id b → (K.but H μ w rs).mem b = w.heap[b]? := by
  intro id b h1 h2
  simp only [Keep.but]
  rw [Qxt ⟨id, h1, h2⟩]
 have split : ∀ a o, getL (plug rs H Hc') a = some o → (idx rs a = none ∧ getL H a = some o ∧ QbN rs H.length μ μ' a = μ a) ∨ ∃ j o', getL Hc' j = some o' ∧ a = sg rs H.length j ∧ o = reO (sg rs H.length) o' ∧ QbN rs H.length μ μ' a = μ' j := by
  intro a o ha
  by_cases hlt : a < H.length
  ·have hg : getL H a = some H[a] := by rw [Qc]; simp [hlt]
   cases hx : idx rs a with
   | none =>
    obtain ⟨h1, h2⟩ := h.old (Hc' := Hc') (μ := μ) (μ' := μ') hg hx
    rw [h1] at ha
    cases ha
    exact .inl ⟨rfl, hg, h2⟩
   | some i =>
    obtain ⟨k1, k2, k3, _⟩ := h.lt (Qbd hx)
    have hi : getL Hc' i = some (Hc'[i]'om) := by rw [Qc]; simp
    obtain ⟨q1, q2⟩ := h.at (μ := μ) (μ' := μ') hl hi
    have hs : sg rs H.length i = a := by simp [sg, Qbd hx]
    rw [hs] at q1 q2
    rw [q1] at ha
    cases ha
    exact .inr ⟨i, _, hi, hs.symm, rfl, q2⟩
  ·have hge : H.length ≤ a := by omega
   have hlen := Qt ha
   have hsz : (plug rs H Hc').length = H.length + (Hc'.length - rs.length) := by
    unfold plug
    rw [QxL, QcP, Qmw, QfI, Qyn]
   rw [hsz] at hlen
   have hj : a - H.length + rs.length < Hc'.length := by omega
   have hi : getL Hc' (a - H.length + rs.length) = some Hc'[a - H.length + rs.length] := by rw [Qc]; simp
   obtain ⟨q1, q2⟩ := h.at (μ := μ) (μ' := μ') hl hi
   have hs : sg rs H.length (a - H.length + rs.length) = a := by
    have : getL rs (a - H.length + rs.length) = none := by rw [Qc]; simp
    simp only [sg, this]
    omega
   rw [hs] at q1 q2
   rw [q1] at ha
   cases ha
   exact .inr ⟨_, _, hi, hs.symm, rfl, q2⟩
 have own : ∀ a b, QS (plug rs H Hc') (QbN rs H.length μ μ') a b → (idx rs a = none ∧ QS H μ a b) ∨ ∃ j, a = sg rs H.length j ∧ QS Hc' μ' j b := by
  intro a b ⟨⟨o, o1, o2⟩, hb⟩
  rcases split a o o1 with ⟨h1, h2, h3⟩ | ⟨j, o', h1, h2, h3, h4⟩
  ·exact .inl ⟨h1, ⟨o, h2, o2⟩, by rw [← h3]; exact hb⟩
  ·refine .inr ⟨j, h2, ⟨o', h1, fun e => o2 ?_⟩, by rw [← h4]; exact hb⟩
   subst e
   exact h3
 have apart : ∀ a j b, idx rs a = none → QS H μ a b → QS Hc' μ' j b → False := by
  intro a j b h1 h2 h3
  have := (k.sp j b h3).2
  rw [ownK a b h1 h2] at this
  obtain ⟨o, ho⟩ := QfM hw h2
  rw [ho] at this
  cases this
 refine ⟨k.os, k.tape, k.output, k.fr, fun b o hb => k.kp b o ?_, fun a o ho => ?_, fun a b ho => ?_, fun a a' b ho ho' => ?_, fun b o hb => ?_⟩
 ·simp only [Keep.but]
  rw [Qxu]
  ·exact hb
  ·rintro ⟨id, _, hid⟩
   rw [(hw.sp id b hid).2] at hb
   cases hb
 ·rcases split a o ho with ⟨h1, h2, h3⟩ | ⟨j, o', h1, h2, h3, h4⟩
  ·have := hw.ob a o h2
   cases o with
   | vr cs =>
    obtain ⟨b, c, T, q1, q2, q3⟩ := this
    have hb : QS H μ a b := ⟨⟨_, h2, by simp⟩, by rw [q1]; rfl⟩
    exact ⟨b, c, T, by rw [h3]; exact q1, k.kp b _ (by rw [ownK a b h1 hb]; exact q2), q3.mono hF hext⟩
   | arr e es n g =>
    obtain ⟨xs, q1, q2, q3, q4⟩ := this
    refine ⟨xs, ?_, q2, fun i hi j hj => ?_, by rw [h3]; exact q4.kept q1 fun b o hb ho' => k.kp b _ (by rw [ownK a b h1 ⟨⟨_, h2, by simp⟩, hb⟩]; exact ho')⟩
    ·rw [h3]
     refine ⟨q1.1, ?_⟩
     rcases q1.2 with q | ⟨g', cap, cur, q, r2, r3, rest⟩
     ·exact .inl q
     ·have hb : QS H μ a g' := ⟨⟨_, h2, by simp⟩, by rw [q]; rfl⟩
      exact .inr ⟨g', cap, cur, q, r2, k.kp g' _ (by rw [ownK a g' h1 hb]; exact r3), rest⟩
    ·obtain ⟨v, v1, v2⟩ := q3 i hi j hj
     exact ⟨v, v1, RepC.mono hF hext _ _ v2⟩
   | dead => trivial
   | mp sh z va ks val =>
    obtain ⟨b, es, ck, q1, q2, q3⟩ := this
    have hb : QS H μ a b := ⟨⟨_, h2, by simp⟩, by rw [q1]; rfl⟩
    exact ⟨b, es, ck, by rw [h3]; exact q1, k.kp b _ (by rw [ownK a b h1 hb]; exact q2), q3.1.mono hF, q3.2⟩
  ·have := k.ob j o' h1
   subst h3
   cases o' with
   | vr cs =>
    obtain ⟨b, c, T, q1, q2, q3⟩ := this
    exact ⟨b, c, T, by rw [h4]; exact q1, q2, h.repL hl q3⟩
   | arr e es n g =>
    obtain ⟨xs, q1, q2, q3, q4⟩ := this
    refine ⟨xs, by rw [h4]; exact q1, q2, fun i hi j hj => ?_, by rw [h4]; exact q4⟩
    obtain ⟨v, v1, v2⟩ := q3 i hi j hj
    exact ⟨v, v1, h.repC hl _ v v2⟩
   | dead => trivial
   | mp sh z va ks val =>
    obtain ⟨b, es, ck, q1, q2, q3⟩ := this
    exact ⟨b, es, ck, by rw [h4]; exact q1, q2, q3⟩
 ·rcases own a b ho with ⟨h1, h2⟩ | ⟨j, h1, h2⟩
  ·refine ⟨?_, (hw.sp a b h2).2⟩
   cases hf : F' b with
   | none => rfl
   | some o =>
    have := k.dj b o hf
    rw [ownK a b h1 h2] at this
    obtain ⟨o', ho'⟩ := QfM hw h2
    rw [ho'] at this
    cases this
  ·refine ⟨(k.sp j b h2).1, ?_⟩
   have := (k.sp j b h2).2
   simp only [Keep.but] at this
   split at this
   ·rename_i hid
    obtain ⟨id, _, hid⟩ := hid
    exact (hw.sp id b hid).2
   ·exact this
 ·rcases own a b ho with ⟨h1, h2⟩ | ⟨j, h1, h2⟩
  ·rcases own a' b ho' with ⟨h1', h2'⟩ | ⟨j', h1', h2'⟩
   ·exact hw.ij a a' b h2 h2'
   ·exact (apart a j' b h1 h2 h2').elim
  ·rcases own a' b ho' with ⟨h1', h2'⟩ | ⟨j', h1', h2'⟩
   ·exact (apart a' j b h1' h2' h2).elim
   ·rw [h1, h1', k.ij j j' b h2 h2']
 ·have := k.dj b o hb
  simp only [Keep.but] at this
  split at this
  ·rename_i hid
   obtain ⟨id, _, hid⟩ := hid
   exact (hw.sp id b hid).2
  ·exact this
def wkA (ρ : Nat → Nat) (n : Nat) : List S → List S → Prop
 | [], [] => True
 | s :: r, s' :: r' => wkS ρ n s s' ∧ wkA ρ n r r'
 | _, _ => False
theorem Qm5 {ρ : Nat → Nat} {H H' : List O} (h : HWk ρ H H') {F : Mem} {μ : Nat → Value} : ∀ {l l' : List S}, wkA ρ H'.length l l' → ∀ {vs : Array Value} {o : Nat}, (∀ (j : Nat) s, getL l j = some s → ∃ v, vs[o + j]? = some v ∧ RepS F H μ s v) →
  l.length = l'.length ∧ ∀ (j : Nat) s, getL l' j = some s → ∃ v, vs[o + j]? = some v ∧ RepS F H' (fun i => μ (ρ i)) s v
 | [], [], _, _, _, _ => ⟨rfl, fun j s h => by simp [getL] at h⟩
 | s :: r, s' :: r', ⟨h2, h3⟩, vs, o, hh => by
  obtain ⟨k1, k2⟩ := Qm5 h (o := o + 1) h3 (fun j t ht => by
   obtain ⟨v, v1, v2⟩ := hh (j + 1) t (by simpa [getL] using ht)
   exact ⟨v, by rw [← v1]; congr 1; omega, v2⟩)
  refine ⟨by simp [k1], fun j t ht => ?_⟩
  cases j with
  | zero =>
   simp only [getL, Qxv] at ht
   subst ht
   obtain ⟨v, v1, v2⟩ := hh 0 s rfl
   exact ⟨v, v1, Qfx h s s' h2 v v2⟩
  | succ j =>
   simp only [getL] at ht
   obtain ⟨v, v1, v2⟩ := k2 j t ht
   exact ⟨v, by rw [← v1]; congr 1; omega, v2⟩
 | [], _ :: _, h, _, _, _ => h.elim
 | _ :: _, [], h, _, _, _ => h.elim
theorem CSpec.frame {H Hc : List O} (hc : CSpec P f args' Hc Q) (rs : List Nat) (h : Fr H Hc rs) (hd : ∀ i, getL Hc i ≠ some .dead) (ha : wkA (rho rs) Hc.length args args') 
  (hk : ∀ s Hc', Q s Hc' → k (reS (sg rs H.length) s) (plug rs H Hc')) : CSpec P f args H k := by
 intro K F μ w vs hw hA
 obtain ⟨l1, l2⟩ := Qm5 h.wk (o := 0) ha (fun j s hs => by simpa using hA.2 j s hs)
 refine (hc (K.but H μ w rs) F (fun i => μ (rho rs i)) w vs (h.aside hw) ⟨hA.1.trans l1, fun j s hs => by simpa using l2 j s hs⟩).mono ?_
 rintro e w' ⟨v, F', μ', s, Hc', rfl, h1, h2, h3, h4, h5⟩
 have hl := h3.len hd
 exact ⟨v, F', QbN rs H.length μ μ', _, _, rfl, h1, h.back hw hl h3 h1 h2, h.ext hl h3, h.repS hl h4, hk s Hc' h5⟩
theorem Fr.nil : Fr H [] [] := ⟨rfl, ⟨fun i o' h => by simp [getL] at h, fun i j h => by simp at h⟩⟩
theorem CSpec.opens {H : List O} (hc : CSpec P f args' [] Q) (ha : leA args args') 
  (hk : ∀ s Hc', Q s Hc' → k (reS (sg [] H.length) s) (plug [] H Hc')) : CSpec P f args H k := by
 intro K F μ w vs hw hA
 obtain ⟨l1, l2⟩ := QmM (o := 0) ha (fun j s hs => by simpa using hA.2 j s hs)
 have k0 := (Fr.nil (H := H)).aside hw
 have k1 : HSat (K.but H μ w []) F [] μ w := ⟨k0.os, k0.tape, k0.output, k0.fr, k0.kp, fun id o ho => by simp [getL] at ho, fun id b ⟨⟨o, ho, _⟩, _⟩ => by simp [getL] at ho, fun id id' b ⟨⟨o, ho, _⟩, _⟩ => by simp [getL] at ho, k0.dj⟩
 refine (hc (K.but H μ w []) F μ w vs k1 ⟨hA.1.trans l1, fun j s hs => by simpa using l2 j s hs⟩).mono ?_
 rintro e w' ⟨v, F', μ', s, Hc', rfl, h1, h2, h3, h4, h5⟩
 have hl : ([] : List O).length ≤ Hc'.length := Qxx _
 have h3' : Ext [] (fun i => μ (rho [] i)) Hc' μ' := ⟨fun _ _ hc => by simp [getL] at hc, fun _ _ _ _ _ hc => by simp [getL] at hc, fun _ _ _ _ _ _ hc => by simp [getL] at hc⟩
 exact ⟨v, F', QbN [] H.length μ μ', _, _, rfl, h1, Fr.nil.back hw hl h3' h1 h2, Fr.nil.ext hl h3', Fr.nil.repS hl h4, hk s Hc' h5⟩
end
end Go.Am
end

section
namespace Go.Am
variable {F : Mem} {H H' : List O} {μ : Nat → Value} {es n : Nat} {g : Nat → Nat → C} {t x : Bool} {P : Program} {f : FuncId} {args args' : List S} {K : Keep} {w : World} {k : Ts → List O → Prop} {ρ : Nat → Nat} {X : Cx} {dst : Option Tmp} {ts : Ts}
def C.flat : C → Bool
 | .junk => true
 | .bool _ => true
 | .int _ _ => true
 | .str _ => true
 | .nilp => true
 | .nilfn => true
 | .nils => true
 | .nilm => true
 | .isl es _ _ _ => Nat.beq es 0
 | _ => false
def E.flat : C ⊕ List C → Bool
 | .inl y => y.flat
 | .inr ys => ys.all C.flat
def S.flat : S → Bool
 | .u => true
 | .c x => x.flat
 | .a xs => xs.all C.flat
 | .t l => l.all E.flat
 | .lz _ s => s.flat
 | .so .. => false
theorem Qpi {F' : Mem} {μ' : Nat → Value} {c : C} (hc : c.flat = true) {v : Value} (h : RepC F H μ c v) : RepC F' H' μ' c v := by
 cases c with
 | isl es n g t =>
  have : es = 0 := QxD hc
  subst this
  obtain ⟨a, cap, h1, h2, h3, h4, h5, h6⟩ := h
  refine ⟨a, cap, h1, h2, h3, h4, h5, ?_⟩
  rcases h6 with h6 | ⟨b, off, h7, _⟩
  ·exact .inl h6
  ·exact .inr ⟨b, off, h7, fun i _ j hj => absurd hj (QxN j)⟩
 | _ => first | exact h | exact absurd hc (by simp [C.flat])
theorem Qtz {F' : Mem} {μ' : Nat → Value} {xs : List C} (hc : xs.all C.flat = true) {cs : Array Value} (h : RepL F H μ xs cs) : RepL F' H' μ' xs cs :=
 ⟨h.1, fun j x hx => let ⟨v, v1, v2⟩ := h.2 j x hx; ⟨v, v1, Qpi (Qde hc hx) v2⟩⟩
theorem Qpz {F F' : Mem} {H H' : List O} {μ μ' : Nat → Value} : ∀ {s : S}, s.flat = true → ∀ {v : Value}, RepS F H μ s v → RepS F' H' μ' s v
 | .u, _, _, _ => trivial
 | .c _, hc, _, h => Qpi hc h
 | .a _, hc, _, ⟨cs, h1, h2⟩ => ⟨cs, h1, Qtz hc h2⟩
 | .t l, hc, _, ⟨vs, h1, h2, h3⟩ => ⟨vs, h1, h2, fun j x hx => by
   obtain ⟨u, u1, u2⟩ := h3 j x hx
   refine ⟨u, u1, ?_⟩
   have := Qde (p := E.flat) hc hx
   cases x with
   | inl c => exact Qpi this u2
   | inr cs => obtain ⟨k, k1, k2⟩ := u2; exact ⟨k, k1, Qtz this k2⟩⟩
 | .lz _ s, hc, _, h => ⟨fun hg => Qpz (s := s) hc (h.1 hg), h.2⟩
 | .so .., hc, _, _ => by cases hc
theorem QuN : ∀ F v, RepF F (.isl es n g t) v → RepF F (.isl 0 n (fun _ _ => .junk) false) v := by
 intro F v ⟨a, cap, h1, h2, h3, h4, h5, h6⟩
 refine ⟨a, cap, h1, h2, h3, fun e => (by cases e), h5, ?_⟩
 rcases h6 with h6 | ⟨b, off, h7, _⟩
 ·exact .inl h6
 ·exact .inr ⟨b, off, h7, fun i _ j hj => absurd hj (QxN j)⟩
theorem PSpec.len (h : PSpec P f args (.c (.isl es n g t))) : PSpec P f args (.c (.isl 0 n (fun _ _ => .junk) false)) :=
 h.le rfl ⟨rfl, QuN⟩
def QaV (w : World) : Mem := fun b => w.heap[b]?
def Bw (H : List O) (c c' : C) : Prop := ∀ K F μ w v, HSat K F H μ w → RepC F H μ c v → RepF (QaV w) c' v
theorem Bw.imm {H : List O} {c c' : C} (h : c.imm = true) (h' : c'.imm = true) (hw : wkC idN 0 c c') : Bw H c c' := by
 intro K F μ w v hs hv
 have hle : F.le (QaV w) := fun b o hb => hs.fr b o hb
 have h1 : RepC F [] μ c v := immC h hv
 have h2 := QfA HWk.nil c c' hw v h1
 exact (Qcn h' h2).mono hle
theorem Bw.same {c : C} (h : c.imm = true) : Bw H c c := Bw.imm h h (wkC.imm h)
theorem Bw.sl {H : List O} {id es l t e n : Nat} {x x' : Bool} {g g' : Nat → Nat → C} (hid : getL H id = some (.arr e es n g)) (ht : t = n) (hg : ∀ i, i < l → ∀ j, j < es → Bw H (g i j) (g' i j)) (hx : x' = true → x = true ∧ l = n) :
  Bw H (.sl id es l t x) (.isl es l g' x') := by
 subst ht
 intro K F μ w v hw hv
 obtain ⟨h0, e', n', g'', h1, h2, h3, h4⟩ := hv
 rw [hid] at h1
 cases h1
 obtain ⟨a', cap, q1, q2, q3⟩ := h4 rfl
 obtain ⟨xs, ⟨r1, r2⟩, r3, r4, r5⟩ := hw.ob id _ hid
 rcases r2 with ⟨s1, s2⟩ | ⟨b, cap', cur, s1, _, s3, s4, s5, s6, s7⟩
 ·rw [q1] at s1
  cases s1
  exact ⟨none, 0, q2, om, om, fun _ => by omega, fun _ => rfl, .inl om⟩
 ·rw [q1] at s1
  cases s1
  refine ⟨_, _, q2, om, om, fun q => ?_, fun q => (by cases q), .inr ⟨b, 0, rfl, fun i hi j hj => ?_⟩⟩
  ·obtain ⟨hx1, hx2⟩ := hx q
   rw [q3 hx1, hx2]
  ·obtain ⟨y, y1, y2⟩ := r4 i om j hj
   have hlt : i * es + j < t * es := Nat.lt_of_lt_of_le (show i * es + j < (i + 1) * es by rw [Qyh]; omega) (QxF es om)
   refine ⟨y, ?_, hg i hi j hj K F μ w y hw y2⟩
   simp only [Mem.cell, QaV, s3]
   simp only [QxX]
   rw [← s7] at y1
   rw [Qyb (by simpa using hlt)] at y1
   simpa using y1
theorem Bw.ptr {H : List O} {id off n : Nat} {cs : List C} {g : Nat → C} (hid : getL H id = some (.vr cs)) (hg : ∀ j, j < n → ∃ c, getL cs (off + j) = some c ∧ Bw H c (g j)) : Bw H (.ptr id off) (.ip n g) := by
 intro K F μ w v hw hv
 obtain ⟨_, b, h2, h3⟩ := hv
 obtain ⟨b', c, T, q1, q2, q3⟩ := hw.ob id _ hid
 rw [h2] at q1
 cases q1
 refine ⟨b, off, h3, fun j hj => ?_⟩
 obtain ⟨x, x1, x2⟩ := hg j hj
 obtain ⟨u, u1, u2⟩ := q3.2 _ x x1
 refine ⟨u, ?_, x2 K F μ w u hw u2⟩
 simp only [Mem.cell, QaV, q2]
 exact u1
def BwL (H : List O) : List C → List C → Prop
 | [], [] => True
 | c :: r, c' :: r' => Bw H c c' ∧ BwL H r r'
 | _, _ => False
theorem Qo5 {H : List O} : ∀ {xs ys : List C}, BwL H xs ys → xs.length = ys.length ∧ ∀ (j : Nat) x y, getL xs j = some x → getL ys j = some y → Bw H x y
 | [], [], _ => ⟨rfl, fun j x y h => by simp [getL] at h⟩
 | x :: r, y :: r', h => by
  obtain ⟨h1, h2⟩ := Qo5 h.2
  refine ⟨by simp [h1], fun j a b ha hb => ?_⟩
  cases j with
  | zero => simp only [getL, Qxv] at ha hb; subst ha; subst hb; exact h.1
  | succ j => simp only [getL] at ha hb; exact h2 j a b ha hb
 | [], _ :: _, h => h.elim
 | _ :: _, [], h => h.elim
def BwS (H : List O) : S → S → Prop
 | .c x, .c y => Bw H x y
 | .a xs, .a ys => BwL H xs ys
 | _, _ => False
def BwA (H : List O) : List S → List S → Prop
 | [], [] => True
 | s :: r, s' :: r' => BwS H s s' ∧ BwA H r r'
 | _, _ => False
theorem QrF (hw : HSat K F H μ w) : ∀ {s s' : S}, BwS H s s' → ∀ {v : Value}, RepS F H μ s v → RepS (QaV w) [] μ s' v
 | .c x, .c y, h, v, hv => RepF.toC _ _ y v (h K F μ w v hw hv)
 | .a xs, .a ys, h, _, ⟨cs, h1, h2⟩ => by
  obtain ⟨k1, k2⟩ := Qo5 h
  refine ⟨cs, h1, h2.1.trans k1, fun j y hy => ?_⟩
  have hj := Qt hy
  have hx : getL xs j = some (xs[j]'om) := by rw [Qc]; simp
  obtain ⟨v, v1, v2⟩ := h2.2 j _ hx
  exact ⟨v, v1, RepF.toC _ _ y v (k2 j _ y hx hy K F μ w v hw v2)⟩
 | .u, _, h, _, _ => h.elim
 | .t _, _, h, _, _ => h.elim
 | .lz _ _, _, h, _, _ => h.elim
 | .so .., _, h, _, _ => h.elim
 | .c _, .so .., h, _, _ => h.elim
 | .a _, .so .., h, _, _ => h.elim
 | .c _, .u, h, _, _ => h.elim
 | .c _, .a _, h, _, _ => h.elim
 | .c _, .t _, h, _, _ => h.elim
 | .c _, .lz _ _, h, _, _ => h.elim
 | .a _, .u, h, _, _ => h.elim
 | .a _, .c _, h, _, _ => h.elim
 | .a _, .t _, h, _, _ => h.elim
 | .a _, .lz _ _, h, _, _ => h.elim
theorem Qq2 {H : List O} {K : Keep} {F : Mem} {μ : Nat → Value} {w : World} (hw : HSat K F H μ w) : ∀ {l l' : List S}, BwA H l l' → ∀ {vs : Array Value} {o : Nat}, (∀ (j : Nat) s, getL l j = some s → ∃ v, vs[o + j]? = some v ∧ RepS F H μ s v) →
  l.length = l'.length ∧ ∀ (j : Nat) s, getL l' j = some s → ∃ v, vs[o + j]? = some v ∧ RepS (QaV w) [] μ s v
 | [], [], _, _, _, _ => ⟨rfl, fun j s h => by simp [getL] at h⟩
 | s :: r, s' :: r', ⟨h2, h3⟩, vs, o, hh => by
  obtain ⟨k1, k2⟩ := Qq2 hw (o := o + 1) h3 (fun j t ht => by
   obtain ⟨v, v1, v2⟩ := hh (j + 1) t (by simpa [getL] using ht)
   exact ⟨v, by rw [← v1]; congr 1; omega, v2⟩)
  refine ⟨by simp [k1], fun j t ht => ?_⟩
  cases j with
  | zero =>
   simp only [getL, Qxv] at ht
   subst ht
   obtain ⟨v, v1, v2⟩ := hh 0 s rfl
   exact ⟨v, v1, QrF hw h2 v2⟩
  | succ j =>
   simp only [getL] at ht
   obtain ⟨v, v1, v2⟩ := k2 j t ht
   exact ⟨v, by rw [← v1]; congr 1; omega, v2⟩
 | [], _ :: _, h, _, _, _ => h.elim
 | _ :: _, [], h, _, _, _ => h.elim
theorem HSat.later {w' : World} (hw : HSat K F H μ w) (h1 : w'.os = w.os) (h2 : w'.tape = w.tape) (h3 : w'.output = w.output) (h4 : ∀ (b : Nat) (o : Obj), w.heap[b]? = some o → w'.heap[b]? = some o) : HSat K F H μ w' := by
 refine ⟨h1.trans hw.os, h2.trans hw.tape, h3.trans hw.output, fun b o hb => h4 b o (hw.fr b o hb), fun b o hb => h4 b o (hw.kp b o hb), fun id o ho => ?_, hw.sp, hw.ij, hw.dj⟩
 have := hw.ob id o ho
 cases o with
 | vr cs =>
  obtain ⟨b, c, T, q1, q2, q3⟩ := this
  exact ⟨b, c, T, q1, h4 _ _ q2, q3⟩
 | arr e es n g =>
  obtain ⟨xs, ⟨q1, q2⟩, q3, q4, q5⟩ := this
  refine ⟨xs, ⟨q1, ?_⟩, q3, q4, q5.kept ⟨q1, q2⟩ fun b o _ hb => h4 b o hb⟩
  rcases q2 with q | ⟨g', cap, cur, q, r2, r3, rest⟩
  ·exact .inl q
  ·exact .inr ⟨g', cap, cur, q, r2, h4 _ _ r3, rest⟩
 | dead => trivial
 | mp sh z va ks val =>
  obtain ⟨b, es, ck, q1, q2, q3⟩ := this
  exact ⟨b, es, ck, q1, h4 _ _ q2, q3⟩
theorem CSpec.reads {r : S} (hp : PSpec P f args' r) (ha : BwA H args args') (hr : r.flat = true) {k : S → List O → Prop} (hk : k r H) : CSpec P f args H k := by
 intro K F μ w vs hw hA
 obtain ⟨l1, l2⟩ := Qq2 hw (o := 0) ha (fun j s hs => by simpa using hA.2 j s hs)
 have hw0 : HSat { K with mem := fun _ => none } (QaV w) [] μ w :=
  ⟨hw.os, hw.tape, hw.output, fun b o hb => hb, fun b o hb => (by cases hb), fun id o ho => by simp [getL] at ho, fun id b ⟨⟨o, ho, _⟩, _⟩ => by simp [getL] at ho, fun id id' b ⟨⟨o, ho, _⟩, _⟩ => by simp [getL] at ho, fun _ _ _ => rfl⟩
 refine (hp _ (QaV w) μ w vs hw0 ⟨hA.1.trans l1, fun j s hs => by simpa using l2 j s hs⟩).mono ?_
 rintro e w' ⟨v, F', μ', s, H', rfl, h1, h2, h3, h4, rfl⟩
 exact ⟨v, F, μ, s, H, rfl, Mem.le_refl F, hw.later (h2.os.trans hw.os.symm) (h2.tape.trans hw.tape.symm) (h2.output.trans hw.output.symm) (fun b o hb => h2.fr b o (h1 b o hb)), Ext.refl H μ, Qpz hr h4, hk⟩
theorem CallN.reads {X : Cx} {f : FuncId} {args args' : List S} {r : S} {dst : Option Tmp} {ts : Ts} {H : List O} (hb : HasBody X.P f) (hp : PSpec X.P f args' r) (ha : BwA H args args') (hr : r.flat = true) {k : Ts → List O → Prop}
  (hk : Q4 r fun s' => putK X.nt dst s' ts fun ts' => k ts' H) : CallN X f args dst ts H k :=
 CallN.spec hb (CSpec.reads hp ha hr (by rw [QaO]; exact hk))
theorem CallG.reads {P : Program} {g : Bool} {f : FuncId} {args args' : List S} {r : S} {H : List O} (hb : HasBody P f) (hp : g = true → PSpec P f args' r) (ha : g = true → BwA H args args') (hr : r.flat = true) {k : S → List O → Prop} (hk : k r H) : CallG P g f args H k :=
 CallG.mk r (fun hg => ⟨hb, CSpec.reads (hp hg) (ha hg) hr ⟨rfl, rfl⟩⟩) hk
theorem Ql1 {id l t : Nat} (ht : t = n) : fzC id n g (.sl id es l t x) = .isl es l g (Nat.beq l t && x) := by
 subst ht
 have h1 : Nat.beq id id = true := Nat.beq_refl id
 have h2 : Nat.beq t t = true := Nat.beq_refl t
 simp only [fzC, h1, h2]
theorem wkC.fz {m id l t l' : Nat} {x' : Bool} {g' : Nat → Nat → C} (ht : t = n) (hl : l = l') (hg : ∀ i, i < l → ∀ j, j < es → leF (g i j) (g' i j)) (hx : x' = true → x = true ∧ l = t) :
  wkC ρ m (fzC id n g (.sl id es l t x)) (.isl es l' g' x') := by
 rw [Ql1 ht]
 refine Qxc (leF.isl hl hg fun e => ?_)
 obtain ⟨h1, h2⟩ := hx e
 subst h2
 rw [Nat.beq_refl, h1]; rfl
theorem QwF {ts' : Ts} {e : Nat} (id : Nat) (hid : getL H id = some (.arr e es n g)) (hn : X.n0 ≤ id)
  (him : ∀ i, i < n → ∀ j, j < es → (g i j).imm = true) (m : Nat) (hm : H'.length = m) (hH : HWkL idN m (fzH id n g H) H') (ht : wkT idN m (fzT id n g ts) ts') (ha : wkA idN m (fzA id n g args) args') (h0 : X.n0 ≤ m)
  (h : CallN X f args' dst ts' H' k) : CallN X f args dst ts H k := by
 refine CallN.fz id hid hn him ?_
 subst hm
 obtain ⟨h1, h2⟩ := h.out
 have hk : HWk idN (fzH id n g H) H' := ⟨fun i o' hi => QfF hH i o' hi, fun i j _ _ e => e⟩
 refine ⟨h1, fun K F0 H0 μ0 F μ a w vs hs hA => ?_⟩
 obtain ⟨l1, l2⟩ := Qm5 hk (o := 0) ha (fun j s hs => by simpa using hA.2 j s hs)
 exact h2 K F0 H0 μ0 F (fun i => μ (idN i)) a w vs (hs.wk ⟨hk, ht, h0⟩) ⟨hA.1.trans l1, fun j s hs => by simpa using l2 j s hs⟩
theorem CallN.opens {X : Cx} {f : FuncId} {args args' : List S} {dst : Option Tmp} {ts : Ts} {H : List O} {Q : S → List O → Prop} (hb : HasBody X.P f) (hc : CSpec X.P f args' [] Q) (ha : leA args args') {k : Ts → List O → Prop}
  (hk : ∀ s Hc', Q s Hc' → ∃ s'' H'', reS (sg [] H.length) s = s'' ∧ plug [] H Hc' = H'' ∧ Qat H'' fun H1 => Q4 s'' fun s' => putK X.nt dst s' ts fun ts' => k ts' H1) : CallN X f args dst ts H k := by
 refine CallN.spec hb (CSpec.opens hc ha fun s Hc' hq => ?_)
 obtain ⟨s'', H'', rfl, rfl, h⟩ := hk s Hc' hq
 exact h
theorem CallN.frame {X : Cx} {f : FuncId} {args args' : List S} {dst : Option Tmp} {ts : Ts} {H Hc : List O} {Q : S → List O → Prop} (hb : HasBody X.P f) (hc : CSpec X.P f args' Hc Q) (rs : List Nat) (h : Fr H Hc rs) (hd : ∀ i, getL Hc i ≠ some .dead)
  (ha : wkA (rho rs) Hc.length args args') {k : Ts → List O → Prop}
  (hk : ∀ s Hc', Q s Hc' → ∃ s'' H'', reS (sg rs H.length) s = s'' ∧ plug rs H Hc' = H'' ∧ Qat H'' fun H1 => Q4 s'' fun s' => putK X.nt dst s' ts fun ts' => k ts' H1) : CallN X f args dst ts H k := by
 refine CallN.spec hb (CSpec.frame hc rs h hd ha fun s Hc' hq => ?_)
 obtain ⟨s'', H'', rfl, rfl, h⟩ := hk s Hc' hq
 exact h
theorem CallN.imp {k' : Ts → List O → Prop} (h : CallN X f args dst ts H k) (hk : ∀ ts' H', k ts' H' → k' ts' H') : CallN X f args dst ts H k' := by
 obtain ⟨h1, h2⟩ := h.out
 refine ⟨h1, fun K F0 H0 μ0 F μ a w vs hs hA => (h2 K F0 H0 μ0 F μ a w vs hs hA).mono ?_⟩
 rintro e w' ⟨v, rfl, ts', H', F', μ', p1, p2⟩
 exact ⟨v, rfl, ts', H', F', μ', hk _ _ p1, p2⟩
theorem Qxe {s s' : S} {e n' : Nat} {g' : Nat → Nat → C} (id : Nat) (hid : getL H id = some (.arr e es n g)) (hn : n = n') (hg : ∀ i, i < n → ∀ j, j < es → wkC (fun _ => id) 1 (g i j) (g' i j)) (hs : wkS (fun _ => id) 1 s s') : RM 0 s H s' [.arr e es n' g'] := by
 refine QwR (fun _ => id) 1 rfl ⟨?_, ?_⟩ hs
 ·intro i o' hi
  match i with
  | 0 =>
   simp only [getL, Qxv] at hi
   subst hi
   exact ⟨_, hid, O.wk.arr hn hg⟩
  | i + 1 => simp [getL] at hi
 ·intro i j hi hj _
  simp only [QxR, Qx5] at hi hj
  omega
theorem wkC.own {id l t l' t' : Nat} {x' : Bool} (hl : l = l') (ht : t = t') (hx : x' = true → x = true) : wkC (fun _ => id) 1 (.sl id es l t x) (.sl 0 es l' t' x') := ⟨rfl, rfl, hl, ht, by decide, hx⟩
theorem BwA.nil : BwA H [] [] := trivial
theorem BwA.cons {H : List O} {s s' : S} {r r' : List S} (h : BwS H s s') (k : BwA H r r') : BwA H (s :: r) (s' :: r') := ⟨h, k⟩
theorem BwS.a {H : List O} {xs ys : List C} (h : BwL H xs ys) : BwS H (.a xs) (.a ys) := h
theorem BwS.c {H : List O} {x y : C} (h : Bw H x y) : BwS H (.c x) (.c y) := h
theorem BwL.nil : BwL H [] [] := trivial
theorem BwL.cons {H : List O} {s s' : C} {r r' : List C} (h : Bw H s s') (k : BwL H r r') : BwL H (s :: r) (s' :: r') := ⟨h, k⟩
theorem Fr.one {o o' : O} (id : Nat) (hid : getL H id = some o) (hw : O.wk (rho [id]) 1 o o') : Fr H [o'] [id] := by
 refine ⟨rfl, ⟨fun i x hi => ?_, fun i j hi hj _ => ?_⟩⟩
 ·match i with
  | 0 =>
   simp only [getL, Qxv] at hi
   subst hi
   exact ⟨o, hid, hw⟩
  | i + 1 => simp [getL] at hi
 ·simp only [QxR, Qx5] at hi hj
  omega
theorem wkA.nil : wkA ρ n [] [] := trivial
theorem wkA.cons {ρ : Nat → Nat} {n : Nat} {s s' : S} {r r' : List S} (h : wkS ρ n s s') (k : wkA ρ n r r') : wkA ρ n (s :: r) (s' :: r') := ⟨h, k⟩
theorem AW.mv {c : Code} {ts' : Ts} {k : Kp} (hm : Mv X ts H ts' H') (h : AW X c ts' H' k) : AW X c ts H k := by
 intro K F0 H0 μ0 F μ a w hs
 obtain ⟨F', μ', hs'⟩ := hm K F0 H0 μ0 F μ a w hs
 exact h K F0 H0 μ0 F' μ' a w hs'
theorem Dr.mv {X : Cx} {id : Nat} {ops : Array Oper} {ts : Ts} {H : List O} {k : Kp} (ts' : Ts) (H' : List O) (hm : Mv X ts H ts' H') (h : Dr X id ops ts' H' k) : Dr X id ops ts H k := ⟨AW.mv hm h.out⟩
end Go.Am
end

section
namespace Go.Am
open Go.ChangeShapes Go.WideShapes
section
variable {H : Type} {enc : TypeId × Value → H} {P : Program}
end
end Go.Am
end
