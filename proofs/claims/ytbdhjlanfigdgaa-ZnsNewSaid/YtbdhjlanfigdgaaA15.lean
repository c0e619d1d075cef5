import Derived.Test.YtbdhjlanfigdgaaA14
/- THE ABSTRACT MACHINE, PART 15: contracts. -/
namespace Go.Am

def E.imm : C ⊕ List C → Bool
  | .inl y => y.imm
  | .inr ys => ys.all C.imm

def S.imm : S → Bool
  | .u => true
  | .c x => x.imm
  | .a xs => xs.all C.imm
  | .t l => l.all E.imm
  | .lz _ s => s.imm

theorem all_get {α : Type} {p : α → Bool} {l : List α} (h : l.all p = true) {j : Nat} {x : α} (hx : getL l j = some x) : p x = true := by
  rw [getL_eq] at hx
  exact List.all_eq_true.1 h x (List.mem_of_getElem? hx)

/-- What is frozen says the same beside any tracked objects. -/
theorem immC {F : Mem} {H H' : List O} {μ μ' : Nat → Value} {c : C} (hc : c.imm = true) {v : Value} (h : RepC F H μ c v) : RepC F H' μ' c v := RepF.toC H' μ' c v (imm_rep hc h)

theorem immL {F : Mem} {H H' : List O} {μ μ' : Nat → Value} {xs : List C} (hc : xs.all C.imm = true) {cs : Array Value} (h : RepL F H μ xs cs) : RepL F H' μ' xs cs :=
  ⟨h.1, fun j x hx => let ⟨v, v1, v2⟩ := h.2 j x hx; ⟨v, v1, immC (all_get hc hx) v2⟩⟩

theorem immS {F : Mem} {H H' : List O} {μ μ' : Nat → Value} : ∀ {s : S}, s.imm = true → ∀ {v : Value}, RepS F H μ s v → RepS F H' μ' s v
  | .u, _, _, _ => trivial
  | .c _, hc, _, h => immC hc h
  | .a _, hc, _, ⟨cs, h1, h2⟩ => ⟨cs, h1, immL hc h2⟩
  | .t l, hc, _, ⟨vs, h1, h2, h3⟩ => ⟨vs, h1, h2, fun j x hx => by
      obtain ⟨u, u1, u2⟩ := h3 j x hx
      refine ⟨u, u1, ?_⟩
      have := all_get (p := E.imm) hc hx
      cases x with
      | inl c => exact immC this u2
      | inr cs => obtain ⟨k, k1, k2⟩ := u2; exact ⟨k, k1, immL this k2⟩⟩
  | .lz _ s, hc, _, h => ⟨fun hg => immS (s := s) hc (h.1 hg), h.2⟩

/-- What a function gives that changes nothing: this. -/
def PSpec (P : Program) (f : FuncId) (args : List S) (r : S) : Prop := CSpec P f args [] fun s _ => s = r

/-- The tracked objects put aside, behind what is kept. -/
noncomputable def Keep.with (K : Keep) (H : List O) (μ : Nat → Value) (w : World) : Keep :=
  { K with mem := open Classical in fun b => if ∃ id, owned H μ id b then w.heap[b]? else K.mem b }

theorem HSat.aside {K : Keep} {F : Mem} {H : List O} {μ : Nat → Value} {w : World} (h : HSat K F H μ w) (μ' : Nat → Value) : HSat (K.with H μ w) F [] μ' w := by
  refine ⟨h.os, h.tape, h.output, h.fr, fun b o hb => ?_, fun id o ho => by simp [getL] at ho, fun id b ⟨⟨o, ho, _⟩, _⟩ => by simp [getL] at ho, fun id id' b ⟨⟨o, ho, _⟩, _⟩ => by simp [getL] at ho, fun b o hb => ?_⟩
  · simp only [Keep.with] at hb
    split at hb
    · exact hb
    · exact h.kp b o hb
  · simp only [Keep.with]
    rw [if_neg]
    · exact h.dj b o hb
    · rintro ⟨id, hid⟩
      rw [(h.sp id b hid).1] at hb
      cases hb

theorem owned_some {K : Keep} {F : Mem} {H : List O} {μ : Nat → Value} {w : World} (h : HSat K F H μ w) {id b : Nat} (ho : owned H μ id b) : ∃ o, w.heap[b]? = some o := by
  obtain ⟨⟨o, o1, o2⟩, hb⟩ := ho
  have := h.ob id o o1
  cases o with
  | vr cs =>
    obtain ⟨b', c, T, h1, h2, _⟩ := this
    rw [h1] at hb
    cases hb
    exact ⟨_, h2⟩
  | arr e es n g =>
    obtain ⟨xs, h1, _, _⟩ := this
    rcases h1.2 with ⟨q, _⟩ | ⟨g', cap, cur, q, _, q3, _⟩
    · rw [q] at hb; cases hb
    · rw [q] at hb; cases hb
      exact ⟨_, q3⟩
  | dead => exact absurd rfl o2

theorem HSat.back {K : Keep} {F F' : Mem} {H : List O} {μ μ' : Nat → Value} {w w' : World} (h : HSat K F H μ w) {H'' : List O} (k : HSat (K.with H μ w) F' H'' μ' w') (hF : F.le F') : HSat K F' H μ w' := by
  have own : ∀ id b, owned H μ id b → (K.with H μ w).mem b = w.heap[b]? := by
    intro id b ho
    simp only [Keep.with]
    rw [if_pos ⟨id, ho⟩]
  refine ⟨k.os, k.tape, k.output, k.fr, fun b o hb => k.kp b o ?_, fun id o ho => ?_, fun id b ho => ⟨?_, (h.sp id b ho).2⟩, h.ij, fun b o hb => ?_⟩
  · simp only [Keep.with]
    rw [if_neg]
    · exact hb
    · rintro ⟨id, hid⟩
      rw [(h.sp id b hid).2] at hb
      cases hb
  · have := h.ob id o ho
    cases o with
    | vr cs =>
      obtain ⟨b, c, T, h1, h2, h3⟩ := this
      have hb : owned H μ id b := ⟨⟨_, ho, by simp⟩, by rw [h1]; rfl⟩
      exact ⟨b, c, T, h1, k.kp b _ (by rw [own id b hb]; exact h2), h3.mono hF (Ext.refl H μ)⟩
    | arr e es n g =>
      obtain ⟨xs, h1, h2, h3⟩ := this
      refine ⟨xs, ⟨h1.1, ?_⟩, h2, fun i hi j hj => ?_⟩
      · rcases h1.2 with q | ⟨g', cap, cur, q, q2, q3, rest⟩
        · exact .inl q
        · have hb : owned H μ id g' := ⟨⟨_, ho, by simp⟩, by rw [q]; rfl⟩
          exact .inr ⟨g', cap, cur, q, q2, k.kp g' _ (by rw [own id g' hb]; exact q3), rest⟩
      · obtain ⟨v, v1, v2⟩ := h3 i hi j hj
        exact ⟨v, v1, RepC.mono hF (Ext.refl H μ) _ _ v2⟩
    | dead => trivial
  · cases hf : F' b with
    | none => rfl
    | some o =>
      have := k.dj b o hf
      rw [own id b ho] at this
      obtain ⟨o', ho'⟩ := owned_some h ho
      rw [ho'] at this
      cases this
  · have := k.dj b o hb
    simp only [Keep.with] at this
    split at this
    · rename_i hid
      obtain ⟨id, hid⟩ := hid
      exact (h.sp id b hid).2
    · exact this

/-- Some arguments say as much as others. -/
def leA : List S → List S → Prop
  | [], [] => True
  | s :: r, s' :: r' => (s.imm = true ∧ wkS (fun i => i) 0 s s') ∧ leA r r'
  | _, _ => False

theorem HWk.nil : HWk (fun i => i) [] [] := ⟨fun i o' h => by simp [getL] at h, fun i j h => by simp at h⟩

theorem leA_ok {F : Mem} {H : List O} {μ : Nat → Value} : ∀ {l l' : List S}, leA l l' → ∀ {vs : Array Value} {o : Nat}, (∀ (j : Nat) s, getL l j = some s → ∃ v, vs[o + j]? = some v ∧ RepS F H μ s v) →
    l.length = l'.length ∧ ∀ (j : Nat) s, getL l' j = some s → ∃ v, vs[o + j]? = some v ∧ RepS F [] μ s v
  | [], [], _, _, _, _ => ⟨rfl, fun j s h => by simp [getL] at h⟩
  | s :: r, s' :: r', ⟨⟨h1, h2⟩, h3⟩, vs, o, h => by
    obtain ⟨k1, k2⟩ := leA_ok (o := o + 1) h3 (fun j t ht => by
      obtain ⟨v, v1, v2⟩ := h (j + 1) t (by simpa [getL] using ht)
      exact ⟨v, by rw [← v1]; congr 1; omega, v2⟩)
    refine ⟨by simp [k1], fun j t ht => ?_⟩
    cases j with
    | zero =>
      simp only [getL, Option.some.injEq] at ht
      subst ht
      obtain ⟨v, v1, v2⟩ := h 0 s rfl
      exact ⟨v, v1, wkS_ok HWk.nil s s' h2 v (immS (H' := []) (μ' := μ) h1 v2)⟩
    | succ j =>
      simp only [getL] at ht
      obtain ⟨v, v1, v2⟩ := k2 j t ht
      exact ⟨v, by rw [← v1]; congr 1; omega, v2⟩
  | [], _ :: _, h, _, _, _ => h.elim
  | _ :: _, [], h, _, _, _ => h.elim

/-- A call by a contract of the plain kind. -/
theorem CSpec.pure {P : Program} {f : FuncId} {args args' : List S} {r : S} {H : List O} (hp : PSpec P f args' r) (ha : leA args args') (hr : r.imm = true) {k : S → List O → Prop} (hk : k r H) : CSpec P f args H k := by
  intro K F μ w vs hw hA
  obtain ⟨l1, l2⟩ := leA_ok (o := 0) ha (fun j s hs => by simpa using hA.2 j s hs)
  refine (hp (K.with H μ w) F μ w vs (hw.aside μ) ⟨hA.1.trans l1, fun j s hs => by simpa using l2 j s hs⟩).mono ?_
  rintro e w' ⟨v, F', μ', s, H', rfl, h1, h2, h3, h4, rfl⟩
  exact ⟨v, F', μ, s, H, rfl, h1, hw.back h2 h1, Ext.refl H μ, immS hr h4, hk⟩

theorem CallN.pure {X : Cx} {f : FuncId} {args args' : List S} {r : S} {dst : Option Tmp} {ts : Ts} {H : List O} (hb : HasBody X.P f) (hp : PSpec X.P f args' r) (ha : leA args args') (hr : r.imm = true) {k : Ts → List O → Prop}
    (hk : forceS r fun s' => putK X.nt dst s' ts fun ts' => k ts' H) : CallN X f args dst ts H k :=
  CallN.spec hb (CSpec.pure hp ha hr (by rw [forceH_eq]; exact hk))

theorem CallG.pure {P : Program} {g : Bool} {f : FuncId} {args args' : List S} {r : S} {H : List O} (hb : HasBody P f) (hp : g = true → PSpec P f args' r) (ha : g = true → leA args args') (hr : r.imm = true) {k : S → Prop} (hk : k r) : CallG P g f args H k :=
  CallG.mk r (fun hg => ⟨hb, CSpec.pure (hp hg) (ha hg) hr ⟨rfl, rfl⟩⟩) hk

/-- A result that says more than is claimed. -/
theorem PSpec.le {P : Program} {f : FuncId} {args : List S} {r r' : S} (h : PSpec P f args r) (hr : r.imm = true) (hl : wkS (fun i => i) 0 r r') : PSpec P f args r' := by
  intro K F μ w vs hw hA
  refine (h K F μ w vs hw hA).mono ?_
  rintro e w' ⟨v, F', μ', s, H', rfl, h1, h2, h3, h4, rfl⟩
  have hw0 : HSat K F' [] μ w' := hw.back (K := K) (H := []) (by
    have : K.with [] μ w = K := by
      unfold Keep.with
      congr 1
      funext b
      rw [if_neg]
      rintro ⟨id, ⟨o, ho, _⟩, _⟩
      simp [getL] at ho
    rw [this]
    exact h2) h1
  exact ⟨v, F', μ, r', [], rfl, h1, hw0, Ext.refl [] μ, wkS_ok HWk.nil s r' hl v (immS hr h4), rfl⟩

end Go.Am
