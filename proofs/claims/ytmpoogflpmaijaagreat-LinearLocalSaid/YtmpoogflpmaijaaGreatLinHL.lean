/- Part of the proofs of laws of this seat: contracts and plain lemmas; no condition is added to a statement. -/
import Derived.Test.YtmpoogflpmaijaaGreatLinC
import Derived.Test.YtmpoogflpmaijaaGreatLi7
import Derived.Test.YtmpoogflpmaijaaGreatLinE
import Derived.Test.YtmpoogflpmaijaaGreatLinIL
set_option linter.unusedSimpArgs false
set_option linter.unusedVariables false
section
open Go Go.Am
namespace Go.Proofs
/-! ### orders that obey a history of one block -/
inductive Path (l : List Evt) (v0 : ByteArray) : List Int → ByteArray → Prop
  | nil : Path l v0 [] v0
  | snoc {o : List Int} {v : ByteArray} {x : Evt} (h : Path l v0 o v) (hx : x ∈ operationsM l) (hc : canE x = true) (hn : x.serial ∉ o) (hb : ∀ y ∈ operationsM l, mustE y = true → beforeM l y.serial x.serial = true → y.serial ∈ o) (hs : stepOk [v] x = true) : Path l v0 (o ++ [x.serial]) (nextV v x)
def DoneL (l : List Evt) (o : List Int) : Prop := ∀ y ∈ operationsM l, mustE y = true → y.serial ∈ o
theorem ops_ret {l : List Evt} {y : Evt} {s : Int} (hy : y ∈ operationsM l) (hb : beforeM l y.serial s = true) : y.ret = true := by
  unfold operationsM at hy
  obtain ⟨e, he, rfl⟩ := List.mem_map.1 hy
  rw [opOf_serial] at hb
  unfold beforeM at hb
  simp only [Bool.and_eq_true] at hb
  unfold opOf
  rw [if_pos hb.1.1]
theorem must_of_can {x : Evt} (hc : canE x = true) (hr : x.ret = true) : mustE x = true := by rw [mustE_can hc, hr]
theorem can_of_must {x : Evt} (h : mustE x = true) : canE x = true := by
  cases hc : canE x with
  | true => rfl
  | false => rw [mustE_not hc] at h; cases h
def BitsO (ops : List Evt) (d : Nat) (o : List Int) : Prop := ∀ i, i < ops.length → (d.testBit i = true ↔ (ops.getD i default).serial ∈ o)
theorem ser_idx {ops : List Evt} (hn : (ops.map Evt.serial).Nodup) {i j : Nat} (hi : i < ops.length) (hj : j < ops.length) (h : (ops.getD i default).serial = (ops.getD j default).serial) : i = j := by
  rw [getD_at hi, getD_at hj] at h
  exact (List.getElem?_inj (l := ops.map Evt.serial) (by simpa using hi) hn (j := j)).1 (by simp [hi, hj, h])
theorem BitsO.snoc {ops : List Evt} (hn : (ops.map Evt.serial).Nodup) {d i : Nat} {o : List Int} (h : BitsO ops d o) (hi : i < ops.length) : BitsO ops (d ||| 2 ^ i) (o ++ [(ops.getD i default).serial]) := by
  intro j hj
  rw [Nat.testBit_or, Nat.testBit_two_pow, Bool.or_eq_true, h j hj, decide_eq_true_eq, List.mem_append, List.mem_singleton]
  constructor
  · rintro (q | q)
    · exact .inl q
    · subst q; exact .inr rfl
  · rintro (q | q)
    · exact .inl q
    · exact .inr (ser_idx hn hi hj q.symm)
theorem bits_nil (ops : List Evt) : BitsO ops 0 [] := fun i _ => by simp
theorem mem_idx {ops : List Evt} {x : Evt} (h : x ∈ ops) : ∃ i, i < ops.length ∧ ops.getD i default = x := by
  obtain ⟨i, hi, rfl⟩ := List.getElem_of_mem h
  exact ⟨i, hi, getD_at hi⟩
theorem idx_mem {ops : List Evt} {i : Nat} (hi : i < ops.length) : ops.getD i default ∈ ops := by rw [getD_at hi]; exact List.getElem_mem hi
theorem canOps_nodup (l : List Evt) : ((canOps l).map Evt.serial).Nodup := (operations_nodup l).sublist (List.filter_sublist.map _)
theorem mem_canOps {l : List Evt} {x : Evt} : x ∈ canOps l ↔ x ∈ operationsM l ∧ canE x = true := by unfold canOps; rw [List.mem_filter]
theorem row_bit (l ops : List Evt) {i j : Nat} (hi : i < ops.length) : ((firstOf l ops).getD i default).testBit j = (decide (j < ops.length) && beforeM l (ops.getD j default).serial (ops.getD i default).serial) := by
  have e : (firstOf l ops).getD i default = rowOf l ops (ops.getD i default) := by simp [firstOf, List.getD, hi]
  rw [e]
  unfold rowOf
  rw [maskB_bit]
theorem step_lin {l : List Evt} {d : Nat} {v : ByteArray} {o : List Int} {i : Nat} (hB : BitsO (canOps l) d o) (hi : i < (canOps l).length) : stepI (probOf l) d v i = true ↔ (((canOps l).getD i default).serial ∉ o ∧ (∀ y ∈ operationsM l, mustE y = true → beforeM l y.serial ((canOps l).getD i default).serial = true → y.serial ∈ o) ∧ stepOk [v] ((canOps l).getD i default) = true) := by
  unfold stepI
  have e1 : (probOf l).first = firstOf l (canOps l) := rfl
  have e2 : (probOf l).ops = canOps l := rfl
  rw [e1, e2]
  simp only [Bool.and_eq_true, Bool.not_eq_true', decide_eq_true_eq, mdiff_zero, and_assoc]
  have a1 : d.testBit i = false ↔ ((canOps l).getD i default).serial ∉ o := by rw [← hB i hi, Bool.not_eq_true]
  have a2 : (∀ j, ((firstOf l (canOps l)).getD i default).testBit j = true → d.testBit j = true) ↔ (∀ y ∈ operationsM l, mustE y = true → beforeM l y.serial ((canOps l).getD i default).serial = true → y.serial ∈ o) := by
    constructor
    · intro h y hy hm hb
      obtain ⟨j, hj, rfl⟩ := mem_idx (mem_canOps.2 ⟨hy, can_of_must hm⟩)
      have := h j (by rw [row_bit l _ hi, hb]; simp [hj])
      exact (hB j hj).1 this
    · intro h j hj
      rw [row_bit l _ hi, Bool.and_eq_true, decide_eq_true_eq] at hj
      obtain ⟨m1, m2⟩ := mem_canOps.1 (idx_mem hj.1)
      exact (hB j hj.1).2 (h _ m1 (must_of_can m2 (ops_ret m1 hj.2)) hj.2)
  rw [a1, a2]
theorem reach_path {l : List Evt} {v0 v : ByteArray} {d : Nat} {o : List Int} (h : Reach (probOf l) v0 d v o) : Path l v0 o v ∧ BitsO (canOps l) d o := by
  induction h with
  | nil => exact ⟨.nil, bits_nil _⟩
  | @step d v o i _ hi hs ih =>
    have hi' : i < (canOps l).length := hi
    obtain ⟨h1, h2, h3⟩ := (step_lin ih.2 hi').1 hs
    obtain ⟨m1, m2⟩ := mem_canOps.1 (idx_mem hi')
    exact ⟨.snoc ih.1 m1 m2 h1 h2 h3, ih.2.snoc (canOps_nodup l) hi'⟩
theorem path_reach {l : List Evt} {v0 v : ByteArray} {o : List Int} (h : Path l v0 o v) : ∃ d, Reach (probOf l) v0 d v o ∧ BitsO (canOps l) d o := by
  induction h with
  | nil => exact ⟨0, .nil, bits_nil _⟩
  | @snoc o v x _ hx hc hn hb hs ih =>
    obtain ⟨d, h1, h2⟩ := ih
    obtain ⟨i, hi, rfl⟩ := mem_idx (mem_canOps.2 ⟨hx, hc⟩)
    exact ⟨_, .step h1 hi ((step_lin h2 hi).2 ⟨hn, hb, hs⟩), h2.snoc (canOps_nodup l) hi⟩
theorem done_lin {l : List Evt} {d : Nat} {o : List Int} (h : BitsO (canOps l) d o) : d &&& (probOf l).must = (probOf l).must ↔ DoneL l o := by
  rw [and_eq_right]
  have e : ∀ i, (probOf l).must.testBit i = (decide (i < (canOps l).length) && mustE ((canOps l).getD i default)) := fun i => by
    show (mustOf (canOps l)).testBit i = _
    unfold mustOf; rw [maskB_bit]
  constructor
  · intro q y hy hm
    obtain ⟨i, hi, rfl⟩ := mem_idx (mem_canOps.2 ⟨hy, can_of_must hm⟩)
    exact (h i hi).1 (q i (by rw [e, hm]; simp [hi]))
  · intro q i hi
    rw [e, Bool.and_eq_true, decide_eq_true_eq] at hi
    exact (h i hi.1).2 (q _ (mem_canOps.1 (idx_mem hi.1)).1 hi.2)
def HasLin (l : List Evt) (v : ByteArray) : Prop := ∃ o w, Path l v o w ∧ DoneL l o
theorem canOps_few {v : ByteArray} {l : List Evt} (h : singleM v l = true) : (probOf l).ops.length ≤ 20 := (probOf_ok h).1
theorem blockM_path {v : ByteArray} {l : List Evt} (h : (blockM v l).2 = true) : singleM v l = true ∧ ∃ w, Path l v (blockM v l).1 w ∧ DoneL l (blockM v l).1 := by
  unfold blockM at h ⊢
  cases hs : singleM v l with
  | false => rw [hs] at h; simp at h
  | true =>
    rw [if_pos hs] at h
    rw [if_pos rfl]
    refine ⟨rfl, ?_⟩
    cases he : endsM v l true with
    | nil => rw [he] at h; cases h
    | cons p r =>
      have hp : p ∈ endsM v l true := by rw [he]; simp
      obtain ⟨d, h1, h2⟩ := walk_sound p hp
      obtain ⟨h3, h4⟩ := reach_path h1
      exact ⟨p.1, h3, (done_lin h4).1 h2⟩
theorem blockM_none {v : ByteArray} {l : List Evt} (h : (blockM v l).2 = false) : (blockM v l).1 = [] := by
  unfold blockM at h ⊢
  split
  · rename_i hs
    rw [if_pos hs] at h
    cases he : endsM v l true with
    | nil => rfl
    | cons p r => rw [he] at h; cases h
  · rfl
theorem blockM_iff {v : ByteArray} {l : List Evt} : (blockM v l).2 = true ↔ singleM v l = true ∧ HasLin l v := by
  constructor
  · intro h
    obtain ⟨h1, w, h2, h3⟩ := blockM_path h
    exact ⟨h1, _, w, h2, h3⟩
  · rintro ⟨hs, o, w, h1, h2⟩
    obtain ⟨d, h3, h4⟩ := path_reach h1
    have := walk_all (one := true) (canOps_few hs) h3 ((done_lin h4).2 h2)
    unfold blockM
    rw [if_pos hs]
    cases he : endsM v l true with
    | nil =>
      have he' : (walkM (probOf l) true 21 0 v [] ([], [])).2 = [] := he
      rw [he'] at this
      rcases this with q | q
      · exact absurd rfl q.2
      · simp at q
    | cons p r => rfl
end Go.Proofs
end

section
open Go Go.Am
namespace Go.Proofs
/-! ### one behind another one in a list -/
def Ord {α : Type} : List α → α → α → Prop
  | [], _, _ => False
  | x :: l, a, b => (x = a ∧ b ∈ l) ∨ Ord l a b
theorem ord_mem {α : Type} : ∀ {l : List α} {a b : α}, Ord l a b → a ∈ l ∧ b ∈ l
  | [], _, _, h => h.elim
  | x :: l, a, b, h => by
    rcases h with ⟨h1, h2⟩ | h
    · exact ⟨by rw [h1]; simp, by simp [h2]⟩
    · obtain ⟨h1, h2⟩ := ord_mem h
      exact ⟨by simp [h1], by simp [h2]⟩
theorem ord_filter {α : Type} {p : α → Bool} : ∀ {l : List α} {a b : α}, Ord (l.filter p) a b ↔ p a = true ∧ p b = true ∧ Ord l a b
  | [], a, b => by simp [Ord]
  | x :: l, a, b => by
    have ih := ord_filter (p := p) (l := l) (a := a) (b := b)
    by_cases c : p x = true
    · rw [List.filter_cons_of_pos c]
      simp only [Ord, ih, List.mem_filter]
      constructor
      · rintro (⟨h1, h2, h3⟩ | ⟨h1, h2, h3⟩)
        · exact ⟨h1 ▸ c, h3, .inl ⟨h1, h2⟩⟩
        · exact ⟨h1, h2, .inr h3⟩
      · rintro ⟨h1, h2, ⟨h3, h4⟩ | h3⟩
        · exact .inl ⟨h3, h4, h2⟩
        · exact .inr ⟨h1, h2, h3⟩
    · rw [List.filter_cons_of_neg c]
      simp only [Ord, ih]
      constructor
      · rintro ⟨h1, h2, h3⟩; exact ⟨h1, h2, .inr h3⟩
      · rintro ⟨h1, h2, ⟨h3, h4⟩ | h3⟩
        · exact absurd (h3 ▸ h1) c
        · exact ⟨h1, h2, h3⟩
theorem ord_map {α β : Type} {f : α → β} : ∀ {l : List α} {a b : β}, Ord (l.map f) a b ↔ ∃ x y, Ord l x y ∧ f x = a ∧ f y = b
  | [], a, b => by simp [Ord]
  | x :: l, a, b => by
    have ih := ord_map (f := f) (l := l) (a := a) (b := b)
    simp only [List.map_cons, Ord, ih, List.mem_map]
    constructor
    · rintro (⟨h1, y, h2, h3⟩ | ⟨u, y, h1, h2, h3⟩)
      · exact ⟨x, y, .inl ⟨rfl, h2⟩, h1, h3⟩
      · exact ⟨u, y, .inr h1, h2, h3⟩
    · rintro ⟨u, y, ⟨h1, h2⟩ | h1, h3, h4⟩
      · subst h1; exact .inl ⟨h3, y, h2, h4⟩
      · exact .inr ⟨u, y, h1, h3, h4⟩
theorem ord_idx {α : Type} [Inhabited α] : ∀ {l : List α} {a b : α}, Ord l a b ↔ ∃ i j, i < j ∧ j < l.length ∧ l.getD i default = a ∧ l.getD j default = b
  | [], a, b => by simp [Ord]
  | x :: l, a, b => by
    have ih := ord_idx (l := l) (a := a) (b := b)
    simp only [Ord, ih, List.length_cons]
    constructor
    · rintro (⟨h1, h2⟩ | ⟨i, j, h1, h2, h3, h4⟩)
      · obtain ⟨j, hj, rfl⟩ := List.getElem_of_mem h2
        exact ⟨0, j + 1, by omega, by omega, h1, by rw [List.getD_cons_succ]; exact getD_at hj⟩
      · exact ⟨i + 1, j + 1, by omega, by omega, by rw [List.getD_cons_succ]; exact h3, by rw [List.getD_cons_succ]; exact h4⟩
    · rintro ⟨i, j, h1, h2, h3, h4⟩
      match i, j, h1 with
      | 0, j + 1, _ =>
        refine .inl ⟨h3, ?_⟩
        rw [List.getD_cons_succ] at h4
        rw [← h4, getD_at (by omega)]
        exact List.getElem_mem _
      | i + 1, j + 1, h1 =>
        rw [List.getD_cons_succ] at h3 h4
        exact .inr ⟨i, j, by omega, by omega, h3, h4⟩
theorem ord_tri {α : Type} : ∀ {l : List α} {a b : α}, a ∈ l → b ∈ l → a = b ∨ Ord l a b ∨ Ord l b a
  | x :: l, a, b, ha, hb => by
    rcases List.mem_cons.1 ha with h1 | h1 <;> rcases List.mem_cons.1 hb with h2 | h2
    · exact .inl (h1.trans h2.symm)
    · exact .inr (.inl (.inl ⟨h1.symm, h2⟩))
    · exact .inr (.inr (.inl ⟨h2.symm, h1⟩))
    · rcases ord_tri h1 h2 with h | h | h
      · exact .inl h
      · exact .inr (.inl (.inr h))
      · exact .inr (.inr (.inr h))
/-- A right history, without places. -/
structure RightO (l : List Evt) : Prop where
  inv : ∀ a b, Ord l a b → a.ret = false → b.ret = false → a.serial ≠ b.serial
  rets : ∀ a b, Ord l a b → a.ret = true → b.ret = true → a.serial ≠ b.serial
  open_ : ∀ r ∈ l, r.ret = true → ∃ e, Ord l e r ∧ e.ret = false ∧ e.serial = r.serial ∧ e.queue = r.queue ∧ e.kind = r.kind ∧ e.block = r.block ∧ e.data = r.data ∧ fitsM r.kind r.err r.rdata = true
  plain : ∀ e ∈ l, e.ret = false → e.err = 0 ∧ e.rdata = ByteArray.empty
  range : ∀ e ∈ l, 0 ≤ e.queue ∧ e.queue < 4 ∧ 0 ≤ e.serial
theorem mem_at {l : List Evt} {x : Evt} (h : x ∈ l) : ∃ i, i < l.length ∧ l.getD i default = x := mem_idx h
theorem Right.o {l : List Evt} (h : Right l) : RightO l := by
  refine ⟨fun a b hab h1 h2 => ?_, fun a b hab h1 h2 => ?_, fun r hr h1 => ?_, fun e he h1 => ?_, fun e he => ?_⟩
  · obtain ⟨i, j, h3, h4, rfl, rfl⟩ := ord_idx.1 hab
    exact h.inv i j h3 h4 h1 h2
  · obtain ⟨i, j, h3, h4, rfl, rfl⟩ := ord_idx.1 hab
    exact h.rets i j h3 h4 h1 h2
  · obtain ⟨j, hj, rfl⟩ := mem_at hr
    obtain ⟨i, h2, h3, h4⟩ := h.open_ j hj h1
    exact ⟨_, ord_idx.2 ⟨i, j, h2, hj, rfl, rfl⟩, h3, h4⟩
  · obtain ⟨j, hj, rfl⟩ := mem_at he
    exact h.plain j hj h1
  · obtain ⟨j, hj, rfl⟩ := mem_at he
    exact h.range j hj
theorem RightO.i {l : List Evt} (h : RightO l) : Right l := by
  refine ⟨fun i j h1 h2 h3 h4 => h.inv _ _ (ord_idx.2 ⟨i, j, h1, h2, rfl, rfl⟩) h3 h4, fun i j h1 h2 h3 h4 => h.rets _ _ (ord_idx.2 ⟨i, j, h1, h2, rfl, rfl⟩) h3 h4, fun j hj h1 => ?_, fun i hi h1 => h.plain _ (idx_mem hi) h1, fun i hi => h.range _ (idx_mem hi)⟩
  obtain ⟨e, h2, h3⟩ := h.open_ _ (idx_mem hj) h1
  obtain ⟨i, k, a1, a2, a3, a4⟩ := ord_idx.1 h2
  have : k = j := by
    rcases Nat.lt_trichotomy k j with c | c | c
    · exact absurd (by rw [a4]) (h.rets _ _ (ord_idx.2 ⟨k, j, c, hj, rfl, rfl⟩) (by rw [a4]; exact h1) h1)
    · exact c
    · exact absurd (by rw [a4]) (h.rets _ _ (ord_idx.2 ⟨j, k, c, a2, rfl, rfl⟩) h1 (by rw [a4]; exact h1))
  subst this
  exact ⟨i, a1, by rw [a3]; exact h3⟩
section
variable {l : List Evt} (h : RightO l)
include h
theorem inv_unique {a b : Evt} (ha : a ∈ l) (hb : b ∈ l) (h1 : a.ret = false) (h2 : b.ret = false) (hs : a.serial = b.serial) : a = b := by
  rcases ord_tri ha hb with c | c | c
  · exact c
  · exact absurd hs (h.inv _ _ c h1 h2)
  · exact absurd hs.symm (h.inv _ _ c h2 h1)
theorem ret_unique {a b : Evt} (ha : a ∈ l) (hb : b ∈ l) (h1 : a.ret = true) (h2 : b.ret = true) (hs : a.serial = b.serial) : a = b := by
  rcases ord_tri ha hb with c | c | c
  · exact c
  · exact absurd hs (h.rets _ _ c h1 h2)
  · exact absurd hs.symm (h.rets _ _ c h2 h1)
theorem mem_begun {e : Evt} : e ∈ begunM l ↔ e ∈ l ∧ e.ret = false := by
  have key : ∀ k, k ≤ l.length → ∀ e, e ∈ begunTo l k ↔ ∃ i, i < k ∧ l.getD i default = e ∧ e.ret = false := by
    intro k
    induction k with
    | zero => intro _ e; simp [begunTo]
    | succ k ih =>
      intro hk e
      have ih := ih (by omega) e
      have hR := h.i
      by_cases c : (l.getD k default).ret = false
      · have hno : (placesM l false k).has (l.getD k default).serial = false := placesM_not.2 fun i hi hr => hR.inv i k hi (by omega) hr c
        rw [begunTo_yes (by omega) c hno, List.mem_append, List.mem_singleton, ih]
        constructor
        · rintro (⟨i, h1, h2, h3⟩ | rfl)
          · exact ⟨i, by omega, h2, h3⟩
          · exact ⟨k, by omega, rfl, c⟩
        · rintro ⟨i, h1, h2, h3⟩
          by_cases d : i = k
          · subst d; exact .inr h2.symm
          · exact .inl ⟨i, by omega, h2, h3⟩
      · rw [begunTo_no (by omega) (.inl (by simpa using c)), ih]
        constructor
        · rintro ⟨i, h1, h2, h3⟩; exact ⟨i, by omega, h2, h3⟩
        · rintro ⟨i, h1, h2, h3⟩
          refine ⟨i, ?_, h2, h3⟩
          by_cases d : i = k
          · subst d; rw [h2] at c; exact absurd h3 c
          · omega
  unfold begunM
  rw [key _ (Nat.le_refl _)]
  constructor
  · rintro ⟨i, h1, rfl, h3⟩; exact ⟨idx_mem h1, h3⟩
  · rintro ⟨h1, h2⟩
    obtain ⟨i, hi, rfl⟩ := mem_at h1
    exact ⟨i, hi, rfl, h2⟩
/-- The operations are the returns, and the invocations that have none. -/
theorem mem_ops {x : Evt} : x ∈ operationsM l ↔ x ∈ l ∧ (x.ret = false → ∀ r ∈ l, r.ret = true → r.serial ≠ x.serial) := by
  have ret_of : ∀ {e : Evt}, e ∈ l → e.ret = false → (placesF l true).has e.serial = true → ∃ r ∈ l, r.ret = true ∧ r.serial = e.serial ∧ opOf l e = r := by
    intro e he h0 hp
    obtain ⟨i, i1, i2, i3, i4, -⟩ := placesM_get l true l.length _ hp
    obtain ⟨e', h2, h3, h4, h5, h6, h7, h8, -⟩ := h.open_ _ (idx_mem i1) i3
    have := inv_unique h (ord_mem h2).1 he h3 h0 (h4.trans i4)
    subst this
    refine ⟨_, idx_mem i1, i3, i4, ?_⟩
    unfold opOf
    rw [if_pos hp]
    have i2' : (placesF l true).get e'.serial = i := i2
    rw [i2', Int.toNat_natCast]
    generalize l.getD i default = r at *
    cases r; cases e'
    simp only at *
    subst i3 i4 h5 h6 h7 h8
    rfl
  unfold operationsM
  rw [List.mem_map]
  constructor
  · rintro ⟨e, he, rfl⟩
    obtain ⟨h1, h2⟩ := (mem_begun h).1 he
    by_cases hp : (placesF l true).has e.serial = true
    · obtain ⟨r, r1, r2, r3, r4⟩ := ret_of h1 h2 hp
      rw [r4]
      exact ⟨r1, fun q => by rw [r2] at q; cases q⟩
    · have : opOf l e = e := by unfold opOf; rw [if_neg hp]
      rw [this]
      refine ⟨h1, fun _ r hr hrr hs => hp ?_⟩
      obtain ⟨i, hi, rfl⟩ := mem_at hr
      exact (placesM_has l true _ _).2 ⟨i, hi, hrr, hs⟩
  · rintro ⟨hx, hn⟩
    cases hr : x.ret with
    | true =>
      obtain ⟨e, h2, h3, h4, -⟩ := h.open_ x hx hr
      have he := (ord_mem h2).1
      have hp : (placesF l true).has e.serial = true := by
        obtain ⟨i, hi, rfl⟩ := mem_at hx
        exact (placesM_has l true _ _).2 ⟨i, hi, hr, h4.symm⟩
      obtain ⟨r, r1, r2, r3, r4⟩ := ret_of he h3 hp
      refine ⟨e, (mem_begun h).2 ⟨he, h3⟩, ?_⟩
      rw [r4]
      exact ret_unique h r1 hx r2 hr (r3.trans h4)
    | false =>
      refine ⟨x, (mem_begun h).2 ⟨hx, hr⟩, ?_⟩
      unfold opOf
      rw [if_neg]
      intro hp
      obtain ⟨i, i1, -, i3, i4, -⟩ := placesM_get l true l.length _ hp
      exact hn hr _ (idx_mem i1) i3 i4
theorem before_iff {s t : Int} : beforeM l s t = true ↔ ∃ r e, Ord l r e ∧ r.ret = true ∧ r.serial = s ∧ e.ret = false ∧ e.serial = t := by
  have hR := h.i
  unfold beforeM
  simp only [Bool.and_eq_true, decide_eq_true_eq]
  constructor
  · rintro ⟨⟨h1, h2⟩, h3⟩
    obtain ⟨i, i1, i2, i3, i4, -⟩ := placesM_get l true l.length _ h1
    obtain ⟨j, j1, j2, j3, j4, -⟩ := placesM_get l false l.length _ h2
    have e1 : (placesF l true).get s = i := i2
    have e2 : (placesF l false).get t = j := j2
    rw [e1, e2] at h3
    exact ⟨_, _, ord_idx.2 ⟨i, j, by omega, j1, rfl, rfl⟩, i3, i4, j3, j4⟩
  · rintro ⟨r, e, h1, h2, h3, h4, h5⟩
    obtain ⟨i, j, a1, a2, rfl, rfl⟩ := ord_idx.1 h1
    have p1 : (placesF l true).has s = true := (placesM_has l true _ _).2 ⟨i, by omega, h2, h3⟩
    have p2 : (placesF l false).has t = true := (placesM_has l false _ _).2 ⟨j, a2, h4, h5⟩
    refine ⟨⟨p1, p2⟩, ?_⟩
    obtain ⟨i', i1, i2, i3, i4, i5⟩ := placesM_get l true l.length _ p1
    obtain ⟨j', j1, j2, j3, j4, j5⟩ := placesM_get l false l.length _ p2
    have e1 : (placesF l true).get s = i' := i2
    have e2 : (placesF l false).get t = j' := j2
    rw [e1, e2]
    have : j' = j := by
      rcases Nat.lt_trichotomy j' j with c | c | c
      · exact absurd (j4.trans h5.symm) (hR.inv _ _ c a2 j3 h4)
      · exact c
      · exact absurd (h5.trans j4.symm) (hR.inv _ _ c j1 h4 j3)
    have : i' ≤ i := by
      rcases Nat.lt_or_ge i i' with c | c
      · exact absurd h3 (i5 i c h2)
      · exact c
    omega
theorem before_self (s : Int) : beforeM l s s = false := by
  rw [← Bool.not_eq_true, before_iff h]
  rintro ⟨r, e, h1, h2, h3, h4, h5⟩
  obtain ⟨i, j, a1, a2, rfl, rfl⟩ := ord_idx.1 h1
  obtain ⟨i', b1, b2, b3, -⟩ := h.i.open_ i (by omega) h2
  exact h.i.inv i' j (by omega) a2 b2 h4 (by rw [b3, h3, h5])
theorem alone_right (b : Int) : RightO (aloneM l b) := by
  unfold aloneM restrictM
  refine ⟨fun x y hxy h1 h2 => ?_, fun x y hxy h1 h2 => ?_, fun r hr h1 => ?_, fun e he h1 => ?_, fun e he => ?_⟩
  · obtain ⟨u, v, h3, rfl, rfl⟩ := ord_map.1 hxy
    exact h.inv u v (ord_filter.1 h3).2.2 h1 h2
  · obtain ⟨u, v, h3, rfl, rfl⟩ := ord_map.1 hxy
    exact h.rets u v (ord_filter.1 h3).2.2 h1 h2
  · obtain ⟨u, h3, rfl⟩ := List.mem_map.1 hr
    obtain ⟨h4, h5⟩ := List.mem_filter.1 h3
    obtain ⟨e, q1, q2, q3, q4, q5, q6, q7, q8⟩ := h.open_ u h4 h1
    have : inB b e = true := by rw [← h5]; unfold inB; rw [q5, q6]
    exact ⟨zeroE e, ord_map.2 ⟨e, u, ord_filter.2 ⟨this, h5, q1⟩, rfl, rfl⟩, q2, q3, q4, q5, rfl, q7, q8⟩
  · obtain ⟨u, h3, rfl⟩ := List.mem_map.1 he
    exact h.plain u (List.mem_filter.1 h3).1 h1
  · obtain ⟨u, h3, rfl⟩ := List.mem_map.1 he
    exact h.range u (List.mem_filter.1 h3).1
theorem mem_alone {b : Int} {x : Evt} : x ∈ operationsM (aloneM l b) ↔ ∃ y ∈ operationsM l, inB b y = true ∧ x = zeroE y := by
  rw [mem_ops (alone_right h b)]
  have hm : ∀ z, z ∈ aloneM l b ↔ ∃ y ∈ l, inB b y = true ∧ z = zeroE y := fun z => by
    unfold aloneM restrictM
    rw [List.mem_map]
    constructor
    · rintro ⟨y, h1, rfl⟩; obtain ⟨h2, h3⟩ := List.mem_filter.1 h1; exact ⟨y, h2, h3, rfl⟩
    · rintro ⟨y, h1, h2, rfl⟩; exact ⟨y, List.mem_filter.2 ⟨h1, h2⟩, rfl⟩
  constructor
  · rintro ⟨h1, h2⟩
    obtain ⟨y, h3, h4, rfl⟩ := (hm _).1 h1
    refine ⟨y, (mem_ops h).2 ⟨h3, fun hr r hrl hrr hs => ?_⟩, h4, rfl⟩
    obtain ⟨e, q1, q2, q3, q4, q5, q6, q7, -⟩ := h.open_ r hrl hrr
    have := inv_unique h (ord_mem q1).1 h3 q2 hr (q3.trans hs)
    subst this
    have hb : inB b r = true := by rw [← h4]; unfold inB; rw [q5, q6]
    exact h2 hr (zeroE r) ((hm _).2 ⟨r, hrl, hb, rfl⟩) hrr hs
  · rintro ⟨y, h1, h2, rfl⟩
    obtain ⟨h3, h4⟩ := (mem_ops h).1 h1
    refine ⟨(hm _).2 ⟨y, h3, h2, rfl⟩, fun hr r hrl hrr hs => ?_⟩
    obtain ⟨u, q1, q2, rfl⟩ := (hm _).1 hrl
    exact h4 hr u q1 hrr hs
/-- The invocation of an operation. -/
theorem ops_inv {x e : Evt} (hx : x ∈ operationsM l) (he : e ∈ l) (hr : e.ret = false) (hs : e.serial = x.serial) : e.kind = x.kind ∧ e.block = x.block := by
  obtain ⟨h1, h2⟩ := (mem_ops h).1 hx
  cases c : x.ret with
  | true =>
    obtain ⟨e', q1, q2, q3, q4, q5, q6, -⟩ := h.open_ x h1 c
    have := inv_unique h (ord_mem q1).1 he q2 hr (q3.trans hs.symm)
    subst this
    exact ⟨q5, q6⟩
  | false =>
    have := inv_unique h he h1 hr c hs
    rw [this]; exact ⟨rfl, rfl⟩
theorem ops_ret_eq {x r : Evt} (hx : x ∈ operationsM l) (hr : r ∈ l) (h1 : r.ret = true) (hs : r.serial = x.serial) : r = x := by
  obtain ⟨h2, h3⟩ := (mem_ops h).1 hx
  cases c : x.ret with
  | true => exact ret_unique h hr h2 h1 c hs
  | false => exact absurd hs (h3 c r hr h1)
theorem before_alone {b : Int} {x y : Evt} (hx : x ∈ operationsM l) (hy : y ∈ operationsM l) (bx : inB b x = true) (by_ : inB b y = true) : beforeM (aloneM l b) x.serial y.serial = beforeM l x.serial y.serial := by
  rw [Bool.eq_iff_iff, before_iff h, before_iff (alone_right h b)]
  unfold aloneM restrictM
  constructor
  · rintro ⟨r, e, h1, h2⟩
    obtain ⟨u, v, h3, rfl, rfl⟩ := ord_map.1 h1
    exact ⟨u, v, (ord_filter.1 h3).2.2, h2⟩
  · rintro ⟨r, e, h1, h2, h3, h4, h5⟩
    have q1 := ops_ret_eq h hx (ord_mem h1).1 h2 h3
    obtain ⟨q2, q3⟩ := ops_inv h hy (ord_mem h1).2 h4 h5
    have b1 : inB b r = true := by rw [q1]; exact bx
    have b2 : inB b e = true := by rw [← by_]; unfold inB; rw [q2, q3]
    exact ⟨zeroE r, zeroE e, ord_map.2 ⟨r, e, ord_filter.2 ⟨b1, b2, h1⟩, rfl, rfl⟩, h2, h3, h4, h5⟩
end
end Go.Proofs
end

section
open Go Go.Am
namespace Go.Proofs
/-! ### commands on one block of many -/
theorem inB_spec {b : Int} {x : Evt} : inB b x = true ↔ x.block = b ∧ 1 ≤ x.kind ∧ x.kind ≤ 3 := by
  unfold inB
  simp only [Bool.and_eq_true, Bool.or_eq_true, decide_eq_true_eq]
  omega
theorem cmdV_block {n k b : Int} {d : ByteArray} (hk : 1 ≤ k ∧ k ≤ 3) (hb : 0 ≤ b ∧ b < n) : cmdV n k b d = cmdV 1 k 0 d := by
  unfold cmdV
  rw [if_neg (by omega : ¬(k < 1 ∨ 4 < k)), if_neg (by omega : ¬(k = 4 ∧ b ≠ 0 ∨ k ≠ 4 ∧ (b < 0 ∨ n ≤ b)))]
  conv => rhs; rw [if_neg (by omega : ¬(k < 1 ∨ 4 < k)), if_neg (by omega : ¬(k = 4 ∧ (0 : Int) ≠ 0 ∨ k ≠ 4 ∧ ((0 : Int) < 0 ∨ (1 : Int) ≤ 0)))]
theorem step_block {bs : List ByteArray} {x : Evt} {b : Nat} (hb : b < bs.length) (hx : inB b x = true) :
    stepOk bs x = stepOk [bs.getD b ByteArray.empty] (zeroE x) ∧ stepB bs x = bs.set b (nextV (bs.getD b ByteArray.empty) (zeroE x)) := by
  obtain ⟨h1, h2, h3⟩ := inB_spec.1 hx
  have hc : cmdV (bs.length : Int) x.kind x.block x.data = cmdV 1 x.kind 0 x.data := cmdV_block ⟨h2, h3⟩ (by omega)
  have ht : x.block.toNat = b := by omega
  have hl : (([bs.getD b ByteArray.empty] : List ByteArray).length : Int) = 1 := rfl
  refine ⟨?_, ?_⟩
  · unfold stepOk appE appD
    show _ = (!x.ret || (decide (cmdV (([bs.getD b ByteArray.empty] : List ByteArray).length : Int) x.kind 0 x.data = x.err) && decide ((if cmdV (([bs.getD b ByteArray.empty] : List ByteArray).length : Int) x.kind 0 x.data ≠ 0 then ByteArray.empty else if x.kind = 1 then ([bs.getD b ByteArray.empty] : List ByteArray).getD (0 : Int).toNat ByteArray.empty else ByteArray.empty) = x.rdata)))
    rw [hl, hc, ht]
    rfl
  · unfold nextV stepB
    show appB bs x.kind x.block x.data = bs.set b ((appB [bs.getD b ByteArray.empty] x.kind 0 x.data).getD 0 ByteArray.empty)
    unfold appB
    rw [hl, hc, ht]
    have hset : bs.set b (bs.getD b ByteArray.empty) = bs := by
      have : bs.getD b ByteArray.empty = bs[b] := by simp [List.getD, hb]
      rw [this]; exact List.set_getElem_self hb
    by_cases c0 : cmdV 1 x.kind 0 x.data ≠ 0
    · rw [if_pos c0, if_pos c0]; exact hset.symm
    · rw [if_neg c0, if_neg c0]
      by_cases c2 : x.kind = 2
      · rw [if_pos c2, if_pos c2]; rfl
      · rw [if_neg c2, if_neg c2]
        by_cases c3 : x.kind = 3
        · rw [if_pos c3, if_pos c3]; rfl
        · rw [if_neg c3, if_neg c3]; exact hset.symm
def runB (bs : List ByteArray) (xs : List Evt) : List ByteArray := xs.foldl stepB bs
def runOk (bs : List ByteArray) : List Evt → Bool
  | [] => true
  | x :: r => stepOk bs x && runOk (stepB bs x) r
def partE (b : Int) (xs : List Evt) : List Evt := (xs.filter (inB b)).map zeroE
def Neutral (n : Nat) (x : Evt) : Prop := (∀ b : Int, inB b x = false) ∧ ∀ bs : List ByteArray, bs.length = n → stepOk bs x = true ∧ stepB bs x = bs
theorem run_split : ∀ {xs : List Evt} {bs : List ByteArray}, (∀ x ∈ xs, (∃ b : Nat, b < bs.length ∧ inB b x = true) ∨ Neutral bs.length x) → (∀ b : Nat, b < bs.length → runOk [bs.getD b ByteArray.empty] (partE b xs) = true) → runOk bs xs = true
  | [], _, _, _ => rfl
  | x :: r, bs, hx, hr => by
    rw [runOk, Bool.and_eq_true]
    have hlen : (stepB bs x).length = bs.length := appB_len _ _ _ _
    rcases hx x (by simp) with ⟨b, hb, hi⟩ | ⟨hn, hs⟩
    · obtain ⟨s1, s2⟩ := step_block hb hi
      have h0 := hr b hb
      unfold partE at h0
      rw [List.filter_cons_of_pos hi, List.map_cons, runOk, Bool.and_eq_true] at h0
      refine ⟨by rw [s1]; exact h0.1, run_split (fun y hy => by rw [hlen]; exact hx y (by simp [hy])) fun c hc => ?_⟩
      rw [hlen] at hc
      rw [s2]
      by_cases e : c = b
      · subst e
        have : (bs.set c (nextV (bs.getD c ByteArray.empty) (zeroE x))).getD c ByteArray.empty = nextV (bs.getD c ByteArray.empty) (zeroE x) := by simp [List.getD, hc]
        rw [this]
        have h2 := h0.2
        rw [stepB_one] at h2
        exact h2
      · have : (bs.set b (nextV (bs.getD b ByteArray.empty) (zeroE x))).getD c ByteArray.empty = bs.getD c ByteArray.empty := by
          simp only [List.getD]
          rw [List.getElem?_set_ne (by omega)]
        rw [this]
        have h1 := hr c hc
        unfold partE at h1
        rw [List.filter_cons_of_neg] at h1
        · exact h1
        · obtain ⟨q1, -⟩ := inB_spec.1 hi
          intro q
          obtain ⟨q2, -⟩ := inB_spec.1 q
          omega
    · obtain ⟨s1, s2⟩ := hs bs rfl
      refine ⟨s1, ?_⟩
      rw [s2]
      refine run_split (fun y hy => hx y (by simp [hy])) fun c hc => ?_
      have h1 := hr c hc
      unfold partE at h1
      rw [List.filter_cons_of_neg (by rw [hn]; simp)] at h1
      exact h1
/-! ### orders as lists of operations -/
structure LinO (bs : List ByteArray) (l : List Evt) (xs : List Evt) : Prop where
  mem : ∀ x ∈ xs, x ∈ operationsM l ∧ canE x = true
  nodup : (xs.map Evt.serial).Nodup
  ord : xs.Pairwise fun a b => beforeM l b.serial a.serial = false
  all : ∀ y ∈ operationsM l, mustE y = true → y ∈ xs
  run : runOk bs xs = true
theorem runB_snoc (bs : List ByteArray) (xs : List Evt) (x : Evt) : runB bs (xs ++ [x]) = stepB (runB bs xs) x := by simp [runB]
theorem runOk_get : ∀ {xs : List Evt} {bs : List ByteArray}, runOk bs xs = true → ∀ k, k < xs.length → stepOk (runB bs (xs.take k)) (xs.getD k default) = true
  | [], _, _, k, hk => absurd hk (Nat.not_lt_zero _)
  | x :: r, bs, h, k, hk => by
    rw [runOk, Bool.and_eq_true] at h
    match k with
    | 0 => exact h.1
    | k + 1 => exact runOk_get h.2 k (by simpa using hk)
theorem runOk_snoc : ∀ {xs : List Evt} {bs : List ByteArray} {x : Evt}, runOk bs (xs ++ [x]) = (runOk bs xs && stepOk (runB bs xs) x)
  | [], bs, x => by simp [runOk, runB]
  | y :: r, bs, x => by
    rw [List.cons_append, runOk, runOk, runOk_snoc, Bool.and_assoc]; rfl
theorem serial_at {xs : List Evt} {k : Nat} (hk : k < xs.length) : (xs.map Evt.serial).getD k default = (xs.getD k default).serial := by simp [List.getD, hk]
theorem stAt_run {l : List Evt} {bs : List ByteArray} {xs : List Evt} (hx : ∀ x ∈ xs, x ∈ operationsM l) : ∀ k, k ≤ xs.length → stAt (operationsM l) bs (xs.map Evt.serial) k = runB bs (xs.take k)
  | 0, _ => rfl
  | k + 1, hk => by
    have hk' : k < xs.length := by omega
    rw [stAt, stAt_run hx k (by omega), serial_at hk', getE_of (operations_nodup l) (hx _ (idx_mem hk')), getD_snoc_take hk', runB_snoc]
theorem lin_check {bs : List ByteArray} {l : List Evt} {xs : List Evt} (hs : sizesM bs l = 0) (h : LinO bs l xs) : rcheckM bs l (xs.map Evt.serial) = 0 := by
  unfold rcheckM
  rw [if_neg (by rw [hs]; simp), if_pos]
  have hn := operations_nodup l
  refine ⟨?_, ?_⟩
  · rw [allK_iff]
    intro i hi
    unfold mustIn
    cases hm : mustE ((operationsM l).getD i default) with
    | false => rfl
    | true =>
      have := h.all _ (idx_mem hi) hm
      simp only [Bool.not_true, Bool.false_or, hasI, decide_eq_true_eq]
      exact List.mem_map_of_mem this
  · rw [allK_iff]
    intro k hk
    have hk' : k < xs.length := by simpa using hk
    obtain ⟨m1, m2⟩ := h.mem _ (idx_mem hk')
    unfold refGood
    rw [serial_at hk', getE_of hn m1, m2, stAt_run (fun x hx => (h.mem x hx).1) k (by omega), runOk_get h.run k hk']
    simp only [Bool.and_true, Bool.and_eq_true, Bool.not_eq_true', decide_eq_true_eq]
    refine ⟨⟨hasE_iff.2 ⟨_, m1, rfl⟩, ?_⟩, ?_⟩
    · unfold hasI
      rw [decide_eq_false_iff_not, ← List.map_take, List.mem_map]
      rintro ⟨y, hy, hys⟩
      obtain ⟨j, hj, rfl⟩ := List.getElem_of_mem hy
      rw [List.length_take] at hj
      have hjl : j < xs.length := by omega
      rw [List.getElem_take] at hys
      have := (List.getElem?_inj (l := xs.map Evt.serial) (by simpa using hjl) h.nodup (j := k)).1 (by rw [getD_at hk'] at hys; simp [hjl, hk', hys])
      omega
    · rw [allK_iff]
      intro j hj
      rw [serial_at (by omega)]
      have := (List.pairwise_iff_getElem.1 h.ord) j k (by omega) hk' hj
      rw [getD_at hk', getD_at (by omega), this]
      rfl
/-- What a search has found, as a list of operations. -/
theorem path_events {l : List Evt} {v w : ByteArray} {o : List Int} (h : Path l v o w) : ∃ xs, o = xs.map Evt.serial ∧ (∀ x ∈ xs, x ∈ operationsM l ∧ canE x = true) ∧ o.Nodup ∧ xs.Pairwise (fun a b => beforeM l b.serial a.serial = false) ∧ (∀ a ∈ xs, ∀ y ∈ operationsM l, mustE y = true → beforeM l y.serial a.serial = true → y.serial ∈ o) ∧ runOk [v] xs = true ∧ runB [v] xs = [w] := by
  induction h with
  | nil => exact ⟨[], rfl, fun x hx => by simp at hx, List.nodup_nil, List.Pairwise.nil, fun x hx => by simp at hx, rfl, rfl⟩
  | @snoc o u x _ hx hc hn hb hs ih =>
    obtain ⟨xs, rfl, h1, h2, h3, h4, h5, h6⟩ := ih
    refine ⟨xs ++ [x], by simp, fun y hy => ?_, ?_, ?_, fun a ha y hy hm hya => ?_, ?_, ?_⟩
    · rcases List.mem_append.1 hy with q | q
      · exact h1 y q
      · simp at q; subst q; exact ⟨hx, hc⟩
    · rw [List.nodup_append]
      refine ⟨h2, by simp, fun a ha b hb' => ?_⟩
      simp at hb'; subst hb'
      exact fun q => hn (q ▸ ha)
    · rw [List.pairwise_append]
      refine ⟨h3, by simp, fun a ha b hb' => ?_⟩
      simp at hb'; subst hb'
      rw [← Bool.not_eq_true]
      intro q
      exact hn (h4 a ha b hx (must_of_can hc (ops_ret hx q)) q)
    · rcases List.mem_append.1 ha with q | q
      · exact List.mem_append.2 (.inl (h4 a q y hy hm hya))
      · simp at q; subst q
        exact List.mem_append.2 (.inl (hb y hy hm hya))
    · rw [runOk_snoc, h5, h6, hs]; rfl
    · rw [runB_snoc, h6, stepB_one]
theorem single_sizes {v : ByteArray} {l : List Evt} (h : singleM v l = true) : sizesM [v] l = 0 := by
  unfold singleM at h
  simp only [Bool.and_eq_true, decide_eq_true_eq] at h
  exact h.1.1
/-- The order that is found for one block is a linearization. -/
theorem block_right {v : ByteArray} {l : List Evt} (h : (blockM v l).2 = true) : rcheckM [v] l (blockM v l).1 = 0 := by
  obtain ⟨hs, w, h1, h2⟩ := blockM_path h
  obtain ⟨xs, e, m, n, p, -, r, -⟩ := path_events h1
  rw [e] at h2 n ⊢
  refine lin_check (single_sizes hs) ⟨m, n, p, fun y hy hm => ?_, r⟩
  obtain ⟨x, hx, hxs⟩ := List.mem_map.1 (h2 y hy hm)
  rw [← serial_inj (operations_nodup l) (m x hx).1 hy hxs]
  exact hx
end Go.Proofs
end

section
open Go Go.Am
namespace Go.Proofs
/-! ### the merge never sticks -/
def InO (os : List (List Int)) (s : Int) : Prop := ∃ j, j < os.length ∧ s ∈ os.getD j default
structure OrdsOk (l : List Evt) (os : List (List Int)) : Prop where
  nodup : ∀ j, j < os.length → (os.getD j default).Nodup
  apart : ∀ j k, j < os.length → k < os.length → j ≠ k → ∀ s ∈ os.getD j default, s ∉ os.getD k default
  ord : ∀ j, j < os.length → (os.getD j default).Pairwise fun a b => beforeM l b a = false
theorem min_ex {α : Type} (P : α → Prop) (f : α → Nat) : ∀ (n : Nat) (x : α), f x ≤ n → P x → ∃ x, P x ∧ ∀ y, P y → f x ≤ f y
  | 0, x, hn, hx => ⟨x, hx, fun y _ => by omega⟩
  | n + 1, x, hn, hx => by
    by_cases c : ∃ y, P y ∧ f y < f x
    · obtain ⟨y, h1, h2⟩ := c
      exact min_ex P f n y (by omega) h1
    · refine ⟨x, hx, fun y hy => ?_⟩
      rcases Nat.lt_or_ge (f y) (f x) with d | d
      · exact absurd ⟨y, hy, d⟩ c
      · exact d
theorem freeB_iff {l : List Evt} {os : List (List Int)} {o : List Int} : freeB l os o = true ↔ 0 < o.length ∧ ∀ s, InO os s → s ≠ o.getD 0 default → beforeM l s (o.getD 0 default) = false := by
  unfold freeB
  rw [Bool.and_eq_true, decide_eq_true_eq]
  have : (!os.any (blkL l (o.getD 0 default))) = true ↔ ∀ s, InO os s → s ≠ o.getD 0 default → beforeM l s (o.getD 0 default) = false := by
    rw [Bool.not_eq_true', ← Bool.not_eq_true, List.any_eq_true]
    constructor
    · rintro h s ⟨j, hj, hs⟩ hne
      rw [← Bool.not_eq_true]
      intro hb
      refine h ⟨os.getD j default, by rw [getD_at hj]; exact List.getElem_mem hj, ?_⟩
      unfold blkL
      rw [List.any_eq_true]
      exact ⟨s, hs, by unfold blkB; rw [hb, decide_eq_true hne]; rfl⟩
    · rintro h ⟨xs, hx, hb⟩
      unfold blkL at hb
      rw [List.any_eq_true] at hb
      obtain ⟨s, hs, hb⟩ := hb
      unfold blkB at hb
      rw [Bool.and_eq_true, decide_eq_true_eq] at hb
      obtain ⟨j, hj, rfl⟩ := List.getElem_of_mem hx
      rw [h s ⟨j, hj, by rw [getD_at hj]; exact hs⟩ hb.1] at hb
      exact absurd hb.2 (by simp)
  rw [this]
theorem idxL_none {p : List Int → Bool} {xs : List (List Int)} : ∀ {k : Nat}, idxL p xs k = none → ∀ i, i < k → p (xs.getD i default) = false
  | 0, _, i, hi => absurd hi (Nat.not_lt_zero _)
  | k + 1, h, i, hi => by
    rw [idxL] at h
    cases hc : idxL p xs k with
    | some j => rw [hc] at h; cases h
    | none =>
      rw [hc] at h
      by_cases c : p (xs.getD k default) = true
      · simp only [c, if_true] at h; cases h
      · by_cases d : i = k
        · subst d; simpa using c
        · exact idxL_none hc i (by omega)
theorem merge_goes {l : List Evt} {os : List (List Int)} (hl : ∀ s, beforeM l s s = false) (h : OrdsOk l os) (hno : idxL (freeB l os) os os.length = none) : ∀ s, ¬ InO os s := by
  have hfree := fun i hi => idxL_none hno i hi
  have stuck : ∀ j, j < os.length → 0 < (os.getD j default).length → ∃ s, InO os s ∧ s ≠ (os.getD j default).getD 0 default ∧ beforeM l s ((os.getD j default).getD 0 default) = true := by
    intro j hj hpos
    refine Classical.byContradiction fun hc => ?_
    have := hfree j hj
    rw [← Bool.not_eq_true] at this
    refine this (freeB_iff.2 ⟨hpos, fun s hs hne => ?_⟩)
    rw [← Bool.not_eq_true]
    exact fun hb => hc ⟨s, hs, hne, hb⟩
  rintro s0 ⟨j0, hj0, hs0⟩
  -- there is one that was answered
  obtain ⟨s1, i1, -, b1⟩ := stuck j0 hj0 (List.length_pos_of_mem hs0)
  have before_ret : ∀ {s t : Int}, beforeM l s t = true → (placesF l true).has s = true ∧ (placesF l false).has t = true ∧ (placesF l true).get s < (placesF l false).get t := fun hb => by
    unfold beforeM at hb
    simp only [Bool.and_eq_true, decide_eq_true_eq] at hb
    exact ⟨hb.1.1, hb.1.2, hb.2⟩
  obtain ⟨t, ⟨⟨j, hj, ht⟩, hr⟩, hmin⟩ := min_ex (fun s => InO os s ∧ (placesF l true).has s = true) (fun s => ((placesF l true).get s).toNat) _ s1 (Nat.le_refl _) ⟨i1, (before_ret b1).1⟩
  obtain ⟨x, hx, hne, hb⟩ := stuck j hj (List.length_pos_of_mem ht)
  obtain ⟨p1, p2, p3⟩ := before_ret hb
  have hle := hmin x ⟨hx, p1⟩
  have g1 := (placesF_range p1).1
  have g2 := (placesF_range hr).1
  have hbt : beforeM l t ((os.getD j default).getD 0 default) = true := by
    unfold beforeM
    rw [hr, p2, decide_eq_true (by omega)]; rfl
  have hord := h.ord j hj
  generalize os.getD j default = o at *
  cases o with
  | nil => cases ht
  | cons a r =>
    have e0 : (a :: r).getD 0 default = a := rfl
    rw [e0] at hbt
    rcases List.mem_cons.1 ht with rfl | ht'
    · rw [hl] at hbt; cases hbt
    · rw [List.pairwise_cons] at hord
      rw [hord.1 t ht'] at hbt; cases hbt
theorem set_getD {os : List (List Int)} {i j : Nat} {t : List Int} (hi : i < os.length) : (os.set i t).getD j default = if j = i then t else os.getD j default := by
  by_cases c : j = i
  · subst c; simp [List.getD, hi]
  · rw [if_neg c]
    simp only [List.getD]
    rw [List.getElem?_set_ne (by omega)]
theorem merge_ok {l : List Evt} (hl : ∀ s, beforeM l s s = false) : ∀ (f : Nat) (os : List (List Int)) (out : List Int), totM os ≤ f → OrdsOk l os →
    ∃ w, mergeM l f os out = out ++ w ∧ (∀ s, s ∈ w ↔ InO os s) ∧ w.Nodup ∧ w.Pairwise (fun a b => beforeM l b a = false) ∧
      ∀ (p : Int → Bool) (m : Nat), m < os.length → (∀ s ∈ os.getD m default, p s = true) → (∀ j, j < os.length → j ≠ m → ∀ s ∈ os.getD j default, p s = false) → w.filter p = os.getD m default := by
  have done : ∀ (os : List (List Int)), (∀ s, ¬ InO os s) → (∀ s, s ∈ ([] : List Int) ↔ InO os s) ∧ ([] : List Int).Nodup ∧ ([] : List Int).Pairwise (fun a b => beforeM l b a = false) ∧
      ∀ (p : Int → Bool) (m : Nat), m < os.length → (∀ s ∈ os.getD m default, p s = true) → (∀ j, j < os.length → j ≠ m → ∀ s ∈ os.getD j default, p s = false) → ([] : List Int).filter p = os.getD m default := fun os hn => by
    refine ⟨fun s => ⟨fun q => (by cases q), fun q => absurd q (hn s)⟩, List.nodup_nil, List.Pairwise.nil, fun p m hm _ _ => ?_⟩
    cases ho : os.getD m default with
    | nil => rfl
    | cons a r => exact absurd ⟨m, hm, by rw [ho]; simp⟩ (hn a)
  intro f
  induction f with
  | zero =>
    intro os out hf h
    have tot0 : ∀ (os : List (List Int)) (j : Nat), totM os ≤ 0 → j < os.length → os.getD j default = [] := by
      intro os
      induction os with
      | nil => intro j _ hj; simp at hj
      | cons o r ih =>
        intro j h0 hj
        rw [totM] at h0
        match j with
        | 0 => rw [List.getD_cons_zero]; exact List.length_eq_zero_iff.1 (by omega)
        | j + 1 => rw [List.getD_cons_succ]; exact ih j (by omega) (by simpa using hj)
    refine ⟨[], by rw [mergeM]; simp, done os ?_⟩
    rintro s ⟨j, hj, hs⟩
    rw [tot0 os j hf hj] at hs
    cases hs
  | succ f ih =>
    intro os out hf h
    rw [mergeM]
    cases hi : idxL (freeB l os) os os.length with
    | none => exact ⟨[], by simp, done os (merge_goes hl h hi)⟩
    | some i =>
      obtain ⟨hil, hfree⟩ := idxL_some hi
      obtain ⟨hpos, hfr⟩ := freeB_iff.1 hfree
      have htot := totM_set hil hpos
      obtain ⟨a, r, ho⟩ : ∃ a r, os.getD i default = a :: r := by
        cases ho : os.getD i default with
        | nil => rw [ho] at hpos; simp at hpos
        | cons a r => exact ⟨a, r, rfl⟩
      have e0 : (a :: r).getD 0 default = a := rfl
      have hfi := hfr
      rw [ho] at htot hfr
      dsimp only
      rw [ho, e0]
      rw [e0] at hfr
      rw [show (a :: r).drop 1 = r from rfl] at htot ⊢
      have hnd := h.nodup i hil
      have hor := h.ord i hil
      rw [ho] at hnd hor
      rw [List.nodup_cons] at hnd
      rw [List.pairwise_cons] at hor
      have hget : ∀ j, (os.set i r).getD j default = if j = i then r else os.getD j default := fun j => set_getD hil
      have hsub : ∀ j, ∀ s ∈ (os.set i r).getD j default, s ∈ os.getD j default := fun j s hs => by
        rw [hget] at hs
        by_cases c : j = i
        · subst c; rw [if_pos rfl] at hs; rw [ho]; exact List.mem_cons_of_mem _ hs
        · rwa [if_neg c] at hs
      have h' : OrdsOk l (os.set i r) := by
        refine ⟨fun j hj => ?_, fun j k hj hk hjk s hs hs' => ?_, fun j hj => ?_⟩
        · rw [List.length_set] at hj
          rw [hget]
          by_cases c : j = i
          · rw [if_pos c]; exact hnd.2
          · rw [if_neg c]; exact h.nodup j hj
        · rw [List.length_set] at hj hk
          exact h.apart j k hj hk hjk s (hsub j s hs) (hsub k s hs')
        · rw [List.length_set] at hj
          rw [hget]
          by_cases c : j = i
          · rw [if_pos c]; exact hor.2
          · rw [if_neg c]; exact h.ord j hj
      obtain ⟨w, w1, w2, w3, w4, w5⟩ := ih (os.set i r) (out ++ [a]) (by omega) h'
      have hin : ∀ s, InO (os.set i r) s → InO os s := fun s ⟨j, hj, hs⟩ => ⟨j, by simpa using hj, hsub j s hs⟩
      have hanot : ¬ InO (os.set i r) a := by
        rintro ⟨j, hj, hs⟩
        rw [List.length_set] at hj
        by_cases c : j = i
        · subst c; rw [hget, if_pos rfl] at hs; exact hnd.1 hs
        · exact h.apart j i hj hil c a (hsub j a hs) (by rw [ho]; simp)
      refine ⟨a :: w, by rw [w1]; simp, fun s => ?_, ?_, ?_, fun p m hm hp hq => ?_⟩
      · rw [List.mem_cons, w2]
        constructor
        · rintro (rfl | q)
          · exact ⟨i, hil, by rw [ho]; simp⟩
          · exact hin s q
        · rintro ⟨j, hj, hs⟩
          by_cases c : j = i
          · subst c
            rw [ho] at hs
            rcases List.mem_cons.1 hs with q | q
            · exact .inl q
            · exact .inr ⟨j, by simpa using hj, by rw [hget, if_pos rfl]; exact q⟩
          · exact .inr ⟨j, by simpa using hj, by rw [hget, if_neg c]; exact hs⟩
      · rw [List.nodup_cons]
        exact ⟨fun q => hanot ((w2 a).1 q), w3⟩
      · rw [List.pairwise_cons]
        refine ⟨fun b hb => ?_, w4⟩
        have hb' := (w2 b).1 hb
        exact hfr b (hin b hb') fun q => hanot (q ▸ hb')
      · by_cases c : m = i
        · subst c
          rw [ho] at hp ⊢
          rw [List.filter_cons_of_pos (hp a (by simp))]
          have := w5 p m (by simpa using hm) (fun s hs => by rw [hget, if_pos rfl] at hs; exact hp s (by simp [hs])) (fun j hj hjm s hs => hq j (by simpa using hj) hjm s (hsub j s hs))
          rw [this, hget, if_pos rfl]
        · have hpa : p a = false := hq i hil (fun q => c q.symm) a (by rw [ho]; simp)
          rw [List.filter_cons_of_neg (by rw [hpa]; simp)]
          have := w5 p m (by simpa using hm) (fun s hs => by rw [hget, if_neg c] at hs; exact hp s hs) (fun j hj hjm s hs => hq j (by simpa using hj) hjm s (hsub j s hs))
          rw [this, hget, if_neg c]
end Go.Proofs
end

section
open Go Go.Am
namespace Go.Proofs
theorem single_few {v : ByteArray} {l : List Evt} (h : singleM v l = true) : (operationsM l).length ≤ 20 := by
  unfold singleM at h
  simp only [Bool.and_eq_true, decide_eq_true_eq] at h
  exact h.2
def bsAt (bs : List ByteArray) (i : Nat) : ByteArray := bs.getD i ByteArray.empty
def cmdB (n : Int) (ops : List Evt) (i : Nat) : Bool := !mustE (ops.getD i default) || decide (cmdV n (ops.getD i default).kind (ops.getD i default).block (ops.getD i default).data = 0)
/-! ### the order of a whole history -/
def ordsM (bs : List ByteArray) (l : List Evt) : Nat → List (List Int)
  | 0 => []
  | k + 1 => ordsM bs l k ++ [(blockM (bsAt bs k) (aloneM l k)).1]
def foundM (bs : List ByteArray) (l : List Evt) (i : Nat) : Bool := (blockM (bsAt bs i) (aloneM l i)).2
def flushE (e : Evt) : Bool := mustE e && decide (e.kind = 4)
def flushM (l : List Evt) : List Int := ((operationsM l).filter flushE).map Evt.serial
def allO (bs : List ByteArray) (l : List Evt) : List (List Int) := ordsM bs l bs.length ++ [flushM l]
def findOk (bs : List ByteArray) (l : List Evt) : Prop := sizesM bs l = 0 ∧ allK (foundM bs l) bs.length = true ∧ allK (cmdB bs.length (operationsM l)) (operationsM l).length = true
instance (bs : List ByteArray) (l : List Evt) : Decidable (findOk bs l) := by unfold findOk; infer_instance
def findM (bs : List ByteArray) (l : List Evt) : List Int × Bool := if findOk bs l then (mergeM l (totM (allO bs l)) (allO bs l) [], true) else ([], false)
theorem ordsM_len (bs : List ByteArray) (l : List Evt) : ∀ k, (ordsM bs l k).length = k
  | 0 => rfl
  | k + 1 => by rw [ordsM, List.length_append, ordsM_len bs l k]; rfl
theorem ordsM_get (bs : List ByteArray) (l : List Evt) : ∀ {k i : Nat}, i < k → (ordsM bs l k).getD i default = (blockM (bsAt bs i) (aloneM l i)).1
  | 0, i, h => absurd h (Nat.not_lt_zero _)
  | k + 1, i, h => by
    rw [ordsM]
    by_cases c : i < k
    · rw [getD_snoc_lt (by rw [ordsM_len]; exact c), ordsM_get bs l c]
    · have : i = k := by omega
      subst this
      have := getD_snoc_eq (l := ordsM bs l i) (x := (blockM (bsAt bs i) (aloneM l i)).1)
      rwa [ordsM_len] at this
theorem sizes_right {bs : List ByteArray} {l : List Evt} (h : sizesM bs l = 0) : RightO l ∧ 1 ≤ bs.length ∧ bs.length ≤ 128 ∧ l.length ≤ 400 ∧ ∀ b ∈ bs, b.size = 16 := by
  unfold sizesM at h
  by_cases c : checkM bs.length l = 0
  · rw [if_pos c] at h
    have hb : bs.all (fun b => decide (b.size = 16)) = true := by
      cases hq : bs.all (fun b => decide (b.size = 16)) with
      | true => rfl
      | false => rw [hq] at h; simp at h
    unfold checkM at c
    by_cases c1 : ((bs.length : Int) < 1 ∨ 128 < (bs.length : Int))
    · rw [if_pos c1] at c; omega
    rw [if_neg c1] at c
    by_cases c2 : 400 < l.length
    · rw [if_pos c2] at c; omega
    rw [if_neg c2] at c
    by_cases c3 : rightTo l l.length = true
    · refine ⟨(Right.of c3).o, by omega, by omega, by omega, fun b hb' => ?_⟩
      rw [List.all_eq_true] at hb
      exact of_decide_eq_true (hb b hb')
    · rw [if_neg c3] at c; omega
  · rw [if_neg c] at h; exact absurd h c
theorem inv_ret {l : List Evt} (h : RightO l) {s : Int} (hs : (placesF l true).has s = true) : (placesF l false).get s < (placesF l true).get s := by
  have hR := h.i
  obtain ⟨i, i1, i2, i3, i4, -⟩ := placesM_get l true l.length _ hs
  obtain ⟨j, j1, j2, j3, -⟩ := hR.open_ i i1 i3
  have hh : (placesF l false).has s = true := (placesM_has l false _ _).2 ⟨j, by omega, j2, j3.trans i4⟩
  obtain ⟨k, k1, k2, k3, k4, k5⟩ := placesM_get l false l.length _ hh
  have e1 : (placesF l true).get s = i := i2
  have e2 : (placesF l false).get s = k := k2
  rw [e1, e2]
  have : k ≤ j := by
    rcases Nat.lt_or_ge j k with c | c
    · exact absurd (j3.trans i4) (k5 j c j2)
    · exact c
  omega
theorem inv_at {l : List Evt} (h : RightO l) {i : Nat} (hi : i < l.length) (hr : (l.getD i default).ret = false) : (placesF l false).get (l.getD i default).serial = i :=
  (get_iff hi hr).2 (placesM_not.2 fun k hk hkr => h.i.inv k i hk hi hkr hr)
theorem pair_ord {α : Type} {R : α → α → Prop} : ∀ {l : List α}, (∀ a b, Ord l a b → R a b) → l.Pairwise R
  | [], _ => List.Pairwise.nil
  | x :: l, h => List.Pairwise.cons (fun y hy => h x y (.inl ⟨rfl, hy⟩)) (pair_ord fun a b hab => h a b (.inr hab))
theorem begun_filter {l : List Evt} (h : RightO l) : begunM l = l.filter fun e => !e.ret := by
  have key : ∀ k, k ≤ l.length → begunTo l k = (l.take k).filter fun e => !e.ret := by
    intro k
    induction k with
    | zero => intro _; rfl
    | succ k ih =>
      intro hk
      have ih := ih (by omega)
      rw [getD_snoc_take (show k < l.length by omega), List.filter_append, ← ih]
      by_cases c : (l.getD k default).ret = false
      · rw [begunTo_yes (by omega) c (placesM_not.2 fun i hi hr => h.i.inv i k hi (by omega) hr c), List.filter_cons_of_pos (by rw [c]; rfl)]
        rfl
      · rw [begunTo_no (by omega) (.inl (by simpa using c)), List.filter_cons_of_neg (by simpa using c)]
        simp
  unfold begunM
  rw [key _ (Nat.le_refl _), List.take_length]
/-- Operations are in the order of their invocations. -/
theorem ops_inc {l : List Evt} (h : RightO l) : (operationsM l).Pairwise fun a b => (placesF l false).get a.serial < (placesF l false).get b.serial := by
  unfold operationsM
  rw [begun_filter h, List.pairwise_map]
  refine pair_ord fun a b hab => ?_
  obtain ⟨h1, h2, h3⟩ := ord_filter.1 hab
  obtain ⟨i, j, i1, i2, rfl, rfl⟩ := ord_idx.1 h3
  rw [opOf_serial, opOf_serial, inv_at h (by omega) (by simpa using h1), inv_at h i2 (by simpa using h2)]
  omega
theorem not_before {l : List Evt} (h : RightO l) {s t : Int} (hst : (placesF l false).get s < (placesF l false).get t) : beforeM l t s = false := by
  rw [← Bool.not_eq_true]
  intro hb
  unfold beforeM at hb
  simp only [Bool.and_eq_true, decide_eq_true_eq] at hb
  have := inv_ret h hb.1.1
  omega
theorem zero_must (x : Evt) : mustE (zeroE x) = mustE x := rfl
theorem zero_can (x : Evt) : canE (zeroE x) = canE x := rfl
theorem zero_zero (x : Evt) : zeroE (zeroE x) = zeroE x := rfl
theorem inB_one {b c : Int} {x : Evt} (h : inB b x = true) (h' : inB c x = true) : b = c := by
  have := (inB_spec.1 h).1
  have := (inB_spec.1 h').1
  omega
theorem find_right {bs : List ByteArray} {l : List Evt} (h : (findM bs l).2 = true) : rcheckM bs l (findM bs l).1 = 0 := by
  unfold findM at h ⊢
  by_cases c : findOk bs l
  case neg => rw [if_neg c] at h; cases h
  rw [if_pos c]
  obtain ⟨hs, hf, hc⟩ := c
  obtain ⟨hR, n1, n2, -, -⟩ := sizes_right hs
  have hn := operations_nodup l
  rw [allK_iff] at hf hc
  have hx : ∀ b : Nat, b < bs.length → ∃ xs, (allO bs l).getD b default = xs.map Evt.serial ∧ (∀ x ∈ xs, ∃ y ∈ operationsM l, canE y = true ∧ inB b y = true ∧ x = zeroE y) ∧ (xs.map Evt.serial).Nodup ∧ (xs.map Evt.serial).Pairwise (fun a b => beforeM l b a = false) ∧ runOk [bs.getD b ByteArray.empty] xs = true ∧ (∀ y ∈ operationsM l, inB b y = true → mustE y = true → y.serial ∈ xs.map Evt.serial) := by
    intro b hb
    obtain ⟨hsg, w, h1, h2⟩ := blockM_path (hf b hb)
    obtain ⟨xs, e, m, nd, p, -, r, -⟩ := path_events h1
    have m' : ∀ x ∈ xs, ∃ y ∈ operationsM l, canE y = true ∧ inB b y = true ∧ x = zeroE y := fun x hx => by
      obtain ⟨m1, m2⟩ := m x hx
      obtain ⟨y, y1, y2, rfl⟩ := (mem_alone hR).1 m1
      exact ⟨y, y1, m2, y2, rfl⟩
    refine ⟨xs, ?_, m', e ▸ nd, ?_, r, fun y hy hyb hym => ?_⟩
    · unfold allO
      rw [getD_snoc_lt (by rw [ordsM_len]; exact hb), ordsM_get bs l hb, e]
    · rw [List.pairwise_map]
      refine p.imp_of_mem fun {a b'} ha hb' hab => ?_
      obtain ⟨y, y1, -, y3, rfl⟩ := m' a ha
      obtain ⟨z, z1, -, z3, rfl⟩ := m' b' hb'
      have := before_alone hR z1 y1 z3 y3
      exact this.symm.trans hab
    · rw [← e]
      exact h2 (zeroE y) ((mem_alone hR).2 ⟨y, hy, hyb, rfl⟩) hym
  have hfl : (allO bs l).getD bs.length default = flushM l := by
    have := getD_snoc_eq (l := ordsM bs l bs.length) (x := flushM l)
    rwa [ordsM_len] at this
  have hlen : (allO bs l).length = bs.length + 1 := by unfold allO; rw [List.length_append, ordsM_len]; rfl
  have hfm : ∀ s ∈ flushM l, ∃ y ∈ operationsM l, mustE y = true ∧ y.kind = 4 ∧ y.serial = s := fun s hs => by
    unfold flushM at hs
    obtain ⟨y, h1, rfl⟩ := List.mem_map.1 hs
    obtain ⟨h2, h3⟩ := List.mem_filter.1 h1
    unfold flushE at h3
    rw [Bool.and_eq_true, decide_eq_true_eq] at h3
    exact ⟨y, h2, h3.1, h3.2, rfl⟩
  have hmb : ∀ (b : Nat), b < bs.length → ∀ s ∈ (allO bs l).getD b default, ∃ y ∈ operationsM l, canE y = true ∧ inB b y = true ∧ y.serial = s := fun b hb s hs => by
    obtain ⟨xs, e, m, -⟩ := hx b hb
    rw [e] at hs
    obtain ⟨x, h1, rfl⟩ := List.mem_map.1 hs
    obtain ⟨y, y1, y2, y3, rfl⟩ := m x h1
    exact ⟨y, y1, y2, y3, rfl⟩
  have hok : OrdsOk l (allO bs l) := by
    refine ⟨fun j hj => ?_, fun j k hj hk hjk s hs1 hs2 => ?_, fun j hj => ?_⟩
    · by_cases cj : j < bs.length
      · obtain ⟨xs, e, -, nd, -⟩ := hx j cj
        rw [e]; exact nd
      · have : j = bs.length := by omega
        subst this
        rw [hfl]
        exact hn.sublist (List.filter_sublist.map _)
    · by_cases cj : j < bs.length
      · obtain ⟨y, y1, y2, y3, y4⟩ := hmb j cj s hs1
        by_cases ck : k < bs.length
        · obtain ⟨z, z1, z2, z3, z4⟩ := hmb k ck s hs2
          have := serial_inj hn y1 z1 (y4.trans z4.symm)
          subst this
          have := inB_one y3 z3
          omega
        · have : k = bs.length := by omega
          subst this
          rw [hfl] at hs2
          obtain ⟨z, z1, z2, z3, z4⟩ := hfm s hs2
          have := serial_inj hn y1 z1 (y4.trans z4.symm)
          subst this
          have := inB_spec.1 y3
          omega
      · have : j = bs.length := by omega
        subst this
        rw [hfl] at hs1
        obtain ⟨z, z1, z2, z3, z4⟩ := hfm s hs1
        have ck : k < bs.length := by omega
        obtain ⟨y, y1, y2, y3, y4⟩ := hmb k ck s hs2
        have := serial_inj hn y1 z1 (y4.trans z4.symm)
        subst this
        have := inB_spec.1 y3
        omega
    · by_cases cj : j < bs.length
      · obtain ⟨xs, e, -, -, p, -⟩ := hx j cj
        rw [e]; exact p
      · have : j = bs.length := by omega
        subst this
        rw [hfl]
        unfold flushM
        rw [List.pairwise_map]
        exact ((ops_inc hR).sublist List.filter_sublist).imp fun {a b} hab => not_before hR hab
  obtain ⟨w, w1, w2, w3, w4, w5⟩ := merge_ok (before_self hR) _ (allO bs l) [] (Nat.le_refl _) hok
  rw [w1, List.nil_append]
  have hmem : ∀ s ∈ w, ∃ y ∈ operationsM l, canE y = true ∧ y.serial = s ∧ ((∃ b : Nat, b < bs.length ∧ inB b y = true) ∨ (mustE y = true ∧ y.kind = 4)) := fun s hs => by
    obtain ⟨j, hj, hsj⟩ := (w2 s).1 hs
    by_cases cj : j < bs.length
    · obtain ⟨y, y1, y2, y3, y4⟩ := hmb j cj s hsj
      exact ⟨y, y1, y2, y4, .inl ⟨j, cj, y3⟩⟩
    · have : j = bs.length := by omega
      subst this
      rw [hfl] at hsj
      obtain ⟨z, z1, z2, z3, z4⟩ := hfm s hsj
      exact ⟨z, z1, can_of_must z2, z4, .inr ⟨z2, z3⟩⟩
  have hget : ∀ s ∈ w, getE (operationsM l) s ∈ operationsM l ∧ (getE (operationsM l) s).serial = s := fun s hs => by
    obtain ⟨y, y1, -, y3, -⟩ := hmem s hs
    exact getE_mem (hasE_iff.2 ⟨y, y1, y3⟩)
  have hser : (w.map (getE (operationsM l))).map Evt.serial = w := by
    rw [List.map_map]
    conv => rhs; rw [← List.map_id w]
    exact List.map_congr_left fun s hs => (hget s hs).2
  rw [← hser]
  have hops : ∀ y ∈ operationsM l, mustE y = true → y.serial ∈ w := fun y hy hm => by
    obtain ⟨i, hi, rfl⟩ := mem_idx hy
    have hcm := hc i hi
    unfold cmdB at hcm
    rw [hm] at hcm
    simp only [Bool.not_true, Bool.false_or, decide_eq_true_eq] at hcm
    obtain ⟨k1, k2, k3, -⟩ := cmdV_kind hcm
    generalize (operationsM l).getD i default = y at *
    by_cases c4 : y.kind = 4
    · refine (w2 _).2 ⟨bs.length, by omega, ?_⟩
      rw [hfl]
      unfold flushM
      refine List.mem_map_of_mem (List.mem_filter.2 ⟨hy, ?_⟩)
      unfold flushE; rw [hm, decide_eq_true c4]; rfl
    · obtain ⟨k3, k4⟩ := k3 c4
      have hb : y.block.toNat < bs.length := by omega
      have hin : inB (y.block.toNat : Nat) y = true := inB_spec.2 ⟨by omega, k1, by omega⟩
      obtain ⟨xs, e, -, -, -, -, al⟩ := hx _ hb
      refine (w2 _).2 ⟨y.block.toNat, by omega, ?_⟩
      rw [e]
      exact al y hy hin hm
  refine lin_check hs ⟨fun x hxm => ?_, by rw [hser]; exact w3, ?_, fun y hy hm => ?_, ?_⟩
  · obtain ⟨s, h1, rfl⟩ := List.mem_map.1 hxm
    obtain ⟨y, y1, y2, y3, -⟩ := hmem s h1
    rw [← y3, getE_of hn y1]
    exact ⟨y1, y2⟩
  · rw [List.pairwise_map]
    refine w4.imp_of_mem fun {a b} ha hb hab => ?_
    rw [(hget a ha).2, (hget b hb).2]
    exact hab
  · refine List.mem_map.2 ⟨y.serial, hops y hy hm, getE_of hn hy⟩
  · refine run_split (fun x hxm => ?_) fun b hb => ?_
    · obtain ⟨s, h1, rfl⟩ := List.mem_map.1 hxm
      obtain ⟨y, y1, y2, y3, y4⟩ := hmem s h1
      rw [← y3, getE_of hn y1]
      rcases y4 with y4 | ⟨y4, y5⟩
      · exact .inl y4
      · right
        obtain ⟨i, hi, rfl⟩ := mem_idx y1
        have hcm := hc i hi
        unfold cmdB at hcm
        rw [y4] at hcm
        simp only [Bool.not_true, Bool.false_or, decide_eq_true_eq] at hcm
        generalize (operationsM l).getD i default = y at *
        have hret : y.ret = true ∧ y.err = 0 := by
          unfold mustE at y4
          rw [Bool.and_eq_true, decide_eq_true_eq] at y4
          exact y4
        obtain ⟨e, -, -, -, -, -, -, -, q8⟩ := hR.open_ y ((mem_ops hR).1 y1).1 hret.1
        unfold fitsM at q8
        rw [if_pos hret.2, if_neg (by omega), decide_eq_true_eq] at q8
        refine ⟨fun b => ?_, fun bs' hl' => ⟨?_, ?_⟩⟩
        · rw [← Bool.not_eq_true]
          intro q
          have := inB_spec.1 q
          omega
        · unfold stepOk appE appD
          rw [hl', hcm, hret.2, q8, if_neg (by simp), if_neg (by omega)]
          simp
        · unfold stepB appB
          rw [hl', hcm, if_neg (by simp), if_neg (by omega), if_neg (by omega)]
    · obtain ⟨xs, e, m, nd, -, r, -⟩ := hx b hb
      have hpart : partE b (w.map (getE (operationsM l))) = xs := by
        unfold partE
        rw [List.filter_map, List.map_map]
        have hw := w5 (inB (b : Int) ∘ getE (operationsM l)) b (by omega) (fun s hs => by
          obtain ⟨y, y1, -, y3, y4⟩ := hmb b hb s hs
          show inB b (getE (operationsM l) s) = true
          rw [← y4, getE_of hn y1]; exact y3) (fun j hj hjb s hs => by
          show inB b (getE (operationsM l) s) = false
          rw [← Bool.not_eq_true]
          by_cases cj : j < bs.length
          · obtain ⟨y, y1, -, y3, y4⟩ := hmb j cj s hs
            rw [← y4, getE_of hn y1]
            intro q
            have := inB_one y3 q
            omega
          · have : j = bs.length := by omega
            subst this
            rw [hfl] at hs
            obtain ⟨z, z1, z2, z3, z4⟩ := hfm s hs
            rw [← z4, getE_of hn z1]
            intro q
            have := inB_spec.1 q
            omega)
        rw [hw, e, List.map_map]
        conv => rhs; rw [← List.map_id xs]
        refine List.map_congr_left fun x hxs => ?_
        obtain ⟨y, y1, y2, y3, rfl⟩ := m x hxs
        show zeroE (getE (operationsM l) y.serial) = zeroE y
        rw [getE_of hn y1]
      rw [hpart]; exact r
theorem find_none {bs : List ByteArray} {l : List Evt} (h : (findM bs l).2 = false) : (findM bs l).1 = [] := by
  unfold findM at h ⊢
  split
  · rename_i q; rw [if_pos q] at h; cases h
  · rfl
end Go.Proofs
end
