import Derived.Test.YtbdhjlanfigdgaaA18
/- THE ABSTRACT MACHINE, PART 19: every order comes to the same. -/
namespace Go.Am

def dstOf (l : List Oper) (k : Nat) : Option Tmp :=
  match getL l k with
  | some o => o.dst
  | none => none

/-- The slots behind those of the first k operations that are done. -/
def tsF (nt : Nat) (l : List Oper) (sv : Nat → S) (D : Nat → Bool) (ts : Ts) : Nat → Ts
  | 0 => ts
  | k + 1 => if D k = true then putT nt (dstOf l k) (sv k) (tsF nt l sv D ts k) else tsF nt l sv D ts k

theorem tsF_shift (nt : Nat) (o : Oper) (r : List Oper) (s : S) (sv : Nat → S) (ts : Ts) : ∀ k, tsF nt (o :: r) (fun k => match k with | 0 => s | k + 1 => sv k) (fun _ => true) ts (k + 1) = tsF nt r sv (fun _ => true) (putT nt o.dst s ts) k
  | 0 => by simp [tsF, dstOf, getL]
  | k + 1 => by
    have ih := tsF_shift nt o r s sv ts k
    rw [tsF, if_pos rfl, ih, tsF, if_pos rfl]
    rfl

theorem vcOpsD_ev {X : Cx} {all : List Oper} : ∀ (l : List Oper) {ts : Ts} {H : List O} {k : Ts → List O → Prop}, vcOpsD X all l ts H k →
    ∃ (sv : Nat → S) (HH : Nat → List O), HH 0 = H ∧ (∀ i o, getL l i = some o → Ev X all o (tsF X.nt l sv (fun _ => true) ts i) (HH i) (sv i) (HH (i + 1))) ∧ k (tsF X.nt l sv (fun _ => true) ts l.length) (HH l.length)
  | [], ts, H, k, h => ⟨fun _ => .u, fun _ => H, rfl, fun i o hi => by simp [getL] at hi, h⟩
  | o :: r, ts, H, k, h => by
    rw [vcOpsD_cons] at h
    obtain ⟨s, H1, h1, h2⟩ := vcOpD_ev h
    obtain ⟨sv, HH, e1, e2, e3⟩ := vcOpsD_ev r h2
    refine ⟨fun k => match k with | 0 => s | k + 1 => sv k, fun k => match k with | 0 => H | k + 1 => HH k, rfl, fun i o' hi => ?_, ?_⟩
    · cases i with
      | zero => simp only [getL, Option.some.injEq] at hi; subst hi; simp only [e1]; exact h1
      | succ i =>
        simp only [getL] at hi
        rw [tsF_shift]
        exact e2 i o' hi
    · rw [List.length_cons, tsF_shift]
      exact e3

def maskOf (ms : List Nat) (es : List Edge) : Nat := es.foldl (fun s e => if Region.binds .any e then s ||| (2 ^ e.on) ||| ms.getD e.on 0 else s) 0

def masks : List Oper → List Nat → List Nat
  | [], acc => acc
  | o :: r, acc => masks r (acc ++ [maskOf acc o.after.toList])

/-- The one must come before the other. -/
inductive Anc (l : List Oper) : Nat → Nat → Prop
  | here {i j : Nat} {o : Oper} {e : Edge} (hj : getL l j = some o) (he : e ∈ o.after.toList) (hb : Region.binds .any e = true) (hi : e.on = i) : Anc l i j
  | far {i j : Nat} {o : Oper} {e : Edge} (hj : getL l j = some o) (he : e ∈ o.after.toList) (hb : Region.binds .any e = true) (hi : Anc l i e.on) : Anc l i j

theorem maskOf_ok (ms : List Nat) (i : Nat) : ∀ (es : List Edge) (s : Nat), (es.foldl (fun s e => if Region.binds .any e then s ||| (2 ^ e.on) ||| ms.getD e.on 0 else s) s).testBit i = true →
    s.testBit i = true ∨ ∃ e ∈ es, Region.binds .any e = true ∧ (e.on = i ∨ (ms.getD e.on 0).testBit i = true)
  | [], s, h => .inl h
  | e :: es, s, h => by
    rw [List.foldl_cons] at h
    rcases maskOf_ok ms i es _ h with h | ⟨e', h1, h2, h3⟩
    · by_cases hb : Region.binds .any e = true
      · rw [if_pos hb, Nat.testBit_or, Nat.testBit_or, Bool.or_eq_true, Bool.or_eq_true] at h
        rcases h with (h | h) | h
        · exact .inl h
        · rw [Nat.testBit_two_pow] at h
          exact .inr ⟨e, by simp, hb, .inl (by simpa using h)⟩
        · exact .inr ⟨e, by simp, hb, .inr h⟩
      · rw [if_neg hb] at h; exact .inl h
    · exact .inr ⟨e', by simp [h1], h2, h3⟩

theorem masks_ok (l : List Oper) : ∀ (r : List Oper) (acc : List Nat), (∀ k, getL r k = getL l (acc.length + k)) → (∀ j i, (acc.getD j 0).testBit i = true → Anc l i j) → ∀ j i, ((masks r acc).getD j 0).testBit i = true → Anc l i j
  | [], acc, _, h => h
  | o :: r, acc, hr, h => by
    refine masks_ok l r _ (fun k => ?_) (fun j i hj => ?_)
    · have := hr (k + 1)
      simp only [getL] at this
      rw [this]
      simp [Nat.add_assoc, Nat.add_comm 1 k]
    · by_cases c : j < acc.length
      · rw [show (acc ++ [maskOf acc o.after.toList]).getD j 0 = acc.getD j 0 by simp [List.getD, List.getElem?_append_left c]] at hj
        exact h j i hj
      · by_cases c2 : j = acc.length
        · subst c2
          rw [show (acc ++ [maskOf acc o.after.toList]).getD acc.length 0 = maskOf acc o.after.toList by simp [List.getD]] at hj
          have ho : getL l acc.length = some o := by rw [← Nat.add_zero acc.length, ← hr 0]; rfl
          rcases maskOf_ok acc i _ _ hj with hz | ⟨e, e1, e2, e3⟩
          · simp at hz
          · rcases e3 with e3 | e3
            · exact .here ho e1 e2 e3
            · exact .far ho e1 e2 (h _ i e3)
        · rw [show (acc ++ [maskOf acc o.after.toList]).getD j 0 = 0 by
            rw [List.getD, List.getElem?_eq_none (by simp; omega)]; rfl] at hj
          simp at hj

def pairB (S : List (Nat × Nat)) (all : List Oper) (ms : List Nat) (i j : Nat) (x y : Oper) : Bool :=
  (ms.getD j 0).testBit i ||
  (!(isEff x.op && isEff y.op) && !(isEff x.op && (!isNew x.op || y.guard.isSome) && !isCall y.op && !S.contains (j, i)) && !(isEff y.op && (!isNew y.op || x.guard.isSome) && !isCall x.op && !S.contains (i, j)) &&
    (match x.dst with
      | some t => !(looks all y).contains t && !(y.dst == some t)
      | none => true) &&
    (match y.dst with
      | some t => !(looks all x).contains t
      | none => true))

def rowB (S : List (Nat × Nat)) (all : List Oper) (ms : List Nat) (j : Nat) (y : Oper) : Nat → List Oper → Bool
  | _, [] => true
  | i, x :: r => (!Nat.blt i j || pairB S all ms i j x y) && rowB S all ms j y (i + 1) r

def rowsB (S : List (Nat × Nat)) (all : List Oper) (ms : List Nat) : Nat → List Oper → Bool
  | _, [] => true
  | j, y :: r => (y.after.toList.all fun e => !Region.binds .any e || Nat.blt e.on j) && rowB S all ms j y 0 all && rowsB S all ms (j + 1) r

/-- May the region be walked once, in the text's order? -/
def drawB (S : List (Nat × Nat)) (l : List Oper) : Bool := rowsB S l (masks l []) 0 l

theorem rowB_ok {S : List (Nat × Nat)} {all : List Oper} {ms : List Nat} {j : Nat} {y : Oper} : ∀ (r : List Oper) (i0 : Nat), rowB S all ms j y i0 r = true → ∀ k x, getL r k = some x → i0 + k < j → pairB S all ms (i0 + k) j x y = true
  | [], _, _, k, x, hx, _ => by simp [getL] at hx
  | z :: r, i0, h, k, x, hx, hlt => by
    simp only [rowB, Bool.and_eq_true, Bool.or_eq_true, Bool.not_eq_true'] at h
    cases k with
    | zero =>
      simp only [getL, Option.some.injEq] at hx
      subst hx
      rcases h.1 with h1 | h1
      · have : Nat.blt i0 j = true := Nat.ble_eq_true_of_le hlt
        rw [this] at h1; cases h1
      · exact h1
    | succ k =>
      simp only [getL] at hx
      have := rowB_ok r (i0 + 1) h.2 k x hx (by omega)
      rw [show i0 + (k + 1) = i0 + 1 + k by omega]
      exact this

theorem rowsB_ok {S : List (Nat × Nat)} {all : List Oper} {ms : List Nat} : ∀ (r : List Oper) (j0 : Nat), rowsB S all ms j0 r = true → ∀ k y, getL r k = some y →
    (∀ e ∈ y.after.toList, Region.binds .any e = true → e.on < j0 + k) ∧ ∀ i x, getL all i = some x → i < j0 + k → pairB S all ms i (j0 + k) x y = true
  | [], _, _, k, y, hy => by simp [getL] at hy
  | z :: r, j0, h, k, y, hy => by
    simp only [rowsB, Bool.and_eq_true] at h
    obtain ⟨⟨h1, h2⟩, h3⟩ := h
    cases k with
    | zero =>
      simp only [getL, Option.some.injEq] at hy
      subst hy
      refine ⟨fun e he hb => ?_, fun i x hx hlt => ?_⟩
      · have := List.all_eq_true.1 h1 e he
        rw [hb] at this
        simp only [Bool.not_true, Bool.false_or] at this
        exact Nat.le_of_ble_eq_true this
      · have := rowB_ok all 0 h2 i x hx (by omega)
        simpa using this
    | succ k =>
      simp only [getL] at hy
      have := rowsB_ok r (j0 + 1) h3 k y hy
      rw [show j0 + (k + 1) = j0 + 1 + k by omega]
      exact this

def Closed (l : List Oper) (D : Nat → Bool) : Prop := ∀ j o, getL l j = some o → D j = true → ∀ e ∈ o.after.toList, Region.binds .any e = true → D e.on = true

theorem Closed.anc {l : List Oper} {D : Nat → Bool} (h : Closed l D) {i j : Nat} (ha : Anc l i j) : (∀ o, getL l j = some o → ∀ e ∈ o.after.toList, Region.binds .any e = true → D e.on = true) → D i = true := by
  induction ha with
  | here hj he hb hi => intro hd; rw [← hi]; exact hd _ hj _ he hb
  | far hj he hb _ ih =>
    intro hd
    have hk := hd _ hj _ he hb
    exact ih fun o ho e he' hb' => h _ o ho hk e he' hb'

theorem find_put (nt : Nat) (dst : Option Tmp) (s : S) (ts : Ts) (t : Nat) : find t (putT nt dst s ts) = if dst = some t ∧ t < nt then s else find t ts := by
  unfold putT
  cases dst with
  | none => simp
  | some d =>
    simp only
    cases hb : Nat.blt d nt with
    | true =>
      have hlt : d < nt := Nat.le_of_ble_eq_true hb
      simp only [find]
      cases hd : Nat.beq d t with
      | true =>
        have : d = t := Nat.eq_of_beq_eq_true hd
        subst this
        simp [hlt]
      | false =>
        have : d ≠ t := fun e => by subst e; simp at hd
        rw [if_neg (by simp [this])]
    | false =>
      have hlt : ¬ d < nt := fun e => by
        have : Nat.blt d nt = true := Nat.ble_eq_true_of_le e
        rw [this] at hb; cases hb
      simp only
      rw [if_neg]
      rintro ⟨e, h⟩
      cases e
      exact hlt h

theorem find_tsF {nt : Nat} {l : List Oper} {sv : Nat → S} {ts : Ts} {t : Nat} {D D' : Nat → Bool} {i : Nat} : ∀ m, i ≤ m → (∀ k, k < m → dstOf l k = some t → D k = (decide (k < i) && D' k)) → find t (tsF nt l sv D ts m) = find t (tsF nt l sv D' ts i) := by
  have low : ∀ m, (∀ k, k < m → dstOf l k = some t → D k = D' k) → find t (tsF nt l sv D ts m) = find t (tsF nt l sv D' ts m) := by
    intro m
    induction m with
    | zero => intro _; rfl
    | succ m ih =>
      intro h
      have ih' := ih fun k hk => h k (by omega)
      simp only [tsF]
      by_cases c : dstOf l m = some t
      · rw [h m (by omega) c]
        split
        · rw [find_put, find_put, ih']
        · exact ih'
      · have e1 : find t (if D m = true then putT nt (dstOf l m) (sv m) (tsF nt l sv D ts m) else tsF nt l sv D ts m) = find t (tsF nt l sv D ts m) := by
          split
          · rw [find_put, if_neg (by simp [c])]
          · rfl
        have e2 : find t (if D' m = true then putT nt (dstOf l m) (sv m) (tsF nt l sv D' ts m) else tsF nt l sv D' ts m) = find t (tsF nt l sv D' ts m) := by
          split
          · rw [find_put, if_neg (by simp [c])]
          · rfl
        rw [e1, e2, ih']
  intro m hm
  induction m with
  | zero =>
    intro h
    have : i = 0 := by omega
    subst this
    rfl
  | succ m ih =>
    intro h
    by_cases c : i = m + 1
    · subst c
      exact low (m + 1) fun k hk hd => by rw [h k hk hd]; simp [hk]
    · have ih' := ih (by omega) fun k hk => h k (by omega)
      rw [← ih']
      simp only [tsF]
      by_cases cd : dstOf l m = some t
      · have := h m (by omega) cd
        rw [show decide (m < i) = false by simp; omega, Bool.false_and] at this
        rw [if_neg (by simp [this])]
      · split
        · rw [find_put, if_neg (by simp [cd])]
        · rfl

end Go.Am
