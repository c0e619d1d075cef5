import Derived.Tactics
import Derived.Orders
import Derived.Laws.AppendOwn
import Derived.Laws.OwnMore
import Derived.Laws.MakeOwn
import Derived.Laws.CopyRow
import Derived.Laws.Rows
import Derived.RowKit3
/- THE ABSTRACT MACHINE, PART 1: values without memory, tracked objects, and what they stand for in a world. -/
namespace Go.Am

/-- A cell, without memory. 'ptr', 'ep', 'sl': into an object that is tracked (its number); 'ip', 'isl': memory that nobody writes any more. -/
inductive C where
  | junk
  | bool (b : Bool)
  | int (k : IntKind) (n : Int)
  | str (s : ByteArray)
  | nilp
  | ptr (id off : Nat)
  | ep (id i j tot : Nat)
  | ip (n : Nat) (get : Nat → C)
  | sl (id es len tot : Nat) (x : Bool)
  | isl (es n : Nat) (get : Nat → Nat → C) (tight : Bool)
  | fn (f : Fn) (n : Nat) (get : Nat → C)
  | nilfn
  | nils

/-- A slot's value: unknown; a cell; a struct or an array; a tuple; one that is known where a guard is true. -/
inductive S where
  | u
  | c (x : C)
  | a (xs : List C)
  | t (l : List (C ⊕ List C))
  | lz (g : Bool) (s : S)

/-- A tracked object: a variable; an array behind slices (element type, cells of an element, elements); one that is no more. -/
inductive O where
  | vr (cs : List C)
  | arr (e es n : Nat) (get : Nat → Nat → C)
  | dead

abbrev Ts := List (Nat × S)

def find : Nat → Ts → S
  | _, [] => .u
  | t, (u, s) :: r => match Nat.beq u t with
    | true => s
    | false => find t r

def getL {α : Type} : List α → Nat → Option α
  | [], _ => none
  | x :: _, 0 => some x
  | _ :: r, i + 1 => getL r i

def setL {α : Type} : List α → Nat → α → Option (List α)
  | [], _, _ => none
  | _ :: r, 0, y => some (y :: r)
  | x :: r, i + 1, y => match setL r i y with
    | some r' => some (x :: r')
    | none => none

theorem getL_eq {α : Type} : ∀ (l : List α) (i : Nat), getL l i = l[i]?
  | [], _ => by simp [getL]
  | _ :: _, 0 => by simp [getL]
  | _ :: r, i + 1 => by simp [getL, getL_eq r i]

theorem setL_eq {α : Type} : ∀ (l : List α) (i : Nat) (y : α) (l' : List α), setL l i y = some l' → i < l.length ∧ l' = l.set i y
  | [], _, _, _, h => by simp [setL] at h
  | _ :: r, 0, y, l', h => by simp [setL] at h; simp [h]
  | x :: r, i + 1, y, l', h => by
    simp only [setL] at h
    cases hs : setL r i y with
    | none => simp [hs] at h
    | some r' =>
      obtain ⟨h1, h2⟩ := setL_eq r i y r' hs
      simp only [hs, Option.some.injEq] at h
      subst h2
      subst h
      simp [h1]

/-- Memory that is known. -/
abbrev Mem := Nat → Option Obj

def Mem.le (F G : Mem) : Prop := ∀ b o, F b = some o → G b = some o

theorem Mem.le_refl (F : Mem) : F.le F := fun _ _ h => h
theorem Mem.le.le_trans' {F G H : Mem} (h : F.le G) (k : G.le H) : F.le H := fun b o e => k b o (h b o e)
theorem Mem.le_trans {F G H : Mem} (h : F.le G) (k : G.le H) : F.le H := fun b o e => k b o (h b o e)

def Mem.cell (F : Mem) (b i : Nat) : Option Value :=
  match F b with
  | some (.cells c _ _) => c[i]?
  | _ => none

theorem Mem.cell_le {F G : Mem} (h : F.le G) {b i : Nat} {v : Value} (e : F.cell b i = some v) : G.cell b i = some v := by
  unfold Mem.cell at *
  cases hf : F b with
  | none => simp [hf] at e
  | some o => rw [h b o hf]; rw [hf] at e; exact e

/-- What a cell stands for, over memory that nobody writes. -/
def RepF (F : Mem) : C → Value → Prop
  | .junk, v => v.oneCell' = true
  | .bool b, v => v = .bool b
  | .int k n, v => v = .int k n
  | .str s, v => v = .string s ∧ s.size ≤ maxLen
  | .nilp, v => v = .pointer none
  | .ptr .., _ => False
  | .ep .., _ => False
  | .sl .., _ => False
  | .ip n get, v => ∃ b off, v = .pointer (some ⟨b, off, none⟩) ∧ ∀ j, j < n → ∃ x, F.cell b (off + j) = some x ∧ RepF F (get j) x
  | .isl es n get tight, v => ∃ a cap, v = .slice a n cap ∧ n ≤ maxLen ∧ n ≤ cap ∧ (tight = true → cap = n) ∧ (a = none → cap = 0) ∧
      (n = 0 ∨ ∃ b off, a = some ⟨b, off, none⟩ ∧ ∀ i, i < n → ∀ j, j < es → ∃ x, F.cell b (off + i * es + j) = some x ∧ RepF F (get i j) x)
  | .fn f n get, v => ∃ cs : Array Value, v = .func f #[] cs ∧ cs.size = n ∧ ∀ j, j < n → ∃ x, cs[j]? = some x ∧ RepF F (get j) x
  | .nilfn, v => v = .nilFunc
  | .nils, v => v = .slice none 0 0

/-- What a cell stands for, beside tracked objects. -/
def RepC (F : Mem) (H : List O) (μ : Nat → Value) : C → Value → Prop
  | .ptr id off, v => (∃ cs, getL H id = some (.vr cs)) ∧ ∃ b, μ id = .pointer (some ⟨b, 0, none⟩) ∧ v = .pointer (some ⟨b, off, none⟩)
  | .ep id i j tot, v => v.oneCell' = true ∧ ∃ e es n g, getL H id = some (.arr e es n g) ∧ tot ≤ n ∧
      (tot = n → ∃ b cap, μ id = .slice (some ⟨b, 0, none⟩) n cap ∧ i < n ∧ v = .pointer (some ⟨b, i * es + j, none⟩))
  | .sl id es len tot x, v => v.oneCell' = true ∧ ∃ e n g, getL H id = some (.arr e es n g) ∧ tot ≤ n ∧ len ≤ tot ∧
      (tot = n → ∃ a cap, μ id = .slice a n cap ∧ v = .slice a len cap ∧ (x = true → cap = n))
  | .fn f n get, v => ∃ cs : Array Value, v = .func f #[] cs ∧ cs.size = n ∧ ∀ j, j < n → ∃ x, cs[j]? = some x ∧ RepC F H μ (get j) x
  | c, v => RepF F c v

def RepL (F : Mem) (H : List O) (μ : Nat → Value) (xs : List C) (cs : Array Value) : Prop :=
  cs.size = xs.length ∧ ∀ (j : Nat) x, getL xs j = some x → ∃ v, cs[j]? = some v ∧ RepC F H μ x v

def RepE (F : Mem) (H : List O) (μ : Nat → Value) : C ⊕ List C → Value → Prop
  | .inl x, v => RepC F H μ x v
  | .inr xs, v => ∃ cs, v = .agg cs ∧ RepL F H μ xs cs

def RepS (F : Mem) (H : List O) (μ : Nat → Value) : S → Value → Prop
  | .u, _ => True
  | .c x, v => RepC F H μ x v
  | .a xs, v => ∃ cs, v = .agg cs ∧ RepL F H μ xs cs
  | .t l, v => ∃ vs : Array Value, v = .tuple vs ∧ vs.size = l.length ∧ ∀ (j : Nat) x, getL l j = some x → ∃ u, vs[j]? = some u ∧ RepE F H μ x u
  | .lz g s, v => (g = true → RepS F H μ s v) ∧ (g = false → v = undef)

/-- From one set of tracked objects to a later one: each is still there; what has not grown lies where it lay. -/
def Ext (H : List O) (μ : Nat → Value) (H' : List O) (μ' : Nat → Value) : Prop :=
  (∀ id cs, getL H id = some (.vr cs) → (∃ cs', getL H' id = some (.vr cs')) ∧ μ' id = μ id) ∧
  (∀ id e es n g, getL H id = some (.arr e es n g) → ∃ n' g', getL H' id = some (.arr e es n' g') ∧ n ≤ n' ∧ (n' = n → μ' id = μ id))

theorem Ext.refl (H : List O) (μ : Nat → Value) : Ext H μ H μ :=
  ⟨fun _ cs h => ⟨⟨cs, h⟩, rfl⟩, fun _ _ _ n g h => ⟨n, g, h, Nat.le_refl _, fun _ => rfl⟩⟩

theorem Ext.trans {H H' H'' : List O} {μ μ' μ'' : Nat → Value} (h : Ext H μ H' μ') (k : Ext H' μ' H'' μ'') : Ext H μ H'' μ'' := by
  refine ⟨fun id cs e => ?_, fun id e es n g he => ?_⟩
  · obtain ⟨⟨cs', h1⟩, h2⟩ := h.1 id cs e
    obtain ⟨h3, h4⟩ := k.1 id cs' h1
    exact ⟨h3, h4.trans h2⟩
  · obtain ⟨n', g', h1, h2, h3⟩ := h.2 id e es n g he
    obtain ⟨n'', g'', k1, k2, k3⟩ := k.2 id e es n' g' h1
    exact ⟨n'', g'', k1, Nat.le_trans h2 k2, fun q => (k3 (by omega)).trans (h3 (by omega))⟩

theorem RepF.mono {F G : Mem} (h : F.le G) : ∀ (c : C) (v : Value), RepF F c v → RepF G c v := by
  intro c
  induction c with
  | ip n get ih =>
    intro v hv
    obtain ⟨b, off, hv, hc⟩ := hv
    refine ⟨b, off, hv, fun j hj => ?_⟩
    obtain ⟨x, hx, hr⟩ := hc j hj
    exact ⟨x, Mem.cell_le h hx, ih j x hr⟩
  | isl es n get tight ih =>
    intro v hv
    obtain ⟨a, cap, hv, h1, h2, h3, h3', h4⟩ := hv
    refine ⟨a, cap, hv, h1, h2, h3, h3', ?_⟩
    rcases h4 with h4 | ⟨b, off, ha, hc⟩
    · exact .inl h4
    · refine .inr ⟨b, off, ha, fun i hi j hj => ?_⟩
      obtain ⟨x, hx, hr⟩ := hc i hi j hj
      exact ⟨x, Mem.cell_le h hx, ih i j x hr⟩
  | fn f n get ih =>
    intro v hv
    obtain ⟨cs, hv, hs, hc⟩ := hv
    refine ⟨cs, hv, hs, fun j hj => ?_⟩
    obtain ⟨x, hx, hr⟩ := hc j hj
    exact ⟨x, hx, ih j x hr⟩
  | _ => intro v hv; exact hv

theorem RepC.mono {F G : Mem} {H H' : List O} {μ μ' : Nat → Value} (h : F.le G) (k : Ext H μ H' μ') : ∀ (c : C) (v : Value), RepC F H μ c v → RepC G H' μ' c v := by
  intro c
  induction c with
  | ptr id off =>
    intro v hv
    obtain ⟨⟨cs, h1⟩, b, h2, h3⟩ := hv
    obtain ⟨k1, k2⟩ := k.1 id cs h1
    exact ⟨k1, b, k2.trans h2, h3⟩
  | ep id i j tot =>
    intro v hv
    obtain ⟨h0, e, es, n, g, h1, h2, h3⟩ := hv
    obtain ⟨n', g', k1, k2, k3⟩ := k.2 id e es n g h1
    refine ⟨h0, e, es, n', g', k1, by omega, fun q => ?_⟩
    have hn : n' = n := by omega
    rw [k3 hn, hn]
    exact h3 (by omega)
  | sl id es len tot x =>
    intro v hv
    obtain ⟨h0, e, n, g, h1, h2, h2', h3⟩ := hv
    obtain ⟨n', g', k1, k2, k3⟩ := k.2 id e es n g h1
    refine ⟨h0, e, n', g', k1, by omega, h2', fun q => ?_⟩
    have hn : n' = n := by omega
    rw [k3 hn, hn]
    exact h3 (by omega)
  | fn f n get ih =>
    intro v hv
    obtain ⟨cs, hv, hs, hc⟩ := hv
    refine ⟨cs, hv, hs, fun j hj => ?_⟩
    obtain ⟨x, hx, hr⟩ := hc j hj
    exact ⟨x, hx, ih j x hr⟩
  | _ => intro v hv; exact RepF.mono h _ v hv

theorem RepL.mono {F G : Mem} {H H' : List O} {μ μ' : Nat → Value} (h : F.le G) (k : Ext H μ H' μ') {xs : List C} {cs : Array Value} (hl : RepL F H μ xs cs) : RepL G H' μ' xs cs :=
  ⟨hl.1, fun j x e => let ⟨v, hv, hr⟩ := hl.2 j x e; ⟨v, hv, RepC.mono h k x v hr⟩⟩

theorem RepE.mono {F G : Mem} {H H' : List O} {μ μ' : Nat → Value} (h : F.le G) (k : Ext H μ H' μ') : ∀ (x : C ⊕ List C) (v : Value), RepE F H μ x v → RepE G H' μ' x v
  | .inl x, v, hv => RepC.mono h k x v hv
  | .inr _, _, ⟨cs, hv, hl⟩ => ⟨cs, hv, hl.mono h k⟩

theorem RepS.mono {F G : Mem} {H H' : List O} {μ μ' : Nat → Value} (h : F.le G) (k : Ext H μ H' μ') : ∀ (s : S) (v : Value), RepS F H μ s v → RepS G H' μ' s v
  | .u, _, _ => trivial
  | .c x, v, hv => RepC.mono h k x v hv
  | .a _, _, ⟨cs, hv, hl⟩ => ⟨cs, hv, hl.mono h k⟩
  | .t _, _, ⟨vs, hv, hs, hl⟩ => ⟨vs, hv, hs, fun j x e => let ⟨u, hu, hr⟩ := hl j x e; ⟨u, hu, RepE.mono h k x u hr⟩⟩
  | .lz _ s, v, hv => ⟨fun hg => RepS.mono h k s v (hv.1 hg), hv.2⟩

theorem RepF.one {F : Mem} : ∀ (c : C) (v : Value), RepF F c v → v.oneCell' = true
  | .junk, _, h => h
  | .bool _, _, h => by rw [show _ = _ from h]; rfl
  | .int _ _, _, h => by rw [show _ = _ from h]; rfl
  | .str _, _, h => by rw [h.1]; rfl
  | .nilp, _, h => by rw [show _ = _ from h]; rfl
  | .ip _ _, _, ⟨_, _, h, _⟩ => by rw [h]; rfl
  | .isl .., _, ⟨_, _, h, _⟩ => by rw [h]; rfl
  | .fn .., _, ⟨_, h, _⟩ => by rw [h]; rfl
  | .nilfn, _, h => by rw [show _ = _ from h]; rfl
  | .nils, _, h => by rw [show _ = _ from h]; rfl

theorem RepC.one {F : Mem} {H : List O} {μ : Nat → Value} : ∀ (c : C) (v : Value), RepC F H μ c v → v.oneCell' = true
  | .ptr .., _, ⟨_, _, _, h⟩ => by rw [h]; rfl
  | .ep .., _, h => h.1
  | .sl .., _, h => h.1
  | .fn .., _, ⟨_, h, _⟩ => by rw [h]; rfl
  | .junk, v, h => RepF.one (F := F) .junk v h
  | .bool b, v, h => RepF.one (F := F) (.bool b) v h
  | .int k n, v, h => RepF.one (F := F) (.int k n) v h
  | .str s, v, h => RepF.one (F := F) (.str s) v h
  | .nilp, v, h => RepF.one (F := F) .nilp v h
  | .ip n g, v, h => RepF.one (F := F) (.ip n g) v h
  | .isl es n g t, v, h => RepF.one (F := F) (.isl es n g t) v h
  | .nilfn, v, h => RepF.one (F := F) .nilfn v h
  | .nils, v, h => RepF.one (F := F) .nils v h

/-- Over frozen memory alone, a cell stands for the same beside tracked objects. -/
theorem RepF.toC {F : Mem} (H : List O) (μ : Nat → Value) : ∀ (c : C) (v : Value), RepF F c v → RepC F H μ c v := by
  intro c
  induction c with
  | fn f n get ih =>
    intro v hv
    obtain ⟨cs, hv, hs, hc⟩ := hv
    refine ⟨cs, hv, hs, fun j hj => ?_⟩
    obtain ⟨x, hx, hr⟩ := hc j hj
    exact ⟨x, hx, ih j x hr⟩
  | ptr id off => intro v hv; exact hv.elim
  | ep id i j t => intro v hv; exact hv.elim
  | sl id es l t x => intro v hv; exact hv.elim
  | _ => intro v hv; exact hv

/-- What is kept as it is, whatever is done. -/
structure Keep where
  mem : Mem
  os : Os
  tape : Nat → Question → Nat
  output : Array (Nat × ByteArray)

def blk : Value → Option Nat
  | .pointer (some a) => some a.block
  | .slice (some a) _ _ => some a.block
  | _ => none

def owned (H : List O) (μ : Nat → Value) (id b : Nat) : Prop :=
  (∃ o, getL H id = some o ∧ o ≠ .dead) ∧ blk (μ id) = some b

def OSat (F : Mem) (H : List O) (μ : Nat → Value) (w : World) (id : Nat) : O → Prop
  | .vr cs => ∃ b c T, μ id = .pointer (some ⟨b, 0, none⟩) ∧ w.heap[b]? = some (.cells c T (0, 0)) ∧ RepL F H μ cs c
  | .arr e es n g => ∃ xs, w.ownsRow 0 e es (μ id) n xs ∧ n ≤ maxLen ∧ ∀ i, i < n → ∀ j, j < es → ∃ v, xs[i * es + j]? = some v ∧ RepC F H μ (g i j) v
  | .dead => True

structure HSat (K : Keep) (F : Mem) (H : List O) (μ : Nat → Value) (w : World) : Prop where
  os : w.os = K.os
  tape : w.tape = K.tape
  output : w.output = K.output
  fr : ∀ b o, F b = some o → w.heap[b]? = some o
  kp : ∀ b o, K.mem b = some o → w.heap[b]? = some o
  ob : ∀ id o, getL H id = some o → OSat F H μ w id o
  sp : ∀ id b, owned H μ id b → F b = none ∧ K.mem b = none
  ij : ∀ id id' b, owned H μ id b → owned H μ id' b → id = id'
  dj : ∀ b o, F b = some o → K.mem b = none

def TSat (F : Mem) (H : List O) (μ : Nat → Value) (ts : Ts) (tmps : Array Value) : Prop :=
  ∀ t, RepS F H μ (find t ts) (tmps.getD t undef)

theorem TSat.mono {F G : Mem} {H H' : List O} {μ μ' : Nat → Value} (h : F.le G) (k : Ext H μ H' μ') {ts : Ts} {tmps : Array Value} (ht : TSat F H μ ts tmps) : TSat G H' μ' ts tmps :=
  fun t => RepS.mono h k _ _ (ht t)

theorem TSat.put {F : Mem} {H : List O} {μ : Nat → Value} {ts : Ts} {a : Act} (ht : TSat F H μ ts a.tmps) {d : Nat} {s : S} {v : Value} (hd : d < a.tmps.size) (hs : RepS F H μ s v) :
    TSat F H μ ((d, s) :: ts) (a.put (some d) v).tmps := by
  intro t
  simp only [find, Act.put]
  cases hb : Nat.beq d t with
  | true =>
    have : d = t := Nat.eq_of_beq_eq_true hb
    subst this
    simpa [Array.getD, hd] using hs
  | false =>
    have hne : d ≠ t := by
      intro e; subst e; simp at hb
    have := ht t
    simp only [Array.getD_eq_getD_getElem?] at this ⊢
    rw [Array.getElem?_setIfInBounds_ne hne]
    exact this

/-- Something is put where nothing is known. -/
theorem TSat.put_u {F : Mem} {H : List O} {μ : Nat → Value} {ts : Ts} {a : Act} (ht : TSat F H μ ts a.tmps) {d : Nat} {v : Value} :
    TSat F H μ ((d, .u) :: ts) (a.put (some d) v).tmps := by
  intro t
  simp only [find, Act.put]
  cases hb : Nat.beq d t with
  | true => trivial
  | false =>
    have hne : d ≠ t := by
      intro e; subst e; simp at hb
    have := ht t
    simp only [Array.getD_eq_getD_getElem?] at this ⊢
    rw [Array.getElem?_setIfInBounds_ne hne]
    exact this

end Go.Am
