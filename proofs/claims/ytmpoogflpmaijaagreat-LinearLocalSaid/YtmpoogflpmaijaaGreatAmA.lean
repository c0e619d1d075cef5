/- Part of the proofs of laws of this seat: contracts and plain lemmas; no condition is added to a statement. -/
import Derived.Tactics
import Derived.Orders
import Derived.Laws.AppendOwn
import Derived.Laws.OwnMore
import Derived.Laws.MakeOwn
import Derived.Laws.CopyRow
import Derived.Laws.Rows
import Derived.RowKit3
import Derived.Laws.Small
import Derived.MapKept
import Derived.DeepKeys
import Derived.Laws.Entries
import Derived.Laws.Strings
import Derived.Laws.Slices
import Derived.Laws.BytesArg
import Derived.Laws.Tables
set_option linter.unusedSimpArgs false
set_option linter.unusedVariables false
section
/- THE ABSTRACT MACHINE, PART 1: values without memory, tracked objects, and what they stand for in a world. -/
namespace Go.Am

/-- A part of a map's key: a whole number, a text. -/
inductive KC where
  | i (k : IntKind) (n : Int)
  | s (b : ByteArray)
  deriving DecidableEq

/-- A map's key: one part, or a struct of parts. -/
inductive Key where
  | c (k : KC)
  | a (l : List KC)
  deriving DecidableEq

def KC.sh : KC → Option IntKind
  | .i k _ => some k
  | .s _ => none

def KC.toV : KC → Value
  | .i k n => .int k n
  | .s b => .string b

/-- A key's shape. -/
inductive KS where
  | c (k : Option IntKind)
  | a (l : List (Option IntKind))
  deriving DecidableEq

def Key.sh : Key → KS
  | .c k => .c k.sh
  | .a l => .a (l.map KC.sh)

def Key.toV : Key → Value
  | .c k => k.toV
  | .a l => .agg (l.map KC.toV).toArray

/-- A cell, without memory. 'ptr', 'ep', 'sl': into an object that is tracked (its number); 'ip', 'isl': memory that nobody writes any more. -/
inductive C where
  | junk
  | bool (b : Bool)
  | int (k : IntKind) (n : Int)
  | str (s : ByteArray)
  | nilp
  | ptr (id off : Nat)
  | ep (id i j tot : Nat)
  | ip (n : Nat) (get : Nat → C)
  | sl (id es len tot : Nat) (x : Bool)
  | isl (es n : Nat) (get : Nat → Nat → C) (tight : Bool)
  | fn (f : Fn) (n : Nat) (get : Nat → C)
  | nilfn
  | nils
  | mpr (id : Nat)
  | nilm
  | raw (b : Nat)

inductive Z where
  | b | i (k : IntKind) | s | p | sl | f | m
  deriving DecidableEq

def Z.toC : Z → C
  | .b => .bool false
  | .i k => .int k 0
  | .s => .str ByteArray.empty
  | .p => .nilp
  | .sl => .nils
  | .f => .nilfn
  | .m => .nilm

def Z.toV : Z → Value
  | .b => .bool false
  | .i k => .int k 0
  | .s => .string ByteArray.empty
  | .p => .pointer none
  | .sl => .slice none 0 0
  | .f => .nilFunc
  | .m => .map none

/-- A slot's value: unknown; a cell; a struct or an array; a tuple; one that is known where a guard is true; a slice into an array that is tracked, from some element on. -/
inductive S where
  | u
  | c (x : C)
  | a (xs : List C)
  | t (l : List (C ⊕ List C))
  | lz (g : Bool) (s : S)
  | so (id es off len tot : Nat)

/-- A tracked object: a variable; an array behind slices (element type, cells of an element, elements); one that is no more. -/
inductive O where
  | vr (cs : List C)
  | arr (e es n : Nat) (get : Nat → Nat → C)
  | dead
  | mp (sh : KS) (z : List Z) (va : Bool) (ks : List Key) (val : Key → Nat → C)

abbrev Ts := List (Nat × S)

def find : Nat → Ts → S
  | _, [] => .u
  | t, (u, s) :: r => match Nat.beq u t with
    | true => s
    | false => find t r

def getL {α : Type} : List α → Nat → Option α
  | [], _ => none
  | x :: _, 0 => some x
  | _ :: r, i + 1 => getL r i

def setL {α : Type} : List α → Nat → α → Option (List α)
  | [], _, _ => none
  | _ :: r, 0, y => some (y :: r)
  | x :: r, i + 1, y => match setL r i y with
    | some r' => some (x :: r')
    | none => none

theorem getL_eq {α : Type} : ∀ (l : List α) (i : Nat), getL l i = l[i]?
  | [], _ => by simp [getL]
  | _ :: _, 0 => by simp [getL]
  | _ :: r, i + 1 => by simp [getL, getL_eq r i]

theorem setL_eq {α : Type} : ∀ (l : List α) (i : Nat) (y : α) (l' : List α), setL l i y = some l' → i < l.length ∧ l' = l.set i y
  | [], _, _, _, h => by simp [setL] at h
  | _ :: r, 0, y, l', h => by simp [setL] at h; simp [h]
  | x :: r, i + 1, y, l', h => by
    simp only [setL] at h
    cases hs : setL r i y with
    | none => simp [hs] at h
    | some r' =>
      obtain ⟨h1, h2⟩ := setL_eq r i y r' hs
      simp only [hs, Option.some.injEq] at h
      subst h2
      subst h
      simp [h1]

/-- Memory that is known. -/
abbrev Mem := Nat → Option Obj

def Mem.le (F G : Mem) : Prop := ∀ b o, F b = some o → G b = some o

theorem Mem.le_refl (F : Mem) : F.le F := fun _ _ h => h
theorem Mem.le.le_trans' {F G H : Mem} (h : F.le G) (k : G.le H) : F.le H := fun b o e => k b o (h b o e)
theorem Mem.le_trans {F G H : Mem} (h : F.le G) (k : G.le H) : F.le H := fun b o e => k b o (h b o e)

def Mem.cell (F : Mem) (b i : Nat) : Option Value :=
  match F b with
  | some (.cells c _ _) => c[i]?
  | _ => none

theorem Mem.cell_le {F G : Mem} (h : F.le G) {b i : Nat} {v : Value} (e : F.cell b i = some v) : G.cell b i = some v := by
  unfold Mem.cell at *
  cases hf : F b with
  | none => simp [hf] at e
  | some o => rw [h b o hf]; rw [hf] at e; exact e

/-- What a cell stands for, over memory that nobody writes. -/
def RepF (F : Mem) : C → Value → Prop
  | .junk, v => v.oneCell' = true
  | .bool b, v => v = .bool b
  | .int k n, v => v = .int k n
  | .str s, v => v = .string s ∧ s.size ≤ maxLen
  | .nilp, v => v = .pointer none
  | .ptr .., _ => False
  | .ep .., _ => False
  | .sl .., _ => False
  | .ip n get, v => ∃ b off, v = .pointer (some ⟨b, off, none⟩) ∧ ∀ j, j < n → ∃ x, F.cell b (off + j) = some x ∧ RepF F (get j) x
  | .isl es n get tight, v => ∃ a cap, v = .slice a n cap ∧ n ≤ maxLen ∧ n ≤ cap ∧ (tight = true → cap = n) ∧ (a = none → cap = 0) ∧
      (n = 0 ∨ ∃ b off, a = some ⟨b, off, none⟩ ∧ ∀ i, i < n → ∀ j, j < es → ∃ x, F.cell b (off + i * es + j) = some x ∧ RepF F (get i j) x)
  | .fn f n get, v => ∃ cs : Array Value, v = .func f #[] cs ∧ cs.size = n ∧ ∀ j, j < n → ∃ x, cs[j]? = some x ∧ RepF F (get j) x
  | .nilfn, v => v = .nilFunc
  | .nils, v => v = .slice none 0 0
  | .mpr _, _ => False
  | .nilm, v => v = .map none
  | .raw b, v => v = .pointer (some ⟨b, 0, none⟩)

/-- What a cell stands for, beside tracked objects. -/
def RepC (F : Mem) (H : List O) (μ : Nat → Value) : C → Value → Prop
  | .ptr id off, v => (∃ cs, getL H id = some (.vr cs)) ∧ ∃ b, μ id = .pointer (some ⟨b, 0, none⟩) ∧ v = .pointer (some ⟨b, off, none⟩)
  | .ep id i j tot, v => v.oneCell' = true ∧ ∃ e es n g, getL H id = some (.arr e es n g) ∧ tot ≤ n ∧
      (tot = n → ∃ b cap, μ id = .slice (some ⟨b, 0, none⟩) n cap ∧ i < n ∧ v = .pointer (some ⟨b, i * es + j, none⟩))
  | .sl id es len tot x, v => v.oneCell' = true ∧ ∃ e n g, getL H id = some (.arr e es n g) ∧ tot ≤ n ∧ len ≤ tot ∧
      (tot = n → ∃ a cap, μ id = .slice a n cap ∧ v = .slice a len cap ∧ (x = true → cap = n))
  | .fn f n get, v => ∃ cs : Array Value, v = .func f #[] cs ∧ cs.size = n ∧ ∀ j, j < n → ∃ x, cs[j]? = some x ∧ RepC F H μ (get j) x
  | .mpr id, v => (∃ sh z va ks val, getL H id = some (.mp sh z va ks val)) ∧ ∃ b, μ id = .map (some b) ∧ v = .map (some b)
  | c, v => RepF F c v

def RepL (F : Mem) (H : List O) (μ : Nat → Value) (xs : List C) (cs : Array Value) : Prop :=
  cs.size = xs.length ∧ ∀ (j : Nat) x, getL xs j = some x → ∃ v, cs[j]? = some v ∧ RepC F H μ x v

def RepE (F : Mem) (H : List O) (μ : Nat → Value) : C ⊕ List C → Value → Prop
  | .inl x, v => RepC F H μ x v
  | .inr xs, v => ∃ cs, v = .agg cs ∧ RepL F H μ xs cs

def RepS (F : Mem) (H : List O) (μ : Nat → Value) : S → Value → Prop
  | .u, _ => True
  | .c x, v => RepC F H μ x v
  | .a xs, v => ∃ cs, v = .agg cs ∧ RepL F H μ xs cs
  | .t l, v => ∃ vs : Array Value, v = .tuple vs ∧ vs.size = l.length ∧ ∀ (j : Nat) x, getL l j = some x → ∃ u, vs[j]? = some u ∧ RepE F H μ x u
  | .lz g s, v => (g = true → RepS F H μ s v) ∧ (g = false → v = undef)
  | .so id es off len tot, v => ∃ a cap, v = .slice a len cap ∧ (a = none → cap = 0) ∧ ∃ e n g, getL H id = some (.arr e es n g) ∧ tot ≤ n ∧ off + len ≤ tot ∧
      (tot = n → len = 0 ∨ ∃ b c, μ id = .slice (some ⟨b, 0, none⟩) n c ∧ a = some ⟨b, off * es, none⟩)

/-- From one set of tracked objects to a later one: each is still there; what has not grown lies where it lay. -/
def Ext (H : List O) (μ : Nat → Value) (H' : List O) (μ' : Nat → Value) : Prop :=
  (∀ id cs, getL H id = some (.vr cs) → (∃ cs', getL H' id = some (.vr cs')) ∧ μ' id = μ id) ∧
  (∀ id e es n g, getL H id = some (.arr e es n g) → ∃ n' g', getL H' id = some (.arr e es n' g') ∧ n ≤ n' ∧ (n' = n → μ' id = μ id)) ∧
  (∀ id sh z va ks val, getL H id = some (.mp sh z va ks val) → (∃ ks' val', getL H' id = some (.mp sh z va ks' val')) ∧ μ' id = μ id)

theorem Ext.refl (H : List O) (μ : Nat → Value) : Ext H μ H μ :=
  ⟨fun _ cs h => ⟨⟨cs, h⟩, rfl⟩, fun _ _ _ n g h => ⟨n, g, h, Nat.le_refl _, fun _ => rfl⟩, fun _ _ _ _ ks val h => ⟨⟨ks, val, h⟩, rfl⟩⟩

theorem Ext.trans {H H' H'' : List O} {μ μ' μ'' : Nat → Value} (h : Ext H μ H' μ') (k : Ext H' μ' H'' μ'') : Ext H μ H'' μ'' := by
  refine ⟨fun id cs e => ?_, fun id e es n g he => ?_, fun id sh z va ks val e => ?_⟩
  · obtain ⟨⟨cs', h1⟩, h2⟩ := h.1 id cs e
    obtain ⟨h3, h4⟩ := k.1 id cs' h1
    exact ⟨h3, h4.trans h2⟩
  · obtain ⟨n', g', h1, h2, h3⟩ := h.2.1 id e es n g he
    obtain ⟨n'', g'', k1, k2, k3⟩ := k.2.1 id e es n' g' h1
    exact ⟨n'', g'', k1, Nat.le_trans h2 k2, fun q => (k3 (by omega)).trans (h3 (by omega))⟩
  · obtain ⟨⟨ks', val', h1⟩, h2⟩ := h.2.2 id sh z va ks val e
    obtain ⟨h3, h4⟩ := k.2.2 id sh z va ks' val' h1
    exact ⟨h3, h4.trans h2⟩

theorem RepF.mono {F G : Mem} (h : F.le G) : ∀ (c : C) (v : Value), RepF F c v → RepF G c v := by
  intro c
  induction c with
  | ip n get ih =>
    intro v hv
    obtain ⟨b, off, hv, hc⟩ := hv
    refine ⟨b, off, hv, fun j hj => ?_⟩
    obtain ⟨x, hx, hr⟩ := hc j hj
    exact ⟨x, Mem.cell_le h hx, ih j x hr⟩
  | isl es n get tight ih =>
    intro v hv
    obtain ⟨a, cap, hv, h1, h2, h3, h3', h4⟩ := hv
    refine ⟨a, cap, hv, h1, h2, h3, h3', ?_⟩
    rcases h4 with h4 | ⟨b, off, ha, hc⟩
    · exact .inl h4
    · refine .inr ⟨b, off, ha, fun i hi j hj => ?_⟩
      obtain ⟨x, hx, hr⟩ := hc i hi j hj
      exact ⟨x, Mem.cell_le h hx, ih i j x hr⟩
  | fn f n get ih =>
    intro v hv
    obtain ⟨cs, hv, hs, hc⟩ := hv
    refine ⟨cs, hv, hs, fun j hj => ?_⟩
    obtain ⟨x, hx, hr⟩ := hc j hj
    exact ⟨x, hx, ih j x hr⟩
  | _ => intro v hv; exact hv

theorem RepC.mono {F G : Mem} {H H' : List O} {μ μ' : Nat → Value} (h : F.le G) (k : Ext H μ H' μ') : ∀ (c : C) (v : Value), RepC F H μ c v → RepC G H' μ' c v := by
  intro c
  induction c with
  | ptr id off =>
    intro v hv
    obtain ⟨⟨cs, h1⟩, b, h2, h3⟩ := hv
    obtain ⟨k1, k2⟩ := k.1 id cs h1
    exact ⟨k1, b, k2.trans h2, h3⟩
  | ep id i j tot =>
    intro v hv
    obtain ⟨h0, e, es, n, g, h1, h2, h3⟩ := hv
    obtain ⟨n', g', k1, k2, k3⟩ := k.2.1 id e es n g h1
    refine ⟨h0, e, es, n', g', k1, by omega, fun q => ?_⟩
    have hn : n' = n := by omega
    rw [k3 hn, hn]
    exact h3 (by omega)
  | sl id es len tot x =>
    intro v hv
    obtain ⟨h0, e, n, g, h1, h2, h2', h3⟩ := hv
    obtain ⟨n', g', k1, k2, k3⟩ := k.2.1 id e es n g h1
    refine ⟨h0, e, n', g', k1, by omega, h2', fun q => ?_⟩
    have hn : n' = n := by omega
    rw [k3 hn, hn]
    exact h3 (by omega)
  | fn f n get ih =>
    intro v hv
    obtain ⟨cs, hv, hs, hc⟩ := hv
    refine ⟨cs, hv, hs, fun j hj => ?_⟩
    obtain ⟨x, hx, hr⟩ := hc j hj
    exact ⟨x, hx, ih j x hr⟩
  | mpr id =>
    intro v hv
    obtain ⟨⟨sh, z, va, ks, val, h1⟩, b, h2, h3⟩ := hv
    obtain ⟨⟨ks', val', k1⟩, k2⟩ := k.2.2 id sh z va ks val h1
    exact ⟨⟨sh, z, va, ks', val', k1⟩, b, k2.trans h2, h3⟩
  | _ => intro v hv; exact RepF.mono h _ v hv

theorem RepL.mono {F G : Mem} {H H' : List O} {μ μ' : Nat → Value} (h : F.le G) (k : Ext H μ H' μ') {xs : List C} {cs : Array Value} (hl : RepL F H μ xs cs) : RepL G H' μ' xs cs :=
  ⟨hl.1, fun j x e => let ⟨v, hv, hr⟩ := hl.2 j x e; ⟨v, hv, RepC.mono h k x v hr⟩⟩

theorem RepE.mono {F G : Mem} {H H' : List O} {μ μ' : Nat → Value} (h : F.le G) (k : Ext H μ H' μ') : ∀ (x : C ⊕ List C) (v : Value), RepE F H μ x v → RepE G H' μ' x v
  | .inl x, v, hv => RepC.mono h k x v hv
  | .inr _, _, ⟨cs, hv, hl⟩ => ⟨cs, hv, hl.mono h k⟩

theorem RepS.mono {F G : Mem} {H H' : List O} {μ μ' : Nat → Value} (h : F.le G) (k : Ext H μ H' μ') : ∀ (s : S) (v : Value), RepS F H μ s v → RepS G H' μ' s v
  | .u, _, _ => trivial
  | .c x, v, hv => RepC.mono h k x v hv
  | .a _, _, ⟨cs, hv, hl⟩ => ⟨cs, hv, hl.mono h k⟩
  | .t _, _, ⟨vs, hv, hs, hl⟩ => ⟨vs, hv, hs, fun j x e => let ⟨u, hu, hr⟩ := hl j x e; ⟨u, hu, RepE.mono h k x u hr⟩⟩
  | .lz _ s, v, hv => ⟨fun hg => RepS.mono h k s v (hv.1 hg), hv.2⟩
  | .so id es off len tot, v, ⟨a, cap, h1, h2, e, n, g, h3, h4, h5, h6⟩ => by
    obtain ⟨n', g', k1, k2, k3⟩ := k.2.1 id e es n g h3
    refine ⟨a, cap, h1, h2, e, n', g', k1, by omega, h5, fun q => ?_⟩
    have hn : n' = n := by omega
    rw [k3 hn, hn]
    exact h6 (by omega)

theorem RepF.one {F : Mem} : ∀ (c : C) (v : Value), RepF F c v → v.oneCell' = true
  | .junk, _, h => h
  | .bool _, _, h => by rw [show _ = _ from h]; rfl
  | .int _ _, _, h => by rw [show _ = _ from h]; rfl
  | .str _, _, h => by rw [h.1]; rfl
  | .nilp, _, h => by rw [show _ = _ from h]; rfl
  | .ip _ _, _, ⟨_, _, h, _⟩ => by rw [h]; rfl
  | .isl .., _, ⟨_, _, h, _⟩ => by rw [h]; rfl
  | .fn .., _, ⟨_, h, _⟩ => by rw [h]; rfl
  | .nilfn, _, h => by rw [show _ = _ from h]; rfl
  | .nils, _, h => by rw [show _ = _ from h]; rfl
  | .nilm, _, h => by rw [show _ = _ from h]; rfl
  | .raw _, _, h => by rw [show _ = _ from h]; rfl

theorem RepC.one {F : Mem} {H : List O} {μ : Nat → Value} : ∀ (c : C) (v : Value), RepC F H μ c v → v.oneCell' = true
  | .ptr .., _, ⟨_, _, _, h⟩ => by rw [h]; rfl
  | .ep .., _, h => h.1
  | .sl .., _, h => h.1
  | .fn .., _, ⟨_, h, _⟩ => by rw [h]; rfl
  | .junk, v, h => RepF.one (F := F) .junk v h
  | .bool b, v, h => RepF.one (F := F) (.bool b) v h
  | .int k n, v, h => RepF.one (F := F) (.int k n) v h
  | .str s, v, h => RepF.one (F := F) (.str s) v h
  | .nilp, v, h => RepF.one (F := F) .nilp v h
  | .ip n g, v, h => RepF.one (F := F) (.ip n g) v h
  | .isl es n g t, v, h => RepF.one (F := F) (.isl es n g t) v h
  | .nilfn, v, h => RepF.one (F := F) .nilfn v h
  | .nils, v, h => RepF.one (F := F) .nils v h
  | .nilm, v, h => RepF.one (F := F) .nilm v h
  | .mpr .., _, ⟨_, _, _, h⟩ => by rw [h]; rfl
  | .raw b, v, h => RepF.one (F := F) (.raw b) v h

/-- Over frozen memory alone, a cell stands for the same beside tracked objects. -/
theorem RepF.toC {F : Mem} (H : List O) (μ : Nat → Value) : ∀ (c : C) (v : Value), RepF F c v → RepC F H μ c v := by
  intro c
  induction c with
  | fn f n get ih =>
    intro v hv
    obtain ⟨cs, hv, hs, hc⟩ := hv
    refine ⟨cs, hv, hs, fun j hj => ?_⟩
    obtain ⟨x, hx, hr⟩ := hc j hj
    exact ⟨x, hx, ih j x hr⟩
  | ptr id off => intro v hv; exact hv.elim
  | ep id i j t => intro v hv; exact hv.elim
  | sl id es l t x => intro v hv; exact hv.elim
  | mpr id => intro v hv; exact hv.elim
  | _ => intro v hv; exact hv

/-- What is kept as it is, whatever is done. -/
structure Keep where
  ds : List Deferred := []
  mem : Mem
  os : Os
  tape : Nat → Question → Nat
  output : Array (Nat × ByteArray)

def blk : Value → Option Nat
  | .pointer (some a) => some a.block
  | .slice (some a) _ _ => some a.block
  | .map (some b) => some b
  | _ => none

def owned (H : List O) (μ : Nat → Value) (id b : Nat) : Prop :=
  (∃ o, getL H id = some o ∧ o ≠ .dead) ∧ blk (μ id) = some b

/-- A map's value. -/
def RepV (F : Mem) (va : Bool) (m : Nat) (cs : Nat → C) (v : Value) : Prop :=
  (va = true → ∃ a, v = .agg a) ∧ (va = false → v.oneCell' = true) ∧ v.cells.size = m ∧ ∀ j, j < m → ∃ x, v.cells[j]? = some x ∧ RepF F (cs j) x

/-- What a map holds. -/
structure MRep (F : Mem) (sh : KS) (z : List Z) (va : Bool) (ks : List Key) (val : Key → Nat → C) (es : List MapEntry) : Prop where
  nd : ks.Nodup
  shp : ∀ k ∈ ks, k.sh = sh
  keys : es.map (·.key) = ks.map Key.toV
  vals : ∀ (i : Nat) (e : MapEntry) (k : Key), es[i]? = some e → ks[i]? = some k → RepV F va z.length (val k) e.val
  none : ∀ k, k.sh = sh → k ∉ ks → ∀ j, j < z.length → ∃ x, z[j]? = some x ∧ RepF F (val k j) x.toV

theorem RepV.mono {F G : Mem} (h : F.le G) {va : Bool} {m : Nat} {cs : Nat → C} {v : Value} (r : RepV F va m cs v) : RepV G va m cs v :=
  ⟨r.1, r.2.1, r.2.2.1, fun j hj => let ⟨x, h1, h2⟩ := r.2.2.2 j hj; ⟨x, h1, RepF.mono h _ x h2⟩⟩
theorem MRep.mono {F G : Mem} (h : F.le G) {sh : KS} {z : List Z} {va : Bool} {ks : List Key} {val : Key → Nat → C} {es : List MapEntry} (r : MRep F sh z va ks val es) : MRep G sh z va ks val es :=
  ⟨r.nd, r.shp, r.keys, fun i e k h1 h2 => (r.vals i e k h1 h2).mono h, fun k hs hk j hj => let ⟨x, h1, h2⟩ := r.none k hs hk j hj; ⟨x, h1, RepF.mono h _ x.toV h2⟩⟩

/-- The entries' stamps. -/
def Stp (es : List MapEntry) (ck : Nat) : Prop := (∀ x ∈ es, x.born < ck) ∧ (es.map (·.born)).Nodup

/-- All cells behind a slice are cells, those beyond its length too. -/
def Sp (w : World) (v : Value) : Prop := ∀ b c T fr, blk v = some b → w.heap[b]? = some (.cells c T fr) → ∀ x ∈ c.toList, x.oneCell' = true
theorem Sp.none {w : World} {v : Value} (h : blk v = none) : Sp w v := fun b c T fr hb => by rw [h] at hb; cases hb
theorem Sp.keep {w w' : World} {v : Value} (h : Sp w v) (hk : ∀ b, blk v = some b → w'.heap[b]? = w.heap[b]?) : Sp w' v := fun b c T fr hb hc => h b c T fr hb (by rw [← hk b hb]; exact hc)
theorem Sp.of {w : World} {v : Value} {b : Nat} {c : Array Value} {T : TypeId} {fr : Nat × Nat} (hb : blk v = some b) (hc : w.heap[b]? = some (.cells c T fr)) (h : ∀ x ∈ c.toList, x.oneCell' = true) : Sp w v := fun b' c' T' fr' hb' hc' => by
  rw [hb] at hb'
  cases hb'
  rw [hc] at hc'
  cases hc'
  exact h

theorem Sp.row {w w' : World} {e es n : Nat} {v : Value} {xs : List Value} (h : Sp w v) (ho : w.ownsRow 0 e es v n xs) (hk : ∀ b, b < w.heap.size → blk v = some b → w'.heap[b]? = w.heap[b]?) : Sp w' v := by
  rcases ho.2 with ⟨rfl, _⟩ | ⟨b, cap, cur, rfl, _, q3, _⟩
  · exact Sp.none rfl
  · refine h.keep fun b' hb' => ?_
    cases hb'
    exact hk b (Array.getElem?_eq_some_iff.1 q3).1 rfl
theorem Sp.kept {w w' : World} {e es n : Nat} {v : Value} {xs : List Value} (h : Sp w v) (ho : w.ownsRow 0 e es v n xs) (hk : ∀ b o, blk v = some b → w.heap[b]? = some o → w'.heap[b]? = some o) : Sp w' v := by
  rcases ho.2 with ⟨rfl, _⟩ | ⟨b, cap, cur, rfl, _, q3, _⟩
  · exact Sp.none rfl
  · exact Sp.of rfl (hk b _ rfl q3) (h b cur e (0, 0) rfl q3)
/-- Cells of two kinds, in a row. -/
theorem one_mid {l vs : List Value} {o k : Nat} (h : ∀ x ∈ l, x.oneCell' = true) (hv : ∀ x ∈ vs, x.oneCell' = true) : ∀ x ∈ (l.take o ++ vs ++ l.drop k), x.oneCell' = true := by
  intro x hx
  rcases List.mem_append.1 hx with hx | hx
  · rcases List.mem_append.1 hx with hx | hx
    · exact h x (List.mem_of_mem_take hx)
    · exact hv x hx
  · exact h x (List.mem_of_mem_drop hx)
def OSat (F : Mem) (H : List O) (μ : Nat → Value) (w : World) (id : Nat) : O → Prop
  | .vr cs => ∃ b c T, μ id = .pointer (some ⟨b, 0, none⟩) ∧ w.heap[b]? = some (.cells c T (0, 0)) ∧ RepL F H μ cs c
  | .arr e es n g => ∃ xs, w.ownsRow 0 e es (μ id) n xs ∧ n ≤ maxLen ∧ (∀ i, i < n → ∀ j, j < es → ∃ v, xs[i * es + j]? = some v ∧ RepC F H μ (g i j) v) ∧ Sp w (μ id)
  | .dead => True
  | .mp sh z va ks val => ∃ b es ck, μ id = .map (some b) ∧ w.heap[b]? = some (.map es ck) ∧ MRep F sh z va ks val es.toList ∧ Stp es.toList ck

structure HSat (K : Keep) (F : Mem) (H : List O) (μ : Nat → Value) (w : World) : Prop where
  os : w.os = K.os
  tape : w.tape = K.tape
  output : w.output = K.output
  fr : ∀ b o, F b = some o → w.heap[b]? = some o
  kp : ∀ b o, K.mem b = some o → w.heap[b]? = some o
  ob : ∀ id o, getL H id = some o → OSat F H μ w id o
  sp : ∀ id b, owned H μ id b → F b = none ∧ K.mem b = none
  ij : ∀ id id' b, owned H μ id b → owned H μ id' b → id = id'
  dj : ∀ b o, F b = some o → K.mem b = none

def TSat (F : Mem) (H : List O) (μ : Nat → Value) (ts : Ts) (tmps : Array Value) : Prop :=
  ∀ t, RepS F H μ (find t ts) (tmps.getD t undef)

theorem TSat.mono {F G : Mem} {H H' : List O} {μ μ' : Nat → Value} (h : F.le G) (k : Ext H μ H' μ') {ts : Ts} {tmps : Array Value} (ht : TSat F H μ ts tmps) : TSat G H' μ' ts tmps :=
  fun t => RepS.mono h k _ _ (ht t)

theorem TSat.put {F : Mem} {H : List O} {μ : Nat → Value} {ts : Ts} {a : Act} (ht : TSat F H μ ts a.tmps) {d : Nat} {s : S} {v : Value} (hd : d < a.tmps.size) (hs : RepS F H μ s v) :
    TSat F H μ ((d, s) :: ts) (a.put (some d) v).tmps := by
  intro t
  simp only [find, Act.put]
  cases hb : Nat.beq d t with
  | true =>
    have : d = t := Nat.eq_of_beq_eq_true hb
    subst this
    simpa [Array.getD, hd] using hs
  | false =>
    have hne : d ≠ t := by
      intro e; subst e; simp at hb
    have := ht t
    simp only [Array.getD_eq_getD_getElem?] at this ⊢
    rw [Array.getElem?_setIfInBounds_ne hne]
    exact this

/-- Something is put where nothing is known. -/
theorem TSat.put_u {F : Mem} {H : List O} {μ : Nat → Value} {ts : Ts} {a : Act} (ht : TSat F H μ ts a.tmps) {d : Nat} {v : Value} :
    TSat F H μ ((d, .u) :: ts) (a.put (some d) v).tmps := by
  intro t
  simp only [find, Act.put]
  cases hb : Nat.beq d t with
  | true => trivial
  | false =>
    have hne : d ≠ t := by
      intro e; subst e; simp at hb
    have := ht t
    simp only [Array.getD_eq_getD_getElem?] at this ⊢
    rw [Array.getElem?_setIfInBounds_ne hne]
    exact this

end Go.Am
end

section
/- THE ABSTRACT MACHINE, PART 1, beside: a struct of plain parts as a map's key. -/
namespace Go.Am
theorem bindOk {P : Program} {α β : Type} {x : Sem α} {f : α → Sem β} {w w' : World} {a : α} (h : x.run P w = .ok a w') : (x >>= f).run P w = (f a).run P w' := by simp [h, Result.andThen]
def fltK (P : Program) : List Field → Nat → List (Option IntKind) → Bool
  | [], _, [] => true
  | f :: r, o, q :: l => f.name != "_" && decide (f.offset = o) && P.plainKey f.type && (match P.underlying f.type, q with
    | some (.int k), some k' => decide (k = k')
    | some .string, none => true
    | _, _ => false) && fltK P r (o + 1) l
  | _, _, _ => false
def keyB (P : Program) (k : Nat) (l : List (Option IntKind)) : Bool := match P.underlying k with
  | some (.struct fs) => !P.stoodInHeld k && fltK P fs.toList 0 l
  | _ => false
def arrK (l : List KC) : Array Value := (l.map KC.toV).toArray
theorem arrK_get {l : List KC} {j : Nat} {x : KC} (h : l[j]? = some x) : (arrK l)[j]? = some x.toV := by simp [arrK, h]
theorem KC.inj {a b : KC} (h : a.toV = b.toV) : a = b := by
  cases a <;> cases b <;> simp only [KC.toV] at h <;> cases h <;> rfl
theorem mapV_inj0 : ∀ {l m : List KC}, l.map KC.toV = m.map KC.toV → l = m
  | [], [], _ => rfl
  | [], _ :: _, h => by simp at h
  | _ :: _, [], h => by simp at h
  | a :: l, b :: m, h => by
    simp only [List.map_cons, List.cons.injEq] at h
    rw [KC.inj h.1, mapV_inj0 h.2]
theorem flat_eq {P : Program} {w : World} (N : Nat) (x y : List KC) : ∀ (fs : List Field) (o : Nat) (l : List (Option IntKind)), fltK P fs o l = true → (x.drop o).map KC.sh = l → (y.drop o).map KC.sh = l →
    ∃ r : Bool, (Op.eqFields (N + 1) (arrK x) (arrK y) fs).run P w = .ok r w ∧ (r = true ↔ x.drop o = y.drop o)
  | [], o, [], _, hx, hy => ⟨true, rfl, by
      have h1 : x.drop o = [] := List.map_eq_nil_iff.1 hx
      have h2 : y.drop o = [] := List.map_eq_nil_iff.1 hy
      simp [h1, h2]⟩
  | f :: r, o, q :: l, h, hx, hy => by
    simp only [fltK, Bool.and_eq_true, decide_eq_true_eq, bne_iff_ne] at h
    obtain ⟨⟨⟨⟨h1, rfl⟩, h2⟩, h3⟩, h4⟩ := h
    have cut : ∀ z : List KC, (z.drop f.offset).map KC.sh = q :: l → ∃ a, z[f.offset]? = some a ∧ a.sh = q ∧ z.drop f.offset = a :: z.drop (f.offset + 1) ∧ (z.drop (f.offset + 1)).map KC.sh = l := fun z hz => by
      cases hd : z.drop f.offset with
      | nil => rw [hd] at hz; cases hz
      | cons a r' =>
        rw [hd] at hz
        simp only [List.map_cons, List.cons.injEq] at hz
        have e0 : z[f.offset]? = some a := by
          have := congrArg (·[0]?) hd
          simpa using this
        have e1 : z.drop (f.offset + 1) = r' := by
          have := congrArg (List.drop 1) hd
          simpa using this
        exact ⟨a, e0, hz.1, by rw [e1], by rw [e1]; exact hz.2⟩
    obtain ⟨a, a1, a2, a3, a4⟩ := cut x hx
    obtain ⟨b, b1, b2, b3, b4⟩ := cut y hy
    obtain ⟨r', r1, r2⟩ := flat_eq (w := w) N x y r (f.offset + 1) l h4 a4 b4
    have heq : ∃ t : Bool, (Op.equalIn (N + 1) f.type a.toV b.toV).run P w = .ok t w ∧ (t = true ↔ a = b) := by
      unfold Op.equalIn
      cases hu : P.underlying f.type with
      | none => rw [hu] at h3; simp at h3
      | some d =>
        rw [hu] at h3
        rw [bindOk (run_underlying hu w)]
        split at h3
        · rename_i k k' e
          cases e
          have := of_decide_eq_true h3
          subst this
          cases a with
          | s _ => cases a2
          | i ka na =>
            cases b with
            | s _ => cases b2
            | i kb nb =>
              cases a2; cases b2
              exact ⟨na == nb, by simp [KC.toV], by simp⟩
        · rename_i e
          cases e
          cases a with
          | i _ _ => cases a2
          | s sa =>
            cases b with
            | i _ _ => cases b2
            | s sb => exact ⟨sa == sb, rfl, by simp [MapKept.bytes_beq]⟩
        · cases h3
    obtain ⟨t, t1, t2⟩ := heq
    simp only [Op.eqFields, if_pos h1]
    rw [bindOk (run_part_plain w h2 (arrK_get a1)), bindOk (run_part_plain w h2 (arrK_get b1)), bindOk t1]
    rw [a3, b3]
    cases t with
    | false =>
      refine ⟨false, by simp, ?_⟩
      have : a ≠ b := fun e => by have := t2.2 e; cases this
      simp [this]
    | true =>
      refine ⟨r', by simpa using r1, ?_⟩
      rw [r2]
      have := t2.1 rfl
      simp [this]
  | [], _, _ :: _, h, _, _ => by simp [fltK] at h
  | _ :: _, _, [], h, _, _ => by simp [fltK] at h
theorem run_equal_key {P : Program} {w : World} {k : Nat} {fs : Array Field} {l : List (Option IntKind)} (hu : P.underlying k = some (.struct fs)) (hs : P.stoodInHeld k = false) (hf : fltK P fs.toList 0 l = true) {x y : List KC} (hx : x.map KC.sh = l) (hy : y.map KC.sh = l) :
    ∃ r : Bool, (Op.equal k (.agg (arrK x)) (.agg (arrK y))).run P w = .ok r w ∧ (r = true ↔ x = y) := by
  obtain ⟨r, r1, r2⟩ := flat_eq (P := P) (w := w) 9998 x y fs.toList 0 l hf hx hy
  refine ⟨r, ?_, by simpa using r2⟩
  have hfs : P.fieldsOf k = fs := by simp [Program.fieldsOf, hu]
  show (Op.equalIn (9999 + 1) k _ _).run P w = _
  rw [run_equalIn_struct w 9999 k (arrK x) (arrK y) (by rw [hfs]; exact hu) hs, hfs]
  exact r1
theorem flat_check {P : Program} {w : World} {em : Bool} (N : Nat) (x : List KC) : ∀ (fs : List Field) (o : Nat) (l : List (Option IntKind)), fltK P fs o l = true → (x.drop o).map KC.sh = l →
    ∀ f ∈ fs, f.name ≠ "_" ∧ ∃ v, (part f.type (arrK x) f.offset).run P w = .ok v w ∧ (Instr.checkKey em (N + 1) f.type v).run P w = .ok () w
  | [], _, _, _, _ => by simp
  | f :: r, o, q :: l, h, hx => by
    simp only [fltK, Bool.and_eq_true, decide_eq_true_eq, bne_iff_ne] at h
    obtain ⟨⟨⟨⟨h1, rfl⟩, h2⟩, h3⟩, h4⟩ := h
    cases hd : x.drop f.offset with
    | nil => rw [hd] at hx; cases hx
    | cons a r' =>
      have e0 : x[f.offset]? = some a := by
        have := congrArg (·[0]?) hd
        simpa using this
      have e1 : x.drop (f.offset + 1) = r' := by
        have := congrArg (List.drop 1) hd
        simpa using this
      rw [hd] at hx
      simp only [List.map_cons, List.cons.injEq] at hx
      have ih := flat_check (P := P) (w := w) (em := em) N x r (f.offset + 1) l h4 (by rw [e1]; exact hx.2)
      intro g hg
      rcases List.mem_cons.1 hg with rfl | hg
      · refine ⟨h1, a.toV, run_part_plain w h2 (arrK_get e0), ?_⟩
        cases hu : P.underlying g.type with
        | none => rw [hu] at h3; simp at h3
        | some d =>
          rw [hu] at h3
          split at h3
          · rename_i k k' e
            cases e
            cases a with
            | s _ => cases hx.1
            | i ka na => cases hx.1; exact MapKept.run_checkKey hu (by have := of_decide_eq_true h3; simp [MapKept.IsKey, KC.toV, this]) em N
          · rename_i e
            cases e
            cases a with
            | i _ _ => cases hx.1
            | s sa => exact MapKept.run_checkKey hu (by simp [MapKept.IsKey, KC.toV]) em N
          · cases h3
      · exact ih g hg
  | _ :: _, _, [], h, _ => by simp [fltK] at h
theorem run_check_key {P : Program} {w : World} {k : Nat} {fs : Array Field} {l : List (Option IntKind)} (hu : P.underlying k = some (.struct fs)) (hf : fltK P fs.toList 0 l = true) {x : List KC} (hx : x.map KC.sh = l) (em : Bool) :
    (Instr.checkKey em 10000 k (.agg (arrK x))).run P w = .ok () w := by
  have each := flat_check (P := P) (w := w) (em := em) 9998 x fs.toList 0 l hf (by simpa using hx)
  rw [show 10000 = 9999 + 1 from rfl, Instr.checkKey]
  simp only [Sem.run_bind, run_underlying hu, Result.andThen_ok]
  rw [← Array.forIn_toList]
  generalize fs.toList = L at each
  induction L with
  | nil => simp
  | cons f L ih =>
    obtain ⟨hn, v, p1, p2⟩ := each f (by simp)
    simp only [List.forIn_cons, Sem.run_bind, hn, ne_eq, not_false_eq_true, if_true, Result.andThen_ok, p1, p2, Sem.run_pure]
    exact ih (fun y hy => each y (by simp [hy]))
theorem same_key : ∀ (l : List KC), ((l.map KC.toV).zip (l.map KC.toV)).all (fun (x, y) => Instr.sameBits 9999 x y) = true
  | [] => rfl
  | a :: l => by
    simp only [List.map_cons, List.zip_cons_cons, List.all_cons, Bool.and_eq_true]
    refine ⟨?_, same_key l⟩
    cases a with
    | i k n => simp [Instr.sameBits, KC.toV]
    | s b => simp [Instr.sameBits, KC.toV, MapKept.bytes_beq]
theorem ask_key {P : Program} {w : World} {k : Nat} {fs : Array Field} {l : List (Option IntKind)} (hu : P.underlying k = some (.struct fs)) (hs : P.stoodInHeld k = false) (hf : fltK P fs.toList 0 l = true) {x : List KC} (hx : x.map KC.sh = l) :
    ∀ (es : List MapEntry) (i : Nat), (∀ e ∈ es, ∃ y : List KC, y.map KC.sh = l ∧ e.key = .agg (arrK y)) →
    ((Instr.findAsking k (.agg (arrK x)) es i).run P w = .ok none w ∧ ∀ e ∈ es, e.key ≠ .agg (arrK x)) ∨ ∃ (j : Nat) (e : MapEntry), (Instr.findAsking k (.agg (arrK x)) es i).run P w = .ok (some (i + j, e.val)) w ∧ es[j]? = some e ∧ e.key = .agg (arrK x)
  | [], i, _ => .inl ⟨rfl, by simp⟩
  | e :: es, i, h => by
    obtain ⟨y, y1, y2⟩ := h e (by simp)
    obtain ⟨r, r1, r2⟩ := run_equal_key (P := P) (w := w) hu hs hf hx y1
    unfold Instr.findAsking
    rw [y2, bindOk r1]
    cases r with
    | true =>
      refine .inr ⟨0, e, by simp, rfl, ?_⟩
      rw [y2, r2.1 rfl]
    | false =>
      have hne : x ≠ y := fun q => by have := r2.2 q; cases this
      rcases ask_key hu hs hf hx es (i + 1) (fun e he => h e (by simp [he])) with ⟨h1, h2⟩ | ⟨j, e', h1, h2, h3⟩
      · refine .inl ⟨by simpa using h1, fun e' he' => ?_⟩
        rcases List.mem_cons.1 he' with rfl | he'
        · rw [y2]
          intro q
          have : arrK y = arrK x := by injection q
          apply hne
          have hh := Array.toList_inj.2 this
          simp only [arrK] at hh
          exact mapV_inj0 hh.symm
        · exact h2 e' he'
      · exact .inr ⟨j + 1, e', by rw [show i + (j + 1) = i + 1 + j by omega]; simpa using h1, by simpa using h2, h3⟩
theorem find_key {P : Program} {w : World} {k : Nat} {fs : Array Field} {l : List (Option IntKind)} (hu : P.underlying k = some (.struct fs)) (hs : P.stoodInHeld k = false) (hf : fltK P fs.toList 0 l = true) {x : List KC} (hx : x.map KC.sh = l)
    (es : List MapEntry) (h : ∀ e ∈ es, ∃ y : List KC, y.map KC.sh = l ∧ e.key = .agg (arrK y)) :
    ((Instr.findKey k (.agg (arrK x)) es).run P w = .ok none w ∧ ∀ e ∈ es, e.key ≠ .agg (arrK x)) ∨ ∃ (j : Nat) (e : MapEntry), (Instr.findKey k (.agg (arrK x)) es).run P w = .ok (some (j, e.val)) w ∧ es[j]? = some e ∧ e.key = .agg (arrK x) := by
  have key : (Instr.findKey k (.agg (arrK x)) es).run P w = (Instr.findAsking k (.agg (arrK x)) es 0).run P w := by
    unfold Instr.findKey
    rw [bindOk (run_underlying hu w)]
    cases es with
    | nil => rfl
    | cons e es => rfl
  rw [key]
  have := ask_key (P := P) (w := w) hu hs hf hx es 0 h
  simpa using this
end Go.Am
end

section
/- THE ABSTRACT MACHINE, PART 2: types; the operations that change nothing that is tracked. -/
namespace Go.Am

inductive TD where
  | bool | int (k : IntKind) | str | ptr (e : Nat) | slice (e : Nat) | strct (fs : List (Nat × Nat)) | arr (n e : Nat) | fn | map (sh : KS) (k e : Nat)

structure TI where
  td : TD
  size : Nat
  bytes : Nat
  zero : List Z

abbrev Env := List (Nat × TI)

def Env.at : Env → Nat → Option TI
  | [], _ => none
  | (u, i) :: r, t => match Nat.beq u t with
    | true => some i
    | false => Env.at r t

def TI.agg (i : TI) : Bool := match i.td with
  | .strct _ | .arr _ _ => true
  | _ => false

/-- What is known of a map's keys: they can be looked for. -/
structure KL (P : Program) (k : Nat) (sh : KS) : Prop where
  check : ∀ (w : World) (em : Bool) (x : Key), x.sh = sh → (Instr.checkKey em 10000 k x.toV).run P w = .ok () w
  find : ∀ (w : World) (x : Key), x.sh = sh → ∀ es : List MapEntry, (∀ e ∈ es, ∃ y : Key, y.sh = sh ∧ e.key = y.toV) →
    ((Instr.findKey k x.toV es).run P w = .ok none w ∧ ∀ e ∈ es, e.key ≠ x.toV) ∨ ∃ (j : Nat) (e : MapEntry), (Instr.findKey k x.toV es).run P w = .ok (some (j, e.val)) w ∧ es[j]? = some e ∧ e.key = x.toV
  stays : ∀ (w : World) (x : Key), x.sh = sh → (Instr.keyThatStays x.toV x.toV).run P w = .ok x.toV w

theorem KL.of {P : Program} {k : Nat} {d : TypeDesc} (hd : P.underlying k = some d) {q : Option IntKind} (h : ∀ x : Key, x.sh = .c q → MapKept.IsKey d x.toV) : KL P k (.c q) where
  check w em x hx := MapKept.run_checkKey hd (h x hx) em 9999
  find w x hx es hes := by
    rcases MapKept.findNow_spec (h x hx) es 0 (fun e he => let ⟨y, h1, h2⟩ := hes e he; h2 ▸ h y h1) with ⟨h1, h2⟩ | ⟨j, e, h1, h2, h3⟩
    · exact .inl ⟨MapKept.run_findKey hd h1, h2⟩
    · exact .inr ⟨j, e, MapKept.run_findKey hd (by rw [h1, Nat.zero_add]), h2, h3⟩
  stays w x hx := MapKept.run_keyThatStays (h x hx)

theorem KL.int {P : Program} {k : Nat} {q : IntKind} (hd : P.underlying k = some (.int q)) : KL P k (.c (some q)) :=
  KL.of hd fun x hx => by
    cases x with
    | a l => cases hx
    | c y => cases y with
      | s b => cases hx
      | i k n => cases hx; simp [MapKept.IsKey, Key.toV, KC.toV]
theorem KL.str {P : Program} {k : Nat} (hd : P.underlying k = some .string) : KL P k (.c none) :=
  KL.of hd fun x hx => by
    cases x with
    | a l => cases hx
    | c y => cases y with
      | i k n => cases hx
      | s b => simp [MapKept.IsKey, Key.toV, KC.toV]

theorem KL.strct {P : Program} {k : Nat} {l : List (Option IntKind)} (h : keyB P k l = true) : KL P k (.a l) := by
  unfold keyB at h
  split at h
  · rename_i fs hu
    simp only [Bool.and_eq_true, Bool.not_eq_true'] at h
    have un : ∀ x : Key, x.sh = .a l → ∃ m : List KC, x = .a m ∧ m.map KC.sh = l ∧ x.toV = .agg (arrK m) := fun x hx => by
      cases x with
      | c _ => cases hx
      | a m => exact ⟨m, rfl, by simpa [Key.sh] using hx, rfl⟩
    refine ⟨fun w em x hx => ?_, fun w x hx es hes => ?_, fun w x hx => ?_⟩
    · obtain ⟨m, rfl, h1, h2⟩ := un x hx
      rw [h2]; exact run_check_key hu h.2 h1 em
    · obtain ⟨m, rfl, h1, h2⟩ := un x hx
      rw [h2]
      exact find_key hu h.1 h.2 h1 es fun e he => by
        obtain ⟨y, y1, y2⟩ := hes e he
        obtain ⟨n, rfl, n1, n2⟩ := un y y1
        exact ⟨n, n1, y2.trans n2⟩
    · obtain ⟨m, rfl, h1, h2⟩ := un x hx
      rw [h2]
      have : Instr.sameBits 10000 (.agg (arrK m)) (.agg (arrK m)) = true := by
        show ((arrK m).size == (arrK m).size && ((arrK m).toList.zip (arrK m).toList).all fun (x, y) => Instr.sameBits 9999 x y) = true
        rw [Bool.and_eq_true]
        exact ⟨by simp, same_key m⟩
      simp [Instr.keyThatStays, this]
  · cases h

def tdOk (P : Program) : TypeDesc → TD → Prop
  | .bool, .bool => True
  | .int k, .int k' => k = k'
  | .string, .str => True
  | .pointer e, .ptr e' => e = e'
  | .slice e, .slice e' => e = e'
  | .struct fs, .strct l => l = fs.toList.map (fun f => (f.offset, f.type)) ∧ ∀ f ∈ fs.toList, ∃ i, P.info? f.type = some i ∧ i.size ≠ 0
  | .array n e, .arr n' e' => n = n' ∧ e = e'
  | .func .., .fn => True
  | .map k e, .map sh k' e' => k = k' ∧ e = e' ∧ KL P k sh
  | _, _ => False

def Z.plain : Z → Bool
  | .b => true
  | .i _ => true
  | .s => true
  | _ => false

/-- A struct of plain cells, whatever its fields. -/
def TI.flat (i : TI) : Bool := match i.td with
  | .strct _ => i.zero.all Z.plain
  | _ => false

def zkind : TypeDesc → Z → Bool
  | .bool, .b => true
  | .int q, .i q' => decide (q = q')
  | .string, .s => true
  | _, _ => false

/-- The fields lie one behind the other. -/
def tileB (P : Program) : List Field → Nat → Nat → Bool
  | [], o, n => decide (o = n)
  | f :: r, o, n => decide (f.offset = o) && tileB P r (o + P.cellsOf f.type) n

/-- A type whose cells are plain, of these kinds. -/
def deepB (P : Program) : Nat → Nat → List Z → Bool
  | 0, _, _ => false
  | d + 1, t, zs => match P.underlying t with
    | some (.struct fs) => !P.stoodInHeld t && tileB P fs.toList 0 zs.length && fs.toList.all fun f => f.name != "_" && decide (((zs.drop f.offset).take (P.cellsOf f.type)).length = P.cellsOf f.type) && deepB P d f.type ((zs.drop f.offset).take (P.cellsOf f.type))
    | some k => P.plainKey t && (match zs with
      | [z] => zkind k z
      | _ => false)
    | none => false

structure TIok (P : Program) (t : Nat) (i : TI) : Prop where
  info : ∃ x, P.info? t = some x ∧ x.size = i.size ∧ x.bytes = i.bytes ∧ ∃ z, x.zero = some z ∧ z.cells.toList = i.zero.map Z.toV
  und : ∃ d, P.underlying t = some d ∧ tdOk P d i.td
  flt : i.flat = true → deepB P 20 t i.zero = true ∧ P.eqGuardType P.depth t = false ∧ ∃ fs, P.underlying t = some (.struct fs)
  zag : ∀ x z, P.info? t = some x → x.zero = some z → (i.agg = true → ∃ a, z = .agg a) ∧ (i.agg = false → z.oneCell' = true)

def EnvOk (P : Program) (Γ : Env) : Prop := ∀ t i, Γ.at t = some i → TIok P t i

def zOf : Value → Option Z
  | .bool false => some .b
  | .int k n => if n = 0 then some (.i k) else none
  | .string s => if s.size = 0 then some .s else none
  | .pointer none => some .p
  | .slice none 0 0 => some .sl
  | .nilFunc => some .f
  | .map none => some .m
  | _ => none

theorem zOf_ok {v : Value} {z : Z} (h : zOf v = some z) : v = z.toV := by
  unfold zOf at h
  split at h <;> first | (cases h; rfl) | skip
  · split at h
    · cases h; rename_i e; subst e; rfl
    · cases h
  · split at h
    · rename_i s e
      cases h
      show Value.string s = Value.string ByteArray.empty
      congr 1
      have : s.data = #[] := by apply Array.eq_empty_of_size_eq_zero; exact e
      cases s; simp_all
    · cases h
  · cases h

def zsOf : List Value → Option (List Z)
  | [] => some []
  | v :: r => match zOf v, zsOf r with
    | some z, some zs => some (z :: zs)
    | _, _ => none

theorem zsOf_ok : ∀ (l : List Value) (zs : List Z), zsOf l = some zs → l = zs.map Z.toV
  | [], zs, h => by simp [zsOf] at h; subst h; rfl
  | v :: r, zs, h => by
    simp only [zsOf] at h
    cases h1 : zOf v with
    | none => simp [h1] at h
    | some z =>
      cases h2 : zsOf r with
      | none => simp [h1, h2] at h
      | some zs' =>
        simp only [h1, h2, Option.some.injEq] at h
        subst h
        rw [List.map_cons, ← zOf_ok h1, ← zsOf_ok r zs' h2]

def tdB (P : Program) : TypeDesc → TD → Bool
  | .bool, .bool => true
  | .int k, .int k' => decide (k = k')
  | .string, .str => true
  | .pointer e, .ptr e' => decide (e = e')
  | .slice e, .slice e' => decide (e = e')
  | .struct fs, .strct l => decide (l = fs.toList.map (fun f => (f.offset, f.type))) && fs.toList.all (fun f => match P.info? f.type with | some i => decide (i.size ≠ 0) | none => false)
  | .array n e, .arr n' e' => decide (n = n') && decide (e = e')
  | .func .., .fn => true
  | .map k e, .map sh k' e' => decide (k = k') && decide (e = e') && (match sh with | .a l => keyB P k l | sh => match P.underlying k, sh with | some (.int q), .c (some q') => decide (q = q') | some .string, .c none => true | _, _ => false)
  | _, _ => false

theorem tdB_ok {P : Program} {d : TypeDesc} {t : TD} (h : tdB P d t = true) : tdOk P d t := by
  unfold tdB at h
  split at h
  case h_6 fs l =>
    simp only [Bool.and_eq_true, decide_eq_true_eq, List.all_eq_true] at h
    refine ⟨h.1, fun f hf => ?_⟩
    have := h.2 f hf
    cases hi : P.info? f.type with
    | none => simp [hi] at this
    | some i => exact ⟨i, rfl, by simpa [hi] using this⟩
  case h_9 k e sh k' e' =>
    simp only [Bool.and_eq_true, decide_eq_true_eq] at h
    obtain ⟨⟨rfl, rfl⟩, h⟩ := h
    refine ⟨rfl, rfl, ?_⟩
    split at h
    · exact KL.strct h
    · split at h
      · rename_i q q' hq _
        have : q = q' := of_decide_eq_true h
        subst this
        exact KL.int hq
      · rename_i hq _
        exact KL.str hq
      · cases h
  all_goals simp_all [tdOk]

def flatB (P : Program) (t : Nat) (i : TI) : Bool :=
  deepB P 20 t i.zero && !P.eqGuardType P.depth t && (match P.underlying t with
    | some (.struct _) => true
    | _ => false)

theorem flatB_ok {P : Program} {t : Nat} {i : TI} (h : flatB P t i = true) : deepB P 20 t i.zero = true ∧ P.eqGuardType P.depth t = false ∧ ∃ fs, P.underlying t = some (.struct fs) := by
  unfold flatB at h
  simp only [Bool.and_eq_true, Bool.not_eq_true'] at h
  refine ⟨h.1.1, h.1.2, ?_⟩
  have h3 := h.2
  split at h3
  · rename_i fs hu; exact ⟨fs, hu⟩
  · cases h3

def tiB (P : Program) (t : Nat) (i : TI) : Bool :=
  match P.info? t, P.underlying t with
  | some x, some d => decide (x.size = i.size) && decide (x.bytes = i.bytes) && (match x.zero with | some z => decide (zsOf z.cells.toList = some i.zero) && (match z with | .agg _ => i.agg | _ => !i.agg && z.oneCell') | none => false) && (!i.flat || flatB P t i) && tdB P d i.td
  | _, _ => false

theorem tiB_ok {P : Program} {t : Nat} {i : TI} (h : tiB P t i = true) : TIok P t i := by
  unfold tiB at h
  cases h1 : P.info? t with
  | none => simp [h1] at h
  | some x =>
    cases h2 : P.underlying t with
    | none => simp [h1, h2] at h
    | some d =>
      simp only [h1, h2, Bool.and_eq_true, decide_eq_true_eq] at h
      obtain ⟨⟨⟨⟨e1, e2⟩, e3⟩, e5⟩, e4⟩ := h
      cases hz : x.zero with
      | none => simp [hz] at e3
      | some z =>
        simp only [hz, Bool.and_eq_true, decide_eq_true_eq] at e3
        refine ⟨⟨x, h1, e1, e2, z, hz, zsOf_ok _ _ e3.1⟩, ⟨d, h2, tdB_ok e4⟩, fun hfl => flatB_ok (by rw [hfl] at e5; simpa using e5), fun x' z' hx' hz' => ?_⟩
        rw [h1] at hx'
        cases hx'
        rw [hz] at hz'
        cases hz'
        have h3 := e3.2
        split at h3
        · exact ⟨fun _ => ⟨_, rfl⟩, fun e => (by rw [e] at h3; cases h3)⟩
        · simp only [Bool.and_eq_true, Bool.not_eq_true'] at h3
          exact ⟨fun e => (by rw [h3.1] at e; cases e), fun _ => h3.2⟩

def envB (P : Program) (Γ : Env) : Bool := Γ.all fun x => tiB P x.1 x.2

theorem envB_ok {P : Program} {Γ : Env} (h : envB P Γ = true) : EnvOk P Γ := by
  intro t i hi
  induction Γ with
  | nil => simp [Env.at] at hi
  | cons x r ih =>
    obtain ⟨u, j⟩ := x
    simp only [envB, List.all_cons, Bool.and_eq_true] at h
    simp only [Env.at] at hi
    cases hb : Nat.beq u t with
    | true =>
      have : u = t := Nat.eq_of_beq_eq_true hb
      subst this
      simp only [hb, Option.some.injEq] at hi
      subst hi
      exact tiB_ok h.1
    | false =>
      simp only [hb] at hi
      exact ih h.2 hi

/-- A constant. -/
def constC : Value → Option C
  | .bool b => some (.bool b)
  | .int k n => some (.int k n)
  | .string s => match Nat.ble s.size 1000000 with
    | true => some (.str s)
    | false => none
  | .pointer none => some .nilp
  | .slice none 0 0 => some .nils
  | .nilFunc => some .nilfn
  | .map none => some .nilm
  | _ => none

def constL : List Value → Option (List C)
  | [] => some []
  | v :: r => match constC v with
    | some c => match constL r with
      | some l => some (c :: l)
      | none => none
    | none => none

def constS (v : Value) : S :=
  match v with
  | .agg cs => match constL cs.toList with
    | some l => .a l
    | none => .u
  | v => match constC v with
    | some c => .c c
    | none => .u

theorem constC_ok {F : Mem} {H : List O} {μ : Nat → Value} {v : Value} {c : C} (h : constC v = some c) : RepC F H μ c v := by
  unfold constC at h
  split at h <;> first | (cases h; rfl) | skip
  · split at h
    · rename_i hb
      cases h
      refine ⟨rfl, ?_⟩
      have := Nat.le_of_ble_eq_true hb
      unfold maxLen
      omega
    · cases h
  · cases h

theorem constL_ok {F : Mem} {H : List O} {μ : Nat → Value} : ∀ {l : List Value} {cs : List C}, constL l = some cs → l.length = cs.length ∧ ∀ (j : Nat) x, getL cs j = some x → ∃ v, l[j]? = some v ∧ RepC F H μ x v
  | [], cs, h => by simp [constL] at h; subst h; simp [getL]
  | v :: r, cs, h => by
    simp only [constL] at h
    cases h1 : constC v with
    | none => simp [h1] at h
    | some c =>
      cases h2 : constL r with
      | none => simp [h1, h2] at h
      | some l =>
        simp only [h1, h2, Option.some.injEq] at h
        subst h
        obtain ⟨e1, e2⟩ := constL_ok (F := F) (H := H) (μ := μ) h2
        refine ⟨by simp [e1], fun j x hx => ?_⟩
        cases j with
        | zero => simp [getL] at hx; subst hx; exact ⟨v, by simp, constC_ok h1⟩
        | succ j => simp only [getL] at hx; simpa using e2 j x hx

theorem constS_ok {F : Mem} {H : List O} {μ : Nat → Value} (v : Value) : RepS F H μ (constS v) v := by
  have key : ∀ v : Value, RepS F H μ (match constC v with | some c => .c c | none => .u) v := by
    intro v
    cases hc : constC v with
    | none => trivial
    | some c => exact constC_ok (F := F) (H := H) (μ := μ) hc
  cases v with
  | agg cs =>
    simp only [constS]
    cases hl : constL cs.toList with
    | none => trivial
    | some l =>
      obtain ⟨e1, e2⟩ := constL_ok (F := F) (H := H) (μ := μ) hl
      exact ⟨cs, rfl, by simpa using e1, fun j x hx => by simpa using e2 j x hx⟩
  | bool b => exact key (.bool b)
  | int k n => exact key (.int k n)
  | float k n => exact key (.float k n)
  | complex k n m => exact key (.complex k n m)
  | string s => exact key (.string s)
  | pointer p => exact key (.pointer p)
  | slice p n m => exact key (.slice p n m)
  | map r => exact key (.map r)
  | chan r => exact key (.chan r)
  | func f x y => exact key (.func f x y)
  | nilFunc => exact key .nilFunc
  | iface t v => exact key (.iface t v)
  | nilIface => exact key .nilIface
  | tuple vs => exact key (.tuple vs)

def opnd (ts : Ts) : Operand → S
  | .tmp t => find t ts
  | .const v => constS v
  | .global _ => .u
  | .func f => .c (.fn (.func f) 0 fun _ => .junk)

theorem opnd_ok {F : Mem} {H : List O} {μ : Nat → Value} {ts : Ts} {a : Act} (h : TSat F H μ ts a.tmps) : ∀ x, RepS F H μ (opnd ts x) (a.eval x)
  | .tmp t => h t
  | .const v => constS_ok v
  | .global _ => trivial
  | .func f => ⟨#[], rfl, rfl, fun j hj => by omega⟩

/-- A guarded value laid bare: what must be known for it. -/
def bare : S → List Prop × S
  | .lz g s => match bare s with
    | (p, s') => ((g = true) :: p, s')
  | s => ([], s)

theorem bare_ok {F : Mem} {H : List O} {μ : Nat → Value} : ∀ {s s' : S} {p : List Prop} {v : Value}, RepS F H μ s v → bare s = (p, s') → (∀ q ∈ p, q) → RepS F H μ s' v
  | .u, _, _, _, h, e, _ => by simp only [bare, Prod.mk.injEq] at e; obtain ⟨_, rfl⟩ := e; exact h
  | .c x, _, _, _, h, e, _ => by simp only [bare, Prod.mk.injEq] at e; obtain ⟨_, rfl⟩ := e; exact h
  | .a x, _, _, _, h, e, _ => by simp only [bare, Prod.mk.injEq] at e; obtain ⟨_, rfl⟩ := e; exact h
  | .t x, _, _, _, h, e, _ => by simp only [bare, Prod.mk.injEq] at e; obtain ⟨_, rfl⟩ := e; exact h
  | .so .., s', p, v, h, e, hp => by cases e; exact h
  | .lz g s, s', p, v, h, e, hp => by
    simp only [bare] at e
    cases hs : bare s with
    | mk p' s'' =>
      simp only [hs, Prod.mk.injEq] at e
      obtain ⟨rfl, rfl⟩ := e
      have hg : g = true := hp _ (by simp)
      exact bare_ok (h.1 hg) hs (fun q hq => hp q (by simp [hq]))

def intOp (op : BinOp) (k : IntKind) (x y : Int) : Option (List Prop × C) :=
  match op with
  | .add => some ([], .int k (k.wrap (x + y)))
  | .sub => some ([], .int k (k.wrap (x - y)))
  | .mul => some ([], .int k (k.wrap (x * y)))
  | .quo => some ([y ≠ 0], .int k (k.wrap (x.tdiv y)))
  | .rem => some ([y ≠ 0], .int k (x.tmod y))
  | .and => some ([], .int k (k.wrap (BitVec.ofInt k.bits x &&& BitVec.ofInt k.bits y).toNat))
  | .or => some ([], .int k (k.wrap (BitVec.ofInt k.bits x ||| BitVec.ofInt k.bits y).toNat))
  | .xor => some ([], .int k (k.wrap (BitVec.ofInt k.bits x ^^^ BitVec.ofInt k.bits y).toNat))
  | .andNot => some ([], .int k (k.wrap (BitVec.ofInt k.bits x &&& ~~~ BitVec.ofInt k.bits y).toNat))
  | .eql => some ([], .bool (x == y))
  | .neq => some ([], .bool (x != y))
  | .lss => some ([], .bool (decide (x < y)))
  | .leq => some ([], .bool (decide (x ≤ y)))
  | .gtr => some ([], .bool (decide (x > y)))
  | .geq => some ([], .bool (decide (x ≥ y)))
  | _ => none

def shiftOp (op : BinOp) (k : IntKind) (x y : Int) : Option (List Prop × C) :=
  match op with
  | .shl => some ([0 ≤ y], .int k (k.wrap (x * 2 ^ (min y.toNat k.bits))))
  | .shr => some ([0 ≤ y], .int k (x.fdiv (2 ^ (min y.toNat k.bits))))
  | _ => none

/-- Is a text less than another one? -/
def strLt (x y : ByteArray) : Bool := Op.bytesLess x.toList y.toList

def strOp (op : BinOp) (x y : ByteArray) : Option (List Prop × C) :=
  match op with
  | .eql => some ([], .bool (decide (x = y)))
  | .neq => some ([], .bool (!decide (x = y)))
  | .add => some ([x.size + y.size ≤ 9223372036854775807], .str (x ++ y))
  | .lss => some ([], .bool (strLt x y))
  | .leq => some ([], .bool (strLt x y || decide (x = y)))
  | .gtr => some ([], .bool !(strLt x y || decide (x = y)))
  | .geq => some ([], .bool !(strLt x y))
  | _ => none

def boolOp (op : BinOp) (x y : Bool) : Option (List Prop × C) :=
  match op with
  | .eql => some ([], .bool (x == y))
  | .neq => some ([], .bool (!(x == y)))
  | _ => none

def isShift : BinOp → Bool
  | .shl | .shr => true
  | _ => false

def binC (op : BinOp) (x y : C) : Option (List Prop × C) :=
  match x with
  | .int k a => match y with
    | .int k' b => match isShift op with
      | true => shiftOp op k a b
      | false => match decide (k = k') with
        | true => intOp op k a b
        | false => none
    | _ => none
  | .str a => match y with
    | .str b => strOp op a b
    | _ => none
  | .bool a => match y with
    | .bool b => boolOp op a b
    | _ => none
  | _ => none

theorem bytes_beq (a b : ByteArray) : (a.toList == b.toList) = decide (a = b) := by
  have key : a.toList = b.toList ↔ a = b := by
    constructor
    · intro h
      rw [ByteArray.toList_eq, ByteArray.toList_eq] at h
      cases a; cases b; simp_all [Array.toList_inj]
    · intro h; rw [h]
  by_cases e : a = b
  · subst e; simp
  · rw [decide_eq_false e]
    rw [beq_eq_false_iff_ne]
    exact fun h => e (key.1 h)

theorem strOp_run {op : BinOp} {a b : ByteArray} {ns : List Prop} {c : C} (P : Program) (w : World) (h : strOp op a b = some (ns, c)) (hn : ∀ p ∈ ns, p) :
    ∃ v, (Op.stringOp op a b).run P w = .ok v w ∧ ∀ F, RepF F c v := by
  cases op <;> simp only [strOp, Option.some.injEq, Prod.mk.injEq, reduceCtorEq] at h
  · obtain ⟨rfl, rfl⟩ := h
    have h1 : a.size + b.size ≤ 9223372036854775807 := hn _ (by simp)
    refine ⟨.string (a ++ b), ?_, fun F => ⟨rfl, ?_⟩⟩
    · have : ¬ (((a.size + b.size : Nat) : Int) > IntKind.i64.max) := by
        have : IntKind.i64.max = 9223372036854775807 := by decide
        rw [this]; omega
      simp only [Op.stringOp, if_neg this]
      rfl
    · simp [maxLen, ByteArray.size_append]; omega
  · obtain ⟨rfl, rfl⟩ := h
    exact ⟨.bool (decide (a = b)), by rw [← bytes_beq]; rfl, fun F => rfl⟩
  · obtain ⟨rfl, rfl⟩ := h
    exact ⟨.bool (!decide (a = b)), by rw [← bytes_beq]; rfl, fun F => rfl⟩
  · obtain ⟨rfl, rfl⟩ := h
    exact ⟨.bool (strLt a b), rfl, fun F => rfl⟩
  · obtain ⟨rfl, rfl⟩ := h
    exact ⟨.bool (strLt a b || decide (a = b)), by rw [← bytes_beq]; rfl, fun F => rfl⟩
  · obtain ⟨rfl, rfl⟩ := h
    exact ⟨.bool !(strLt a b || decide (a = b)), by rw [← bytes_beq]; rfl, fun F => rfl⟩
  · obtain ⟨rfl, rfl⟩ := h
    exact ⟨.bool !(strLt a b), rfl, fun F => rfl⟩

theorem intOp_run {op : BinOp} {k : IntKind} {a b : Int} {ns : List Prop} {c : C} (P : Program) (w : World) (t : TypeId) (h : intOp op k a b = some (ns, c)) (hn : ∀ p ∈ ns, p) :
    ∃ v, (binOp op t (.int k a) (.int k b)).run P w = .ok v w ∧ ∀ F, RepF F c v := by
  cases op <;> simp only [intOp, Option.some.injEq, Prod.mk.injEq, reduceCtorEq] at h
  case quo =>
    obtain ⟨rfl, rfl⟩ := h
    have h1 : b ≠ 0 := hn _ (by simp)
    refine ⟨_, ?_, fun F => rfl⟩
    simp [binOp, Op.intDiv, h1, pure]
  case rem =>
    obtain ⟨rfl, rfl⟩ := h
    have h1 : b ≠ 0 := hn _ (by simp)
    refine ⟨_, ?_, fun F => rfl⟩
    simp [binOp, Op.intDiv, h1, pure]
  all_goals
    obtain ⟨rfl, rfl⟩ := h
    refine ⟨_, ?_, fun F => rfl⟩
    simp [binOp, Op.intArith, Op.intBits, Op.intCmp, pure]

theorem shiftOp_run {op : BinOp} {k k' : IntKind} {a b : Int} {ns : List Prop} {c : C} (P : Program) (w : World) (t : TypeId) (h : shiftOp op k a b = some (ns, c)) (hn : ∀ p ∈ ns, p) :
    ∃ v, (binOp op t (.int k a) (.int k' b)).run P w = .ok v w ∧ ∀ F, RepF F c v := by
  cases op <;> simp only [shiftOp, Option.some.injEq, Prod.mk.injEq, reduceCtorEq] at h
  all_goals
    obtain ⟨rfl, rfl⟩ := h
    have h1 : 0 ≤ b := hn _ (by simp)
    have h2 : ¬ b < 0 := by omega
    refine ⟨_, ?_, fun F => rfl⟩
    simp [binOp, Op.shift, h2, pure]

theorem boolOp_run {op : BinOp} {a b : Bool} {ns : List Prop} {c : C} {P : Program} (w : World) {t : TypeId} (ht : P.underlying t = some .bool) (h : boolOp op a b = some (ns, c)) :
    ∃ v, (binOp op t (.bool a) (.bool b)).run P w = .ok v w ∧ ∀ F, RepF F c v := by
  cases op <;> simp only [boolOp, Option.some.injEq, Prod.mk.injEq, reduceCtorEq] at h
  · obtain ⟨rfl, rfl⟩ := h
    exact ⟨_, run_eql_bool w t a b ht, fun F => rfl⟩
  · obtain ⟨rfl, rfl⟩ := h
    exact ⟨_, run_neq_bool w t a b ht, fun F => rfl⟩

/-- A binary operation. -/
theorem binC_run {op : BinOp} {x y : C} {ns : List Prop} {c : C} {P : Program} {F : Mem} {H : List O} {μ : Nat → Value} (w : World) {t : TypeId} {X Y : Operand} {u v : Value}
    (ht : (∃ a, x = .bool a) → P.underlying t = some .bool) (h : binC op x y = some (ns, c)) (hn : ∀ p ∈ ns, p) (hx : RepC F H μ x u) (hy : RepC F H μ y v) :
    ∃ r, (do eqGuard op t X Y u v; binOp op t u v : Sem Value).run P w = .ok r w ∧ RepC F H μ c r := by
  cases x with
  | int k a =>
    cases y with
    | int k' b =>
      rw [show u = _ from hx, show v = _ from hy, eqGuard_at_int]
      simp only [binC] at h
      cases hs : isShift op with
      | true =>
        simp only [hs] at h
        obtain ⟨r, h1, h2⟩ := shiftOp_run P w t (k' := k') h hn
        exact ⟨r, h1, RepF.toC H μ c r (h2 F)⟩
      | false =>
        simp only [hs] at h
        by_cases hk : k = k'
        · subst hk
          simp only [decide_true] at h
          obtain ⟨r, h1, h2⟩ := intOp_run P w t h hn
          exact ⟨r, h1, RepF.toC H μ c r (h2 F)⟩
        · simp [hk] at h
    | _ => simp [binC] at h
  | str a =>
    cases y with
    | str b =>
      rw [show u = _ from hx.1, show v = _ from hy.1, eqGuard_at_string]
      obtain ⟨r, h1, h2⟩ := strOp_run P w h hn
      refine ⟨r, ?_, RepF.toC H μ c r (h2 F)⟩
      rw [show (do pure (); binOp op t (.string a) (.string b) : Sem Value) = Op.stringOp op a b from by cases op <;> rfl]
      exact h1
    | _ => simp [binC] at h
  | bool a =>
    cases y with
    | bool b =>
      rw [show u = _ from hx, show v = _ from hy, eqGuard_at_bool]
      obtain ⟨r, h1, h2⟩ := boolOp_run w (ht ⟨a, rfl⟩) h
      exact ⟨r, h1, RepF.toC H μ c r (h2 F)⟩
    | _ => simp [binC] at h
  | _ => simp [binC] at h

end Go.Am
end

section
/- THE ABSTRACT MACHINE, PART 3: loads; the value operations, one by one. -/
namespace Go.Am

theorem bind_ok {α β : Type} {P : Program} {x : Sem α} {f : α → Sem β} {w w' : World} {a : α} (h : x.run P w = .ok a w') : (x >>= f).run P w = (f a).run P w' := by
  rw [Sem.run_bind, h]; rfl

theorem typeInfo_ok {P : Program} {t : Nat} {x : TypeInfo} (h : P.info? t = some x) (w : World) : (typeInfo t).run P w = .ok x w := by
  simp [typeInfo, h]

theorem sizeOf_ok {P : Program} {t : Nat} {i : TI} (h : TIok P t i) (w : World) : (sizeOf t).run P w = .ok i.size w := by
  obtain ⟨x, h1, h2, _⟩ := h.info
  simp [sizeOf, typeInfo, h1, h2]

theorem isAgg_ok {P : Program} {t : Nat} {i : TI} (h : TIok P t i) (w : World) : (isAgg t).run P w = .ok i.agg w := by
  obtain ⟨d, h1, h2⟩ := h.und
  unfold isAgg
  rw [bind_ok (run_underlying h1 w)]
  unfold TI.agg
  cases d <;> cases htd : i.td <;> simp [htd, tdOk] at h2 ⊢

/-- n cells from the off-th on. -/
def cut {α : Type} : List α → Nat → Nat → Option (List α)
  | _, 0, 0 => some []
  | [], 0, _ + 1 => none
  | x :: r, 0, n + 1 => match cut r 0 n with
    | some l => some (x :: l)
    | none => none
  | [], _ + 1, _ => none
  | _ :: r, k + 1, n => cut r k n

theorem cut_ok {α : Type} : ∀ (l : List α) (k n : Nat) (r : List α), cut l k n = some r → r.length = n ∧ ∀ (j : Nat) x, getL r j = some x → getL l (k + j) = some x
  | l, 0, 0, r, h => by
    have : r = [] := by cases l <;> simp [cut] at h <;> exact h
    subst this; simp [getL]
  | [], 0, n + 1, r, h => by simp [cut] at h
  | x :: l, 0, n + 1, r, h => by
    simp only [cut] at h
    cases hc : cut l 0 n with
    | none => simp [hc] at h
    | some r' =>
      simp only [hc, Option.some.injEq] at h
      subst h
      obtain ⟨h1, h2⟩ := cut_ok l 0 n r' hc
      refine ⟨by simp [h1], fun j y hy => ?_⟩
      cases j with
      | zero => simpa [getL] using hy
      | succ j =>
        simp only [getL] at hy
        have := h2 j y hy
        rw [Nat.zero_add] at this ⊢
        simpa [getL] using this
  | [], k + 1, n, r, h => by simp [cut] at h
  | x :: l, k + 1, n, r, h => by
    simp only [cut] at h
    obtain ⟨h1, h2⟩ := cut_ok l k n r h
    refine ⟨h1, fun j y hy => ?_⟩
    have := h2 j y hy
    rw [show k + 1 + j = (k + j) + 1 by omega]
    simpa [getL] using this

def gets (get : Nat → C) (off : Nat) : Nat → List C
  | 0 => []
  | n + 1 => get off :: gets get (off + 1) n

theorem gets_ok (get : Nat → C) : ∀ (n off : Nat), (gets get off n).length = n ∧ ∀ (j : Nat) x, getL (gets get off n) j = some x → j < n ∧ x = get (off + j)
  | 0, off => by simp [gets, getL]
  | n + 1, off => by
    obtain ⟨h1, h2⟩ := gets_ok get n (off + 1)
    refine ⟨by simp [gets, h1], fun j x hx => ?_⟩
    cases j with
    | zero => simp [gets, getL] at hx; simp [hx]
    | succ j =>
      simp only [gets, getL] at hx
      obtain ⟨h3, h4⟩ := h2 j x hx
      exact ⟨by omega, by rw [h4]; congr 1; omega⟩

/-- A cell, its make brought out. -/
def forceC {α : Type} (c : C) (k : C → α) : α :=
  match c with
  | .junk => k .junk
  | .bool b => k (.bool b)
  | .int q n => k (.int q n)
  | .str s => k (.str s)
  | .nilp => k .nilp
  | .ptr id off => k (.ptr id off)
  | .ep id i j tot => k (.ep id i j tot)
  | .ip n get => k (.ip n get)
  | .sl id es len tot x => k (.sl id es len tot x)
  | .isl es n get tight => k (.isl es n get tight)
  | .fn f n get => k (.fn f n get)
  | .nilfn => k .nilfn
  | .nils => k .nils
  | .mpr id => k (.mpr id)
  | .nilm => k .nilm
  | .raw b => k (.raw b)

theorem forceC_eq {α : Type} (c : C) (k : C → α) : forceC c k = k c := by cases c <;> rfl

def forceL {α : Type} : List C → (List C → α) → α
  | [], k => k []
  | c :: r, k => forceC c fun c' => forceL r fun r' => k (c' :: r')

theorem forceL_eq {α : Type} : ∀ (l : List C) (k : List C → α), forceL l k = k l
  | [], _ => rfl
  | c :: r, k => by simp only [forceL, forceC_eq, forceL_eq r]

/-- A value of cells, with the make that its type has. -/
def mkS (agg : Bool) (xs : List C) : Option S :=
  match agg with
  | true => some (.a xs)
  | false => match xs with
    | [x] => some (.c x)
    | _ => none

theorem loadVar_ok {P : Program} {F : Mem} {H : List O} {μ : Nat → Value} {w : World} {t : Nat} {i : TI} {a : Addr} {xs : List C} {s : S}
    (ht : TIok P t i) (hl : xs.length = i.size) (hx : ∀ (j : Nat) x, getL xs j = some x → ∃ v, w.cell? (a.add j) = some v ∧ RepC F H μ x v) (hs : mkS i.agg xs = some s) :
    ∃ v, (loadVar t a).run P w = .ok v w ∧ RepS F H μ s v := by
  let vs : List Value := (List.range xs.length).map fun j => (w.cell? (a.add j)).getD undef
  have hvl : vs.length = xs.length := by simp [vs]
  have hv : ∀ (j : Nat) x, getL xs j = some x → ∃ v, vs[j]? = some v ∧ w.cell? (a.add j) = some v ∧ RepC F H μ x v := by
    intro j x e
    obtain ⟨v, h1, h2⟩ := hx j x e
    have hj : j < xs.length := by rw [getL_eq] at e; exact (List.getElem?_eq_some_iff.1 e).1
    exact ⟨v, by simp [vs, hj, h1], h1, h2⟩
  have hc : ∀ (j : Nat) v, vs[j]? = some v → w.cell? (a.add j) = some v := by
    intro j v e
    have hj : j < xs.length := by rw [← hvl]; exact (List.getElem?_eq_some_iff.1 e).1
    obtain ⟨v', h1, h2, _⟩ := hv j xs[j] (by rw [getL_eq]; simp [hj])
    rw [h1] at e
    cases e
    exact h2
  unfold loadVar
  rw [bind_ok (isAgg_ok ht w)]
  cases ha : i.agg with
  | true =>
    rw [ha] at hs
    simp only [mkS, Option.some.injEq] at hs
    subst hs
    refine ⟨.agg vs.toArray, ?_, vs.toArray, rfl, by simp [hvl], fun j x e => ?_⟩
    · simp only [if_true]
      rw [bind_ok (sizeOf_ok ht w), ← hl, ← hvl, bind_ok (run_loadCells_list w a vs hc)]
      rfl
    · obtain ⟨v, h1, _, h3⟩ := hv j x e
      exact ⟨v, by simpa using h1, h3⟩
  | false =>
    rw [ha] at hs
    match xs, hs, hv with
    | [x], hs, hv =>
      simp only [mkS, Option.some.injEq] at hs
      subst hs
      obtain ⟨v, _, h2, h3⟩ := hv 0 x (by simp [getL])
      refine ⟨v, ?_, h3⟩
      have h0 : a.add 0 = a := by simp [Addr.add]
      rw [h0] at h2
      simp [h2]
    | [], hs, _ => simp [mkS] at hs
    | _ :: _ :: _, hs, _ => simp [mkS] at hs

theorem add_at (b o j : Nat) : (⟨b, o, none⟩ : Addr).add j = ⟨b, o + j, none⟩ := by
  unfold Addr.add; split <;> simp_all

/-- A load through an address. -/
def loadK (i : TI) (H : List O) (p : C) : Option (List Prop × S) :=
  match p with
  | .ptr id off => match getL H id with
    | some (.vr cs) => match cut cs off i.size with
      | some xs => match mkS i.agg xs with
        | some s => some ([], s)
        | none => none
      | none => none
    | _ => none
  | .ep id k j tot => match getL H id with
    | some (.arr _ es n get) => match mkS i.agg (gets (get k) j i.size) with
      | some s => some ([tot = n, j + i.size ≤ es], s)
      | none => none
    | _ => none
  | .ip n get => forceL (gets get 0 i.size) fun xs => match mkS i.agg xs with
    | some s => some ([i.size ≤ n], s)
    | none => none
  | _ => none

theorem loadK_ok {P : Program} {K : Keep} {F : Mem} {H : List O} {μ : Nat → Value} {w : World} {t : Nat} {i : TI} {p : C} {v : Value} {ns : List Prop} {s : S}
    (ht : TIok P t i) (hw : HSat K F H μ w) (hp : RepC F H μ p v) (h : loadK i H p = some (ns, s)) (hn : ∀ q ∈ ns, q) :
    ∃ r, (Instr.loadAt t v).run P w = .ok r w ∧ RepS F H μ s r := by
  cases p with
  | ptr id off =>
    obtain ⟨⟨cs, h1⟩, b, h2, h3⟩ := hp
    subst h3
    simp only [loadK, h1] at h
    cases hc : cut cs off i.size with
    | none => simp [hc] at h
    | some xs =>
      cases hm : mkS i.agg xs with
      | none => simp [hc, hm] at h
      | some s' =>
        simp only [hc, hm, Option.some.injEq, Prod.mk.injEq] at h
        obtain ⟨_, rfl⟩ := h
        obtain ⟨e1, e2⟩ := cut_ok _ _ _ _ hc
        obtain ⟨b', c, T, k1, k2, k3⟩ := hw.ob id _ h1
        rw [h2] at k1
        cases k1
        have := loadVar_ok (P := P) (F := F) (H := H) (μ := μ) (w := w) (a := ⟨b, off, none⟩) ht e1 (fun j x e => by
          obtain ⟨v, hv, hr⟩ := k3.2 (off + j) x (e2 j x e)
          refine ⟨v, ?_, hr⟩
          rw [add_at, cell_of_row w b _ c T (0, 0) k2, hv]) hm
        obtain ⟨r, r1, r2⟩ := this
        exact ⟨r, by simpa [Instr.loadAt, Instr.sureAddr] using r1, r2⟩
  | ep id k j tot =>
    obtain ⟨_, e, es, n, g, h1, h2, h3⟩ := hp
    simp only [loadK, h1] at h
    cases hm : mkS i.agg (gets (g k) j i.size) with
    | none => simp [hm] at h
    | some s' =>
      simp only [hm, Option.some.injEq, Prod.mk.injEq] at h
      obtain ⟨rfl, rfl⟩ := h
      have hq : tot = n := hn _ (by simp)
      have hes : j + i.size ≤ es := hn _ (by simp)
      obtain ⟨b, cap, m1, m2, m3⟩ := h3 hq
      subst m3
      obtain ⟨xs, o1, o2, o3, o4⟩ := hw.ob id _ h1
      obtain ⟨g1, g2⟩ := gets_ok (g k) i.size j
      have hcell := o1.cells (g := b) (by rw [m1]; rfl)
      have := loadVar_ok (P := P) (F := F) (H := H) (μ := μ) (w := w) (a := ⟨b, k * es + j, none⟩) ht g1 (fun l x e => by
        obtain ⟨q1, q2⟩ := g2 l x e
        obtain ⟨v, hv, hr⟩ := o3 k m2 (j + l) (by omega)
        refine ⟨v, ?_, by rw [q2]; exact hr⟩
        have := hcell (k * es + (j + l)) v hv
        rw [add_at] at this ⊢
        rw [show k * es + j + l = 0 + (k * es + (j + l)) by omega]
        exact this) hm
      obtain ⟨r, r1, r2⟩ := this
      exact ⟨r, by simpa [Instr.loadAt, Instr.sureAddr] using r1, r2⟩
  | ip n get =>
    obtain ⟨b, off, hv, hc⟩ := hp
    subst hv
    simp only [loadK, forceL_eq] at h
    cases hm : mkS i.agg (gets get 0 i.size) with
    | none => simp [hm] at h
    | some s' =>
      simp only [hm, Option.some.injEq, Prod.mk.injEq] at h
      obtain ⟨rfl, rfl⟩ := h
      have hsz : i.size ≤ n := hn _ (by simp)
      obtain ⟨g1, g2⟩ := gets_ok get i.size 0
      have := loadVar_ok (P := P) (F := F) (H := H) (μ := μ) (w := w) (a := ⟨b, off, none⟩) ht g1 (fun l x e => by
        obtain ⟨q1, q2⟩ := g2 l x e
        obtain ⟨v, hv, hr⟩ := hc l (by omega)
        refine ⟨v, ?_, by rw [q2, Nat.zero_add]; exact RepF.toC H μ _ _ hr⟩
        rw [add_at]
        unfold Mem.cell at hv
        cases hf : F b with
        | none => simp [hf] at hv
        | some o =>
          rw [hf] at hv
          cases o with
          | cells c T fz => rw [cell_of_row w b _ c T fz (hw.fr b _ hf)]; exact hv
          | _ => simp at hv) hm
      obtain ⟨r, r1, r2⟩ := this
      exact ⟨r, by simpa [Instr.loadAt, Instr.sureAddr] using r1, r2⟩
  | _ => simp [loadK] at h

def fieldOff (Γ : Env) (t f : Nat) : Option Nat :=
  match Γ.at t with
  | some i => match i.td with
    | .strct fs => match getL fs f with
      | some x => some x.1
      | none => none
    | _ => none
  | none => none

theorem fieldOff_ok {P : Program} {Γ : Env} (hΓ : EnvOk P Γ) {t f o : Nat} (h : fieldOff Γ t f = some o) :
    ∃ fs x i, P.underlying t = some (.struct fs) ∧ fs[f]? = some x ∧ x.offset = o ∧ P.info? x.type = some i ∧ i.size ≠ 0 := by
  unfold fieldOff at h
  cases h1 : Γ.at t with
  | none => simp [h1] at h
  | some i =>
    simp only [h1] at h
    obtain ⟨d, h2, h3⟩ := (hΓ t i h1).und
    cases htd : i.td with
    | strct l =>
      simp only [htd] at h h3
      cases d with
      | struct fs =>
        obtain ⟨e1, e2⟩ := h3
        cases hg : getL l f with
        | none => simp [hg] at h
        | some x =>
          simp only [hg, Option.some.injEq] at h
          rw [getL_eq, e1, List.getElem?_map] at hg
          cases hf : fs.toList[f]? with
          | none => simp [hf] at hg
          | some y =>
            simp only [hf, Option.map_some, Option.some.injEq] at hg
            subst hg
            obtain ⟨j, j1, j2⟩ := e2 y (List.mem_of_getElem? hf)
            exact ⟨fs, y, j, h2, by simpa using hf, h, j1, j2⟩
      | _ => simp [tdOk] at h3
    | _ => simp [htd] at h

theorem fieldAt_ok {P : Program} {Γ : Env} (hΓ : EnvOk P Γ) {t f o : Nat} (h : fieldOff Γ t f = some o) (a : Addr) (w : World) :
    (Instr.fieldAt t (.pointer (some a)) f).run P w = .ok (.pointer (some (a.add o))) w := by
  obtain ⟨fs, x, i, h1, h2, h3, h4, h5⟩ := fieldOff_ok hΓ h
  unfold Instr.fieldAt
  rw [bind_ok (run_underlying h1 w)]
  simp only [h2]
  have hsz : (sizeOf x.type).run P w = .ok i.size w := by simp [sizeOf, typeInfo, h4]
  simp only [Instr.sureAddr, fieldPlace]
  simp [hsz, h5, h3]

/-- What an operation yields that changes nothing that is tracked. -/
def fieldK (o : Nat) : C → Option C
  | .ptr id off => some (.ptr id (off + o))
  | .ep id i j tot => some (.ep id i (j + o) tot)
  | .ip n get => some (.ip (n - o) fun j => get (o + j))
  | _ => none

theorem fieldK_ok {P : Program} {Γ : Env} (hΓ : EnvOk P Γ) {t f o : Nat} (h : fieldOff Γ t f = some o) {F : Mem} {H : List O} {μ : Nat → Value} (w : World) {p c : C} {v : Value}
    (hp : RepC F H μ p v) (hc : fieldK o p = some c) (hep : ∀ id i j tot, p = .ep id i j tot → ∀ e es n g, getL H id = some (.arr e es n g) → tot = n) :
    ∃ r, (Instr.fieldAt t v f).run P w = .ok r w ∧ RepC F H μ c r := by
  cases p with
  | ptr id off =>
    simp only [fieldK, Option.some.injEq] at hc
    subst hc
    obtain ⟨h1, b, h2, rfl⟩ := hp
    exact ⟨_, fieldAt_ok hΓ h _ w, h1, b, h2, by rw [add_at]⟩
  | ep id i j tot =>
    simp only [fieldK, Option.some.injEq] at hc
    subst hc
    obtain ⟨h0, e, es, n, g, h1, h2, h3⟩ := hp
    obtain ⟨b, cap, m1, m2, rfl⟩ := h3 (hep id i j tot rfl e es n g h1)
    exact ⟨_, fieldAt_ok hΓ h _ w, rfl, e, es, n, g, h1, h2, fun _ => ⟨b, cap, m1, m2, by rw [add_at, Nat.add_assoc]⟩⟩
  | ip n get =>
    simp only [fieldK, Option.some.injEq] at hc
    subst hc
    obtain ⟨b, off, rfl, hcs⟩ := hp
    refine ⟨_, fieldAt_ok hΓ h _ w, b, off + o, by rw [add_at], fun j hj => ?_⟩
    obtain ⟨x, h1, h2⟩ := hcs (o + j) (by omega)
    exact ⟨x, by rw [← h1]; congr 1; omega, h2⟩
  | _ => simp [fieldK] at hc

end Go.Am
end

section
/- THE ABSTRACT MACHINE, PART 4: the operations that change nothing that is tracked, all of them. -/
namespace Go.Am

def elemOf (Γ : Env) (t : Nat) : Option (Nat × TI) :=
  match Γ.at t with
  | some i => match i.td with
    | .slice e => match Γ.at e with
      | some j => some (e, j)
      | none => none
    | _ => none
  | none => none

/-- An array type: how many, and of what. -/
def arrOf (Γ : Env) (t : Nat) : Option (Nat × Nat × TI) :=
  match Γ.at t with
  | some i => match i.td with
    | .arr n e => match Γ.at e with
      | some j => some (n, e, j)
      | none => none
    | _ => none
  | none => none

theorem arrOf_ok {P : Program} {Γ : Env} (hΓ : EnvOk P Γ) {t n e : Nat} {j : TI} (h : arrOf Γ t = some (n, e, j)) : P.underlying t = some (.array n e) ∧ TIok P e j := by
  unfold arrOf at h
  cases h1 : Γ.at t with
  | none => simp [h1] at h
  | some i =>
    simp only [h1] at h
    obtain ⟨d, h2, h3⟩ := (hΓ t i h1).und
    cases htd : i.td with
    | arr n' e' =>
      simp only [htd] at h h3
      cases h4 : Γ.at e' with
      | none => simp [h4] at h
      | some j' =>
        simp only [h4, Option.some.injEq, Prod.mk.injEq] at h
        obtain ⟨rfl, rfl, rfl⟩ := h
        cases d with
        | array m e'' =>
          obtain ⟨rfl, rfl⟩ := h3
          exact ⟨h2, hΓ _ _ h4⟩
        | _ => simp [tdOk] at h3
    | _ => simp [htd] at h

theorem elemOf_ok {P : Program} {Γ : Env} (hΓ : EnvOk P Γ) {t e : Nat} {j : TI} (h : elemOf Γ t = some (e, j)) : P.underlying t = some (.slice e) ∧ TIok P e j := by
  unfold elemOf at h
  cases h1 : Γ.at t with
  | none => simp [h1] at h
  | some i =>
    simp only [h1] at h
    obtain ⟨d, h2, h3⟩ := (hΓ t i h1).und
    cases htd : i.td with
    | slice e' =>
      simp only [htd] at h h3
      cases h4 : Γ.at e' with
      | none => simp [h4] at h
      | some j' =>
        simp only [h4, Option.some.injEq, Prod.mk.injEq] at h
        obtain ⟨rfl, rfl⟩ := h
        cases d with
        | slice e'' => simp only [tdOk] at h3; subst h3; exact ⟨h2, hΓ _ _ h4⟩
        | _ => simp [tdOk] at h3
    | _ => simp [htd] at h

/-- The address of an element. -/
def indexK (te : TI) (H : List O) (x : C) (i : Int) : Option (List Prop × C) :=
  match x with
  | .isl es n get _ => match Nat.beq es te.size with
    | true => some ([0 ≤ i, i < n], .ip es fun j => get i.toNat j)
    | false => none
  | .sl id es len tot _ => match Nat.beq es te.size with
    | true => match getL H id with
      | some (.arr _ _ n _) => some ([0 ≤ i, i < len, tot = n], .ep id i.toNat 0 tot)
      | _ => none
    | false => none
  | _ => none

theorem indexK_ok {P : Program} {Γ : Env} (hΓ : EnvOk P Γ) {K : Keep} {F : Mem} {H : List O} {μ : Nat → Value} {w : World} (hw : HSat K F H μ w) {t e : Nat} {te : TI} (he : elemOf Γ t = some (e, te))
    {x c : C} {k : IntKind} {i : Int} {v : Value} {ns : List Prop} (hx : RepC F H μ x v) (h : indexK te H x i = some (ns, c)) (hn : ∀ q ∈ ns, q) :
    ∃ r, (Instr.indexAt t v (.int k i)).run P w = .ok r w ∧ RepC F H μ c r := by
  obtain ⟨hu, hte⟩ := elemOf_ok hΓ he
  have run : ∀ (a : Addr) (n cap : Nat), 0 ≤ i → i < n → (Instr.indexAt t (.slice (some a) n cap) (.int k i)).run P w = .ok (.pointer (some (a.add (i.toNat * te.size)))) w := by
    intro a n cap h0 h1
    have hs := sizeOf_ok hte w
    simp [Instr.indexAt, asIntOf, run_underlying hu, h0, h1, hs]
  cases x with
  | isl es n get tight =>
    simp only [indexK] at h
    cases hb : Nat.beq es te.size with
    | false => simp [hb] at h
    | true =>
      have hes : es = te.size := Nat.eq_of_beq_eq_true hb
      simp only [hb, Option.some.injEq, Prod.mk.injEq] at h
      obtain ⟨rfl, rfl⟩ := h
      have h0 : 0 ≤ i := hn _ (by simp)
      have h1 : i < n := hn _ (by simp)
      obtain ⟨a, cap, rfl, _, _, _, _, h4⟩ := hx
      rcases h4 with h4 | ⟨b, off, rfl, hc⟩
      · omega
      · refine ⟨_, run _ n cap h0 h1, b, off + i.toNat * es, by rw [add_at, hes], fun j hj => ?_⟩
        obtain ⟨x, x1, x2⟩ := hc i.toNat (by omega) j hj
        exact ⟨x, x1, x2⟩
  | sl id es len tot xq =>
    simp only [indexK] at h
    cases hb : Nat.beq es te.size with
    | false => simp [hb] at h
    | true =>
      have hes : es = te.size := Nat.eq_of_beq_eq_true hb
      simp only [hb] at h
      obtain ⟨_, e', n, g, h1, h2, h2', h3⟩ := hx
      simp only [h1, Option.some.injEq, Prod.mk.injEq] at h
      obtain ⟨rfl, rfl⟩ := h
      have h0 : 0 ≤ i := hn _ (by simp)
      have hl : i < len := hn _ (by simp)
      have ht : tot = n := hn _ (by simp)
      obtain ⟨a, cap, m1, rfl, _⟩ := h3 ht
      obtain ⟨xs, o1, _, _⟩ := hw.ob id _ h1
      rcases o1.2 with ⟨q1, q2⟩ | ⟨b, cap', cur, q1, _⟩
      · omega
      · rw [m1] at q1
        simp only [Value.slice.injEq, true_and] at q1
        obtain ⟨rfl, rfl⟩ := q1
        refine ⟨_, run _ len cap h0 hl, rfl, e', es, n, g, h1, h2, fun _ => ⟨b, cap, m1, by omega, ?_⟩⟩
        rw [add_at, hes]; simp
  | _ => simp [indexK] at h

/-- Part of a struct. -/
def fieldV (Γ : Env) (t f : Nat) (cs : List C) : Option S :=
  match Γ.at t with
  | some i => match i.td with
    | .strct fs => match getL fs f with
      | some x => match Γ.at x.2 with
        | some j => match cut cs x.1 j.size with
          | some xs => mkS j.agg xs
          | none => none
        | none => none
      | none => none
    | _ => none
  | none => none

theorem part_ok {P : Program} {F : Mem} {H : List O} {μ : Nat → Value} {t : Nat} {i : TI} (ht : TIok P t i) {cs : List C} {vs : Array Value} {off : Nat} {xs : List C} {s : S} (w : World)
    (hl : RepL F H μ cs vs) (hc : cut cs off i.size = some xs) (hs : mkS i.agg xs = some s) : ∃ r, (part t vs off).run P w = .ok r w ∧ RepS F H μ s r := by
  obtain ⟨e1, e2⟩ := cut_ok _ _ _ _ hc
  unfold part
  rw [bind_ok (isAgg_ok ht w)]
  cases ha : i.agg with
  | true =>
    rw [ha] at hs
    simp only [mkS, Option.some.injEq] at hs
    subst hs
    simp only [if_true]
    rw [bind_ok (sizeOf_ok ht w)]
    refine ⟨_, rfl, _, rfl, ?_, fun j x hx => ?_⟩
    · have hlen : off + i.size ≤ cs.length ∨ i.size = 0 := by
        by_cases h0 : i.size = 0
        · exact .inr h0
        · left
          have := e2 (i.size - 1) (xs[i.size - 1]'(by omega)) (by rw [getL_eq]; simp)
          rw [getL_eq] at this
          have := (List.getElem?_eq_some_iff.1 this).1
          omega
      have := hl.1
      simp only [Array.size_extract]
      omega
    · have hj : j < i.size := by rw [← e1]; rw [getL_eq] at hx; exact (List.getElem?_eq_some_iff.1 hx).1
      obtain ⟨v, v1, v2⟩ := hl.2 (off + j) x (e2 j x hx)
      have hlt : off + j < vs.size := (Array.getElem?_eq_some_iff.1 v1).1
      refine ⟨v, ?_, v2⟩
      rw [Array.getElem?_extract]
      rw [if_pos (by omega)]
      exact v1
  | false =>
    rw [ha] at hs
    match xs, hs, e1, e2 with
    | [x], hs, e1, e2 =>
      simp only [mkS, Option.some.injEq] at hs
      subst hs
      obtain ⟨v, v1, v2⟩ := hl.2 (off + 0) x (e2 0 x (by simp [getL]))
      rw [Nat.add_zero] at v1
      exact ⟨v, by simp [v1], v2⟩
    | [], hs, _, _ => simp [mkS] at hs
    | _ :: _ :: _, hs, _, _ => simp [mkS] at hs

theorem fieldV_ok {P : Program} {Γ : Env} (hΓ : EnvOk P Γ) {F : Mem} {H : List O} {μ : Nat → Value} {t f : Nat} {cs : List C} {vs : Array Value} {s : S} (w : World) (hl : RepL F H μ cs vs)
    (h : fieldV Γ t f cs = some s) : ∃ r, (Instr.field t (.agg vs) f).run P w = .ok r w ∧ RepS F H μ s r := by
  unfold fieldV at h
  cases h1 : Γ.at t with
  | none => simp [h1] at h
  | some i =>
    simp only [h1] at h
    obtain ⟨d, h2, h3⟩ := (hΓ t i h1).und
    cases htd : i.td with
    | strct l =>
      simp only [htd] at h h3
      cases d with
      | struct fs =>
        obtain ⟨e1, e2⟩ := h3
        cases hg : getL l f with
        | none => simp [hg] at h
        | some x =>
          simp only [hg] at h
          cases hj : Γ.at x.2 with
          | none => simp [hj] at h
          | some j =>
            simp only [hj] at h
            cases hc : cut cs x.1 j.size with
            | none => simp [hc] at h
            | some xs =>
              simp only [hc] at h
              rw [getL_eq, e1, List.getElem?_map] at hg
              cases hf : fs.toList[f]? with
              | none => simp [hf] at hg
              | some y =>
                simp only [hf, Option.map_some, Option.some.injEq] at hg
                subst hg
                obtain ⟨r, r1, r2⟩ := part_ok (hΓ _ _ hj) w hl hc h
                refine ⟨r, ?_, r2⟩
                unfold Instr.field
                rw [bind_ok (run_underlying h2 w)]
                have : fs[f]? = some y := by simpa using hf
                simp only [this]
                rw [bind_ok (show (asAgg (.agg vs)).run P w = .ok vs w from rfl)]
                exact r1
      | _ => simp [tdOk] at h3
    | _ => simp [htd] at h

/-- Cells put in from the off-th on. -/
def splice {α : Type} : List α → Nat → List α → Option (List α)
  | l, 0, [] => some l
  | [], 0, _ :: _ => none
  | _ :: r, 0, y :: ys => match splice r 0 ys with
    | some l => some (y :: l)
    | none => none
  | [], _ + 1, _ => none
  | x :: r, k + 1, ys => match splice r k ys with
    | some l => some (x :: l)
    | none => none

theorem splice_ok {α : Type} : ∀ (l : List α) (k : Nat) (ys r : List α), splice l k ys = some r →
    r.length = l.length ∧ k + ys.length ≤ l.length ∧ ∀ (j : Nat), getL r j = if k ≤ j ∧ j < k + ys.length then getL ys (j - k) else getL l j
  | l, 0, [], r, h => by
    have : r = l := by cases l <;> simp [splice] at h <;> first | exact h | exact h.symm
    subst this
    refine ⟨rfl, by simp, fun j => ?_⟩
    rw [if_neg (by simp)]
  | [], 0, _ :: _, r, h => by simp [splice] at h
  | x :: l, 0, y :: ys, r, h => by
    simp only [splice] at h
    cases hs : splice l 0 ys with
    | none => simp [hs] at h
    | some l' =>
      simp only [hs, Option.some.injEq] at h
      subst h
      obtain ⟨h1, h2, h3⟩ := splice_ok l 0 ys l' hs
      refine ⟨by simp [h1], by simp at h2 ⊢; omega, fun j => ?_⟩
      cases j with
      | zero => simp [getL]
      | succ j =>
        simp only [getL, h3 j, List.length_cons]
        by_cases hj : j < ys.length
        · rw [if_pos (by omega), if_pos (by omega)]; simp [getL]
        · rw [if_neg (by omega), if_neg (by omega)]
  | [], k + 1, ys, r, h => by simp [splice] at h
  | x :: l, k + 1, ys, r, h => by
    simp only [splice] at h
    cases hs : splice l k ys with
    | none => simp [hs] at h
    | some l' =>
      simp only [hs, Option.some.injEq] at h
      subst h
      obtain ⟨h1, h2, h3⟩ := splice_ok l k ys l' hs
      refine ⟨by simp [h1], by simp; omega, fun j => ?_⟩
      cases j with
      | zero => simp [getL]
      | succ j =>
        simp only [getL, h3 j]
        by_cases hj : k ≤ j ∧ j < k + ys.length
        · rw [if_pos hj, if_pos (by omega)]; congr 1; omega
        · rw [if_neg hj, if_neg (by omega)]

def S.cells : S → Option (List C)
  | .c x => some [x]
  | .a xs => some xs
  | _ => none

theorem cells_ok {F : Mem} {H : List O} {μ : Nat → Value} {s : S} {v : Value} {xs : List C} (hs : RepS F H μ s v) (h : s.cells = some xs) : RepL F H μ xs v.cells := by
  cases s with
  | c x =>
    simp only [S.cells, Option.some.injEq] at h
    subst h
    have h1 := RepC.one x v hs
    have : v.cells = #[v] := by cases v <;> first | rfl | (simp [Value.oneCell'] at h1)
    rw [this]
    refine ⟨rfl, fun j y hy => ?_⟩
    cases j with
    | zero => simp [getL] at hy; subst hy; exact ⟨v, rfl, hs⟩
    | succ j => simp [getL] at hy
  | a l =>
    simp only [S.cells, Option.some.injEq] at h
    subst h
    obtain ⟨cs, rfl, hl⟩ := hs
    exact hl
  | _ => simp [S.cells] at h

theorem RepL.splice {F : Mem} {H : List O} {μ : Nat → Value} {l ys r : List C} {k : Nat} {cs vs : Array Value} (hl : RepL F H μ l cs) (hy : RepL F H μ ys vs) (h : splice l k ys = some r) :
    RepL F H μ r (vs.zipIdx.foldl (fun cs (c, j) => cs.setIfInBounds (k + j) c) cs) := by
  obtain ⟨h1, h2, h3⟩ := splice_ok l k ys r h
  have key : ∀ (us : List Value) (m : Nat) (cs : Array Value), k + m + us.length ≤ cs.size →
      ((us.zipIdx m).foldl (fun cs (c, j) => cs.setIfInBounds (k + j) c) cs).size = cs.size ∧
      ∀ q : Nat, ((us.zipIdx m).foldl (fun cs (c, j) => cs.setIfInBounds (k + j) c) cs)[q]? = if k + m ≤ q ∧ q < k + m + us.length then us[q - (k + m)]? else cs[q]? := by
    intro us
    induction us with
    | nil => intro m cs _; exact ⟨rfl, fun q => by simp; omega⟩
    | cons u us ih =>
      intro m cs hm
      simp only [List.length_cons] at hm
      rw [List.zipIdx_cons, List.foldl_cons]
      obtain ⟨i1, i2⟩ := ih (m + 1) (cs.setIfInBounds (k + m) u) (by rw [Array.size_setIfInBounds]; omega)
      refine ⟨by rw [i1]; simp, fun q => ?_⟩
      rw [i2 q]
      simp only [List.length_cons]
      by_cases c1 : k + m = q
      · subst c1
        have hlt : k + m < cs.size := by omega
        rw [if_neg (by omega), if_pos (by omega)]
        simp [hlt]
      · by_cases c2 : k + m ≤ q ∧ q < k + m + (us.length + 1)
        · rw [if_pos (by omega), if_pos c2]
          rw [show q - (k + m) = (q - (k + (m + 1))) + 1 by omega]
          simp
        · rw [if_neg (by omega), if_neg c2, Array.getElem?_setIfInBounds_ne c1]
  have hz : vs.zipIdx.foldl (fun cs (c, j) => cs.setIfInBounds (k + j) c) cs = (vs.toList.zipIdx 0).foldl (fun cs (c, j) => cs.setIfInBounds (k + j) c) cs := by
    rw [← Array.foldl_toList, Array.toList_zipIdx]
  have hsz : k + vs.size ≤ cs.size := by rw [hl.1, hy.1]; exact h2
  obtain ⟨z1, z2⟩ := key vs.toList 0 cs (by simp; exact hsz)
  rw [hz]
  refine ⟨by rw [z1, hl.1, h1], fun j x hx => ?_⟩
  rw [h3 j] at hx
  rw [z2 j]
  have hys := hy.1
  simp only [Nat.add_zero, Array.length_toList]
  by_cases c : k ≤ j ∧ j < k + ys.length
  · rw [if_pos c] at hx
    rw [if_pos (by omega)]
    obtain ⟨v, v1, v2⟩ := hy.2 _ x hx
    exact ⟨v, by simpa using v1, v2⟩
  · rw [if_neg c] at hx
    rw [if_neg (by omega)]
    exact hl.2 j x hx

end Go.Am
end

section
/- THE ABSTRACT MACHINE, PART 5: literals, slices, conversions. -/
namespace Go.Am

def zeroL (i : TI) : List C := i.zero.map Z.toC

theorem zC_ok {F : Mem} {H : List O} {μ : Nat → Value} (z : Z) : RepC F H μ z.toC z.toV := by
  cases z <;> first | rfl | skip
  · exact ⟨rfl, by unfold maxLen; exact Nat.zero_le _⟩

theorem zeroL_ok {P : Program} {F : Mem} {H : List O} {μ : Nat → Value} {t : Nat} {i : TI} (ht : TIok P t i) (w : World) :
    ∃ z, (zeroValue t).run P w = .ok z w ∧ RepL F H μ (zeroL i) z.cells ∧ (∃ x, P.info? t = some x ∧ x.zero = some z) := by
  obtain ⟨x, h1, _, _, z, h3, h4⟩ := ht.info
  refine ⟨z, by simp [zeroValue, typeInfo, h1, h3], ⟨?_, fun j c hc => ?_⟩, x, h1, h3⟩
  · rw [← Array.length_toList, h4]; simp [zeroL]
  · rw [getL_eq] at hc
    simp only [zeroL, List.getElem?_map] at hc
    cases hz : i.zero[j]? with
    | none => simp [hz] at hc
    | some y =>
      simp only [hz, Option.map_some, Option.some.injEq] at hc
      subst hc
      refine ⟨y.toV, ?_, zC_ok y⟩
      rw [← Array.getElem?_toList, h4]
      simp [hz]

/-- What is needed for the values of a literal's parts. -/
def needP (ts : Ts) : List (Nat × Operand) → List Prop
  | [] => []
  | (_, x) :: r => (bare (opnd ts x)).1 ++ needP ts r

/-- A struct literal's fields. -/
def buildF (Γ : Env) (fs : List (Nat × Nat)) (ts : Ts) : List (Nat × Operand) → List C → Option (List C)
  | [], cells => some cells
  | (i, x) :: r, cells => match getL fs i with
    | some f => match Γ.at f.2 with
      | some j => match (bare (opnd ts x)).2.cells with
        | some ys => match Nat.beq ys.length j.size with
          | true => match splice cells f.1 ys with
            | some cells' => buildF Γ fs ts r cells'
            | none => none
          | false => none
        | none => none
      | none => none
    | none => none

/-- An array literal's elements. -/
def buildA (es : Nat) (ts : Ts) : List (Nat × Operand) → List C → Option (List C)
  | [], cells => some cells
  | (i, x) :: r, cells => match (bare (opnd ts x)).2.cells with
    | some ys => match Nat.beq ys.length es with
      | true => match splice cells (i * es) ys with
        | some cells' => buildA es ts r cells'
        | none => none
      | false => none
    | none => none

theorem buildA_ok {F : Mem} {H : List O} {μ : Nat → Value} {ts : Ts} {a : Act} (hT : TSat F H μ ts a.tmps) (es : Nat) :
    ∀ (ps : List (Nat × Operand)) (cells r : List C) (vs : Array Value), (∀ q ∈ needP ts ps, q) → buildA es ts ps cells = some r → RepL F H μ cells vs →
      ∃ us, Instr.fill (fun i => some (i * es, es)) vs (ps.map fun x => (x.1, a.eval x.2)) = some us ∧ RepL F H μ r us := by
  intro ps
  induction ps with
  | nil => intro cells r vs hq h hl; simp only [buildA, Option.some.injEq] at h; subst h; exact ⟨vs, rfl, hl⟩
  | cons p ps ih =>
    obtain ⟨i, x⟩ := p
    intro cells r vs hq h hl
    simp only [buildA] at h
    cases h3 : (bare (opnd ts x)).2.cells with
    | none => simp [h3] at h
    | some ys =>
      cases h4 : Nat.beq ys.length es with
      | false => simp only [h3, h4] at h; cases h
      | true =>
        cases h5 : Am.splice cells (i * es) ys with
        | none => simp only [h3, h4, h5] at h; cases h
        | some cells' =>
          simp only [h3, h4, h5] at h
          have hys := cells_ok (bare_ok (opnd_ok hT x) (Prod.eta _).symm (fun q hq' => hq q (by simp only [needP]; exact List.mem_append.2 (.inl hq')))) h3
          obtain ⟨us, u1, u2⟩ := ih cells' r _ (fun q hq' => hq q (by simp only [needP]; exact List.mem_append.2 (.inr hq'))) h (hl.splice hys h5)
          have hsz' : (a.eval x).cells.size = es := by rw [hys.1]; exact Nat.eq_of_beq_eq_true h4
          have hfit := (splice_ok _ _ _ _ h5).2.1
          refine ⟨us, ?_, u2⟩
          simp only [List.map_cons, Instr.fill]
          rw [if_neg]
          · exact u1
          · have q1 := hl.1
            have q2 := hys.1
            simp [hsz']
            omega

def buildV (Γ : Env) (ts : Ts) (t : Nat) (parts : List (Nat × Operand)) : Option S :=
  match Γ.at t with
  | some i => match i.td with
    | .strct fs => match buildF Γ fs ts parts (zeroL i) with
      | some cs => some (.a cs)
      | none => none
    | .arr _ e => match Γ.at e with
      | some j => match buildA j.size ts parts (zeroL i) with
        | some cs => some (.a cs)
        | none => none
      | none => none
    | _ => none
  | none => none

theorem buildF_ok {P : Program} {Γ : Env} (hΓ : EnvOk P Γ) {F : Mem} {H : List O} {μ : Nat → Value} {ts : Ts} {a : Act} (hT : TSat F H μ ts a.tmps) (fields : List Field) (fs : List (Nat × Nat))
    (hf : fs = fields.map fun f => (f.offset, f.type)) (places : List (Nat × Nat)) (hp : fields.mapM (fun f => (P.info? f.type).map fun i => (f.offset, i.size)) = some places) :
    ∀ (parts : List (Nat × Operand)) (cells : List C) (r : List C) (vs : Array Value), (∀ q ∈ needP ts parts, q) → buildF Γ fs ts parts cells = some r → RepL F H μ cells vs →
      ∃ us, Instr.fill (places.toArray[·]?) vs (parts.map fun x => (x.1, a.eval x.2)) = some us ∧ RepL F H μ r us := by
  have hpl : ∀ (i : Nat) (f : Nat × Nat) (j : TI), getL fs i = some f → Γ.at f.2 = some j → places[i]? = some (f.1, j.size) := by
    intro i f j h1 h2
    rw [getL_eq, hf, List.getElem?_map] at h1
    cases hy : fields[i]? with
    | none => simp [hy] at h1
    | some y =>
      simp only [hy, Option.map_some, Option.some.injEq] at h1
      subst h1
      obtain ⟨x, x1, x2, _⟩ := (hΓ _ _ h2).info
      have key : ∀ (l : List Field) (p : List (Nat × Nat)) (i : Nat), l.mapM (fun f => (P.info? f.type).map fun i => (f.offset, i.size)) = some p → l[i]? = some y → p[i]? = some (y.offset, j.size) := by
        intro l
        induction l with
        | nil => intro p i _ h; simp at h
        | cons z l ih =>
          intro p i hm hi
          simp only [List.mapM_cons, Option.bind_eq_bind, Option.pure_def] at hm
          cases hz : P.info? z.type with
          | none => simp [hz] at hm
          | some iz =>
            cases hr : l.mapM (fun f => (P.info? f.type).map fun i => (f.offset, i.size)) with
            | none => simp [hz, hr] at hm
            | some p' =>
              simp [hz, hr] at hm
              subst hm
              cases i with
              | zero =>
                simp at hi
                subst hi
                rw [x1] at hz
                cases hz
                simp [x2]
              | succ i => simp at hi ⊢; exact ih p' i hr hi
      exact key fields places i hp hy
  intro parts
  induction parts with
  | nil => intro cells r vs hq h hl; simp only [buildF, Option.some.injEq] at h; subst h; exact ⟨vs, rfl, hl⟩
  | cons p parts ih =>
    obtain ⟨i, x⟩ := p
    intro cells r vs hq h hl
    simp only [buildF] at h
    cases h1 : getL fs i with
    | none => simp [h1] at h
    | some f =>
      cases h2 : Γ.at f.2 with
      | none => simp [h1, h2] at h
      | some j =>
        cases h3 : (bare (opnd ts x)).2.cells with
        | none => simp [h1, h2, h3] at h
        | some ys =>
          cases h4 : Nat.beq ys.length j.size with
          | false => simp only [h1, h2, h3, h4] at h; cases h
          | true =>
            cases h5 : splice cells f.1 ys with
            | none => simp only [h1, h2, h3, h4, h5] at h; cases h
            | some cells' =>
              simp only [h1, h2, h3, h4, h5] at h
              have hys := cells_ok (bare_ok (opnd_ok hT x) (Prod.eta _).symm (fun q hq' => hq q (by simp only [needP]; exact List.mem_append.2 (.inl hq')))) h3
              obtain ⟨us, u1, u2⟩ := ih cells' r _ (fun q hq' => hq q (by simp only [needP]; exact List.mem_append.2 (.inr hq'))) h (hl.splice hys h5)
              have hsz : (a.eval x).cells.size = j.size := by rw [hys.1]; exact Nat.eq_of_beq_eq_true h4
              have hfit := (splice_ok _ _ _ _ h5).2.1
              refine ⟨us, ?_, u2⟩
              simp only [List.map_cons, Instr.fill]
              have := hpl i f j h1 h2
              simp only [List.getElem?_toArray, this]
              rw [if_neg]
              · simpa using u1
              · have q1 := hl.1
                have q2 := hys.1
                simp [hsz]
                omega

theorem buildV_ok {P : Program} {Γ : Env} (hΓ : EnvOk P Γ) {F : Mem} {H : List O} {μ : Nat → Value} {ts : Ts} {a : Act} (hT : TSat F H μ ts a.tmps) {t : Nat} {parts : Array (Nat × Operand)} {s : S} (w : World)
    (h : buildV Γ ts t parts.toList = some s) (hq : ∀ q ∈ needP ts parts.toList, q) : ∃ r, (Instr.build t (parts.map fun (i, x) => (i, a.eval x))).run P w = .ok r w ∧ RepS F H μ s r := by
  unfold buildV at h
  cases h1 : Γ.at t with
  | none => simp [h1] at h
  | some i =>
    simp only [h1] at h
    have hti := hΓ t i h1
    obtain ⟨d, h2, h3⟩ := hti.und
    cases htd : i.td with
    | strct fs =>
      simp only [htd] at h h3
      cases d with
      | struct fields =>
        obtain ⟨e1, e2⟩ := h3
        cases hb : buildF Γ fs ts parts.toList (zeroL i) with
        | none => simp [hb] at h
        | some cs =>
          simp only [hb, Option.some.injEq] at h
          subst h
          obtain ⟨z, z1, z2, x, x1, x2⟩ := zeroL_ok (F := F) (H := H) (μ := μ) hti w
          have hm : ∃ places, fields.toList.mapM (fun f => (P.info? f.type).map fun i => (f.offset, i.size)) = some places := by
            have : ∀ l : List Field, (∀ f ∈ l, ∃ i, P.info? f.type = some i ∧ i.size ≠ 0) → ∃ places, l.mapM (fun f => (P.info? f.type).map fun i => (f.offset, i.size)) = some places := by
              intro l
              induction l with
              | nil => intro _; exact ⟨[], rfl⟩
              | cons f l ih =>
                intro hl
                obtain ⟨i, i1, _⟩ := hl f (by simp)
                obtain ⟨p, hp⟩ := ih (fun g hg => hl g (by simp [hg]))
                exact ⟨(f.offset, i.size) :: p, by simp [List.mapM_cons, i1, hp]⟩
            exact this _ e2
          obtain ⟨places, hp⟩ := hm
          obtain ⟨us, u1, u2⟩ := buildF_ok hΓ hT fields.toList fs e1 places hp parts.toList (zeroL i) cs z.cells hq hb z2
          refine ⟨.agg us, run_build w t _ us ?_, us, rfl, u2⟩
          unfold Program.built
          simp only [x1, h2, x2, hp]
          simpa using u1
      | _ => simp [tdOk] at h3
    | arr n e =>
      simp only [htd] at h h3
      cases d with
      | array m e' =>
        obtain ⟨rfl, rfl⟩ := h3
        cases hj : Γ.at e' with
        | none => simp [hj] at h
        | some jt =>
          simp only [hj] at h
          cases hb : buildA jt.size ts parts.toList (zeroL i) with
          | none => simp [hb] at h
          | some cs =>
            simp only [hb, Option.some.injEq] at h
            subst h
            obtain ⟨z, z1, z2, x, x1, x2⟩ := zeroL_ok (F := F) (H := H) (μ := μ) hti w
            obtain ⟨ie, e1, e2, -⟩ := (hΓ _ _ hj).info
            obtain ⟨us, u1, u2⟩ := buildA_ok hT jt.size parts.toList (zeroL i) cs z.cells hq hb z2
            refine ⟨.agg us, run_build w t _ us ?_, us, rfl, u2⟩
            unfold Program.built
            simp only [x1, h2, x2, e1, e2]
            simpa using u1
      | _ => simp [tdOk] at h3
    | _ => simp [htd] at h

/-- A part of a slice or of a string. -/
def sliceK (x : C) (lo hi mx : Option Int) : Option (List Prop × C) :=
  match x with
  | .isl es n get tight => match mx with
    | none => match lo with
      | none => match hi with
        | none => some ([], .isl es n get tight)
        | some h => some ([0 ≤ h, h ≤ n], .isl es h.toNat get false)
      | some l => match hi with
        | none => some ([0 ≤ l, l ≤ n], .isl es (n - l.toNat) (fun i j => get (l.toNat + i) j) false)
        | some h => some ([0 ≤ l, l ≤ h, h ≤ n], .isl es (h.toNat - l.toNat) (fun i j => get (l.toNat + i) j) false)
    | some m => match lo with
      | none => match hi with
        | none => none
        | some h => some ([0 ≤ h, h ≤ n, m = h], .isl es h.toNat get true)
      | some l => match hi with
        | none => none
        | some h => some ([0 ≤ l, l ≤ h, h ≤ n, m = h], .isl es (h.toNat - l.toNat) (fun i j => get (l.toNat + i) j) true)
  | .str s => match mx with
    | some _ => none
    | none => match lo with
      | none => match hi with
        | none => some ([], .str s)
        | some h => some ([0 ≤ h, h ≤ s.size], .str (s.extract 0 h.toNat))
      | some l => match hi with
        | none => some ([0 ≤ l, l ≤ s.size], .str (s.extract l.toNat s.size))
        | some h => some ([0 ≤ l, l ≤ h, h ≤ s.size], .str (s.extract l.toNat h.toNat))
  | _ => none

theorem isl_part {F : Mem} {es n : Nat} {get : Nat → Nat → C} {tight : Bool} {a : Option Addr} {cap : Nat} (hx : RepF F (.isl es n get tight) (.slice a n cap)) (l h m : Nat) (tight' : Bool)
    (h1 : l ≤ h) (h2 : h ≤ n) (h3 : h ≤ m) (_h4 : m ≤ cap) (ht : tight' = true → m = h) (get' : Nat → Nat → C) (hg : ∀ i j, get' i j = get (l + i) j) :
    RepF F (.isl es (h - l) get' tight') (sliced a l h m es) := by
  obtain ⟨a', cap', e, q1, q2, q3, q3', q4⟩ := hx
  cases e
  refine ⟨_, _, rfl, by omega, by omega, fun e => by have := ht e; omega, fun e => ?_, ?_⟩
  · by_cases c : m = l
    · omega
    · rw [if_neg c] at e
      cases a with
      | none => have := q3' rfl; omega
      | some a => simp at e
  by_cases h0 : h - l = 0
  · exact .inl h0
  · right
    rcases q4 with q4 | ⟨b, off, rfl, hc⟩
    · omega
    · rw [if_neg (by omega)]
      refine ⟨b, off + l * es, by simp [add_at], fun i hi j hj => ?_⟩
      obtain ⟨x, x1, x2⟩ := hc (l + i) (by omega) j hj
      refine ⟨x, ?_, by rw [hg]; exact x2⟩
      rw [← x1]; congr 1; rw [Nat.add_mul]; omega

def kindI : Option Int → Option Value → Prop
  | none, none => True
  | some n, some v => ∃ k, v = .int k n
  | _, _ => False

/-- What is sliced is of the slice's type. -/
def sliceT (P : Program) (Γ : Env) (t : Nat) : C → Prop
  | .isl es _ _ _ => ∃ e te, elemOf Γ t = some (e, te) ∧ es = te.size
  | _ => P.underlying t = some .string

theorem sliceK_ok {P : Program} {Γ : Env} (hΓ : EnvOk P Γ) {F : Mem} {H : List O} {μ : Nat → Value} (w : World) {t : Nat} {x c : C} {lo hi mx : Option Int} {vlo vhi vmx : Option Value} {v : Value} {ns : List Prop}
    (hx : RepC F H μ x v) (h : sliceK x lo hi mx = some (ns, c)) (hn : ∀ q ∈ ns, q) (hlo : kindI lo vlo) (hhi : kindI hi vhi) (hmx : kindI mx vmx)
    (ht : sliceT P Γ t x) :
    ∃ r, (Instr.sliceAt t v vlo vhi vmx).run P w = .ok r w ∧ RepC F H μ c r := by
  cases x with
  | isl es n get tight =>
    obtain ⟨e, te, he, hes⟩ := ht
    obtain ⟨hu, hte⟩ := elemOf_ok hΓ he
    have hel : P.elem t = e := by simp [Program.elem, hu]
    have hu' : P.underlying t = some (.slice (P.elem t)) := by rw [hel]; exact hu
    have hsz : (sizeOf (P.elem t)).run P w = .ok es w := by rw [hel, hes]; exact sizeOf_ok hte w
    have hx' := hx
    obtain ⟨a, cap, rfl, q1, q2, q3, q3', q4⟩ := hx'
    rw [run_sliceAt_slice w t _ _ _ _ hu']
    cases mx with
    | none =>
      cases vmx with
      | some _ => exact hmx.elim
      | none =>
      cases lo with
      | none =>
        cases vlo with
        | some _ => exact hlo.elim
        | none =>
        cases hi with
        | none =>
          cases vhi with
          | some _ => exact hhi.elim
          | none =>
          simp only [sliceK, Option.some.injEq, Prod.mk.injEq] at h
          obtain ⟨rfl, rfl⟩ := h
          rw [run_slice_all w t a n cap hu', hsz]
          refine ⟨_, rfl, RepF.toC H μ _ _ ?_⟩
          have := isl_part (F := F) hx 0 n cap tight (by omega) (by omega) q2 (by omega) q3 get (fun i j => by simp)
          simpa using this
        | some hh =>
          cases vhi with
          | none => exact hhi.elim
          | some vh =>
          obtain ⟨k, rfl⟩ := hhi
          simp only [sliceK, Option.some.injEq, Prod.mk.injEq] at h
          obtain ⟨rfl, rfl⟩ := h
          have c0 : 0 ≤ hh := hn _ (by simp)
          have c1 : hh ≤ n := hn _ (by simp)
          rw [run_slice_h w t a n cap hu' k hh c0 (by omega), hsz]
          refine ⟨_, rfl, RepF.toC H μ _ _ ?_⟩
          have := isl_part (F := F) hx 0 hh.toNat cap false (by omega) (by omega) (by omega) (by omega) (by simp) get (fun i j => by simp)
          simpa using this
      | some ll =>
        cases vlo with
        | none => exact hlo.elim
        | some vl =>
        obtain ⟨kl, rfl⟩ := hlo
        cases hi with
        | none =>
          cases vhi with
          | some _ => exact hhi.elim
          | none =>
          simp only [sliceK, Option.some.injEq, Prod.mk.injEq] at h
          obtain ⟨rfl, rfl⟩ := h
          have c0 : 0 ≤ ll := hn _ (by simp)
          have c1 : ll ≤ n := hn _ (by simp)
          rw [run_slice_l w t a n cap hu' kl ll c0 (by omega), hsz]
          refine ⟨_, rfl, RepF.toC H μ _ _ ?_⟩
          exact isl_part (F := F) hx ll.toNat n cap false (by omega) (by omega) (by omega) (by omega) (by simp) _ (fun i j => rfl)
        | some hh =>
          cases vhi with
          | none => exact hhi.elim
          | some vh =>
          obtain ⟨k, rfl⟩ := hhi
          simp only [sliceK, Option.some.injEq, Prod.mk.injEq] at h
          obtain ⟨rfl, rfl⟩ := h
          have c0 : 0 ≤ ll := hn _ (by simp)
          have c1 : ll ≤ hh := hn _ (by simp)
          have c2 : hh ≤ n := hn _ (by simp)
          rw [run_slice_lh w t a n cap hu' kl k ll hh c0 c1 (by omega), hsz]
          refine ⟨_, rfl, RepF.toC H μ _ _ ?_⟩
          exact isl_part (F := F) hx ll.toNat hh.toNat cap false (by omega) (by omega) (by omega) (by omega) (by simp) _ (fun i j => rfl)
    | some m =>
      cases vmx with
      | none => exact hmx.elim
      | some vm =>
      obtain ⟨km, rfl⟩ := hmx
      cases lo with
      | none =>
        cases vlo with
        | some _ => exact hlo.elim
        | none =>
        cases hi with
        | none => simp [sliceK] at h
        | some hh =>
          cases vhi with
          | none => exact hhi.elim
          | some vh =>
          obtain ⟨k, rfl⟩ := hhi
          simp only [sliceK, Option.some.injEq, Prod.mk.injEq] at h
          obtain ⟨rfl, rfl⟩ := h
          have c0 : 0 ≤ hh := hn _ (by simp)
          have c1 : hh ≤ n := hn _ (by simp)
          have c2 : m = hh := hn _ (by simp)
          subst c2
          rw [run_slice_hm w t a n cap hu' k km m m c0 (by omega) (by omega), hsz]
          refine ⟨_, rfl, RepF.toC H μ _ _ ?_⟩
          have := isl_part (F := F) hx 0 m.toNat m.toNat true (by omega) (by omega) (by omega) (by omega) (by simp) get (fun i j => by simp)
          simpa using this
      | some ll =>
        cases vlo with
        | none => exact hlo.elim
        | some vl =>
        obtain ⟨kl, rfl⟩ := hlo
        cases hi with
        | none => simp [sliceK] at h
        | some hh =>
          cases vhi with
          | none => exact hhi.elim
          | some vh =>
          obtain ⟨k, rfl⟩ := hhi
          simp only [sliceK, Option.some.injEq, Prod.mk.injEq] at h
          obtain ⟨rfl, rfl⟩ := h
          have c0 : 0 ≤ ll := hn _ (by simp)
          have c1 : ll ≤ hh := hn _ (by simp)
          have c2 : hh ≤ n := hn _ (by simp)
          have c3 : m = hh := hn _ (by simp)
          subst c3
          rw [run_slice_lhm w t a n cap hu' kl k km ll m m c0 c1 (by omega) (by omega), hsz]
          refine ⟨_, rfl, RepF.toC H μ _ _ ?_⟩
          exact isl_part (F := F) hx ll.toNat m.toNat m.toNat true (by omega) (by omega) (by omega) (by omega) (by simp) _ (fun i j => rfl)
  | str s =>
    have hu : P.underlying t = some .string := ht
    obtain ⟨rfl, hs⟩ := hx
    have bound : ∀ l h : Nat, (s.extract l h).size ≤ maxLen := by intro l h; simp [ByteArray.size_extract]; omega
    rw [run_sliceAt_string w t _ _ _ _ hu]
    cases mx with
    | some _ => simp [sliceK] at h
    | none =>
      cases vmx with
      | some _ => exact hmx.elim
      | none =>
      cases lo with
      | none =>
        cases vlo with
        | some _ => exact hlo.elim
        | none =>
        cases hi with
        | none =>
          cases vhi with
          | some _ => exact hhi.elim
          | none =>
          simp only [sliceK, Option.some.injEq, Prod.mk.injEq] at h
          obtain ⟨rfl, rfl⟩ := h
          refine ⟨.string (s.extract 0 s.size), by simp [Instr.slice, run_underlying hu, Instr.sliceBounds], ?_, hs⟩
          simp
        | some hh =>
          cases vhi with
          | none => exact hhi.elim
          | some vh =>
          obtain ⟨k, rfl⟩ := hhi
          simp only [sliceK, Option.some.injEq, Prod.mk.injEq] at h
          obtain ⟨rfl, rfl⟩ := h
          have c0 : 0 ≤ hh := hn _ (by simp)
          have c1 : hh ≤ s.size := hn _ (by simp)
          exact ⟨.string (s.extract 0 hh.toNat), by simp [Instr.slice, run_underlying hu, Instr.sliceBounds, run_sliceBound, c0, c1], rfl, bound _ _⟩
      | some ll =>
        cases vlo with
        | none => exact hlo.elim
        | some vl =>
        obtain ⟨kl, rfl⟩ := hlo
        cases hi with
        | none =>
          cases vhi with
          | some _ => exact hhi.elim
          | none =>
          simp only [sliceK, Option.some.injEq, Prod.mk.injEq] at h
          obtain ⟨rfl, rfl⟩ := h
          have c0 : 0 ≤ ll := hn _ (by simp)
          have c1 : ll ≤ s.size := hn _ (by simp)
          exact ⟨.string (s.extract ll.toNat s.size), by simp [Instr.slice, run_underlying hu, Instr.sliceBounds, run_sliceBound, c0, c1], rfl, bound _ _⟩
        | some hh =>
          cases vhi with
          | none => exact hhi.elim
          | some vh =>
          obtain ⟨k, rfl⟩ := hhi
          simp only [sliceK, Option.some.injEq, Prod.mk.injEq] at h
          obtain ⟨rfl, rfl⟩ := h
          have c0 : 0 ≤ ll := hn _ (by simp)
          have c1 : ll ≤ hh := hn _ (by simp)
          have c2 : hh ≤ s.size := hn _ (by simp)
          have c3 : 0 ≤ hh := by omega
          have eh : (hh.toNat : Int) = hh := Int.toNat_of_nonneg (by omega)
          exact ⟨.string (s.extract ll.toNat hh.toNat), by simp [Instr.slice, run_underlying hu, Instr.sliceBounds, run_sliceBound, c0, c1, c2, c3, eh], rfl, bound _ _⟩
  | _ => simp [sliceK] at h

def byteC : C → UInt8
  | .int _ n => UInt8.ofNat n.toNat
  | _ => 0

def bytesOf (n : Nat) (get : Nat → Nat → C) : ByteArray := ⟨((List.range n).map fun i => byteC (get i 0)).toArray⟩

/-- A slice of an array that is tracked. -/
def sliceO (te : TI) (H : List O) (x : C) (lo hi mx : Option Int) : Option (List Prop × S) :=
  match x with
  | .sl id es len tot xq => match Nat.beq es te.size with
    | true => match getL H id with
      | some (.arr _ _ n _) => match mx with
        | none => match lo with
          | none => match hi with
            | none => some ([tot = n], .c (.sl id es len tot xq))
            | some h => some ([0 ≤ h, h ≤ len, tot = n], .c (.sl id es h.toNat tot xq))
          | some l => match hi with
            | none => some ([0 ≤ l, l ≤ len, tot = n], .so id es l.toNat (len - l.toNat) tot)
            | some h => some ([0 ≤ l, l ≤ h, h ≤ len, tot = n], .so id es l.toNat (h.toNat - l.toNat) tot)
        | some _ => none
      | _ => none
    | false => none
  | _ => none

theorem sliced_so {H : List O} {μ : Nat → Value} {F : Mem} {id es e n : Nat} {g : Nat → Nat → C} (hid : getL H id = some (.arr e es n g)) {a : Option Addr} {cap : Nat} (hm : μ id = .slice a n cap) (ha : a = none → cap = 0) (hb : ∀ q, a = some q → ∃ b, q = ⟨b, 0, none⟩) (hnc : n ≤ cap) (l h : Nat) (h1 : l ≤ h) (h2 : h ≤ n) :
    RepS F H μ (.so id es l (h - l) n) (sliced a l h cap es) := by
  refine ⟨_, _, rfl, fun q => ?_, e, n, g, hid, Nat.le_refl _, by omega, fun _ => ?_⟩
  · by_cases c : cap = l
    · omega
    · rw [if_neg c] at q
      cases a with
      | none => have := ha rfl; omega
      | some a => simp at q
  · by_cases c : h - l = 0
    · exact .inl c
    · right
      rw [if_neg (by omega)]
      cases a with
      | none => have := ha rfl; omega
      | some q =>
        obtain ⟨b, rfl⟩ := hb q rfl
        exact ⟨b, cap, hm, by simp [add_at]⟩

theorem sliceO_ok {P : Program} {Γ : Env} (hΓ : EnvOk P Γ) {K : Keep} {F : Mem} {H : List O} {μ : Nat → Value} {w : World} (hw : HSat K F H μ w) {t e : Nat} {te : TI} {x : C} {s : S} {lo hi mx : Option Int} {vlo vhi vmx : Option Value} {v : Value} {ns : List Prop}
    (hx : RepC F H μ x v) (he : elemOf Γ t = some (e, te)) (h : sliceO te H x lo hi mx = some (ns, s)) (hn : ∀ q ∈ ns, q) (hlo : kindI lo vlo) (hhi : kindI hi vhi) (hmx : kindI mx vmx) :
    ∃ r, (Instr.sliceAt t v vlo vhi vmx).run P w = .ok r w ∧ RepS F H μ s r := by
  cases x with
  | sl id es len tot xq =>
    simp only [sliceO] at h
    cases hb : Nat.beq es te.size with
    | false => simp [hb] at h
    | true =>
      have hes : es = te.size := Nat.eq_of_beq_eq_true hb
      simp only [hb] at h
      obtain ⟨h0, e', n, g, h1, h2, h2', h3⟩ := hx
      simp only [h1] at h
      obtain ⟨hu, hte⟩ := elemOf_ok hΓ he
      have hel : P.elem t = e := by simp [Program.elem, hu]
      have hu' : P.underlying t = some (.slice (P.elem t)) := by rw [hel]; exact hu
      have hsz : (sizeOf (P.elem t)).run P w = .ok es w := by rw [hel, hes]; exact sizeOf_ok hte w
      have shape : ∀ (a : Option Addr) (cap : Nat), μ id = .slice a n cap → (a = none → cap = 0) ∧ (∀ q, a = some q → ∃ b, q = ⟨b, 0, none⟩) ∧ n ≤ cap := by
        intro a cap hm
        obtain ⟨xs, o1, _, _⟩ := hw.ob id _ h1
        rcases o1.2 with ⟨q1, q2⟩ | ⟨b, cap', cur, q1, _, _, q4, _⟩
        · rw [hm] at q1
          cases q1
          exact ⟨fun _ => rfl, fun q e => by (cases e), by omega⟩
        · rw [hm] at q1
          cases q1
          exact ⟨fun e => by (cases e), fun q e => by (cases e; exact ⟨b, rfl⟩), q4⟩
      cases mx with
      | some _ => simp at h
      | none =>
        cases vmx with
        | some _ => exact hmx.elim
        | none =>
        simp only at h
        cases lo with
        | none =>
          cases vlo with
          | some _ => exact hlo.elim
          | none =>
          cases hi with
          | none =>
            cases vhi with
            | some _ => exact hhi.elim
            | none =>
            simp only [Option.some.injEq, Prod.mk.injEq] at h
            obtain ⟨rfl, rfl⟩ := h
            have c2 : tot = n := hn _ (by simp)
            obtain ⟨a, cap, m1, rfl, m3⟩ := h3 c2
            obtain ⟨s1, s2, s3⟩ := shape a cap m1
            rw [run_sliceAt_slice w t _ _ _ _ hu', run_slice_all w t a len cap hu', hsz]
            refine ⟨_, rfl, rfl, e', n, g, h1, h2, h2', fun _ => ⟨a, cap, m1, ?_, m3⟩⟩
            have ea : a.map (fun q => q.add (0 * es)) = a := by
              cases a with
              | none => rfl
              | some q => obtain ⟨b, rfl⟩ := s2 q rfl; simp [add_at]
            unfold sliced
            split
            · simp
            · rw [ea]; simp
          | some hh =>
            cases vhi with
            | none => exact hhi.elim
            | some vh =>
            obtain ⟨k, rfl⟩ := hhi
            simp only [Option.some.injEq, Prod.mk.injEq] at h
            obtain ⟨rfl, rfl⟩ := h
            have c0 : 0 ≤ hh := hn _ (by simp)
            have c1 : hh ≤ len := hn _ (by simp)
            have c2 : tot = n := hn _ (by simp)
            obtain ⟨a, cap, m1, rfl, m3⟩ := h3 c2
            obtain ⟨s1, s2, s3⟩ := shape a cap m1
            rw [run_sliceAt_slice w t _ _ _ _ hu', run_slice_h w t a len cap hu' k hh c0 (by omega), hsz]
            refine ⟨_, rfl, rfl, e', n, g, h1, h2, by omega, fun _ => ⟨a, cap, m1, ?_, m3⟩⟩
            have ea : a.map (fun q => q.add (0 * es)) = a := by
              cases a with
              | none => rfl
              | some q => obtain ⟨b, rfl⟩ := s2 q rfl; simp [add_at]
            unfold sliced
            split
            · simp
            · rw [ea]; simp
        | some ll =>
          cases vlo with
          | none => exact hlo.elim
          | some vl =>
          obtain ⟨kl, rfl⟩ := hlo
          cases hi with
          | none =>
            cases vhi with
            | some _ => exact hhi.elim
            | none =>
            simp only [Option.some.injEq, Prod.mk.injEq] at h
            obtain ⟨rfl, rfl⟩ := h
            have c0 : 0 ≤ ll := hn _ (by simp)
            have c1 : ll ≤ len := hn _ (by simp)
            have c2 : tot = n := hn _ (by simp)
            obtain ⟨a, cap, m1, rfl, m3⟩ := h3 c2
            obtain ⟨s1, s2, s3⟩ := shape a cap m1
            rw [run_sliceAt_slice w t _ _ _ _ hu', run_slice_l w t a len cap hu' kl ll c0 (by omega), hsz]
            subst c2
            exact ⟨_, rfl, sliced_so h1 m1 s1 s2 s3 ll.toNat len (by omega) (by omega)⟩
          | some hh =>
            cases vhi with
            | none => exact hhi.elim
            | some vh =>
            obtain ⟨k, rfl⟩ := hhi
            simp only [Option.some.injEq, Prod.mk.injEq] at h
            obtain ⟨rfl, rfl⟩ := h
            have c0 : 0 ≤ ll := hn _ (by simp)
            have c1 : ll ≤ hh := hn _ (by simp)
            have c3 : hh ≤ len := hn _ (by simp)
            have c2 : tot = n := hn _ (by simp)
            obtain ⟨a, cap, m1, rfl, m3⟩ := h3 c2
            obtain ⟨s1, s2, s3⟩ := shape a cap m1
            rw [run_sliceAt_slice w t _ _ _ _ hu', run_slice_lh w t a len cap hu' kl k ll hh c0 c1 (by omega), hsz]
            subst c2
            exact ⟨_, rfl, sliced_so h1 m1 s1 s2 s3 ll.toNat hh.toNat (by omega) (by omega)⟩
  | _ => simp [sliceO] at h

end Go.Am
end

section
/- THE ABSTRACT MACHINE, PART 5, beside: maps, looked at. -/
namespace Go.Am

/-- What is frozen, or has no memory. -/
def C.imm : C → Bool
  | .ptr .. => false
  | .ep .. => false
  | .sl .. => false
  | .mpr _ => false
  | .fn _ n _ => Nat.beq n 0
  | _ => true

theorem imm_rep {F : Mem} {H : List O} {μ : Nat → Value} {c : C} (hc : c.imm = true) {v : Value} (h : RepC F H μ c v) : RepF F c v := by
  cases c with
  | ptr => cases hc
  | ep => cases hc
  | sl => cases hc
  | mpr => cases hc
  | fn f n g =>
    have hn : n = 0 := Nat.eq_of_beq_eq_true hc
    obtain ⟨cs, h1, h2, _⟩ := h
    exact ⟨cs, h1, h2, fun j hj => by omega⟩
  | _ => exact h

theorem all_get {α : Type} {p : α → Bool} {l : List α} (h : l.all p = true) {j : Nat} {x : α} (hx : getL l j = some x) : p x = true := by
  rw [getL_eq] at hx
  exact List.all_eq_true.1 h x (List.mem_of_getElem? hx)

def memK (ks : List Key) (k : Key) : Bool := decide (k ∈ ks)

theorem memK_iff {ks : List Key} {k : Key} : memK ks k = true ↔ k ∈ ks := by simp [memK]

def keyC : C → Option KC
  | .int q n => some (.i q n)
  | .str b => some (.s b)
  | _ => none

def keyL : List C → Option (List KC)
  | [] => some []
  | x :: r => match keyC x with
    | some k => match keyL r with
      | some l => some (k :: l)
      | none => none
    | none => none

def keyS : S → Option Key
  | .c x => match keyC x with
    | some k => some (.c k)
    | none => none
  | .a xs => match keyL xs with
    | some l => some (.a l)
    | none => none
  | _ => none

def shB (sh : KS) (k : Key) : Bool := decide (k.sh = sh)

def mapOf (Γ : Env) (t : Nat) : Option (KS × Nat × Nat × TI) :=
  match Γ.at t with
  | some i => match i.td with
    | .map sh k e => match Γ.at e with
      | some te => some (sh, k, e, te)
      | none => none
    | _ => none
  | none => none

theorem mapOf_ok {P : Program} {Γ : Env} (hΓ : EnvOk P Γ) {t : Nat} {sh : KS} {k e : Nat} {te : TI} (h : mapOf Γ t = some (sh, k, e, te)) : P.underlying t = some (.map k e) ∧ KL P k sh ∧ TIok P e te := by
  unfold mapOf at h
  cases h1 : Γ.at t with
  | none => simp [h1] at h
  | some i =>
    simp only [h1] at h
    cases h2 : i.td with
    | map sh' k' e' =>
      simp only [h2] at h
      cases h3 : Γ.at e' with
      | none => simp [h3] at h
      | some te' =>
        simp only [h3, Option.some.injEq, Prod.mk.injEq] at h
        obtain ⟨rfl, rfl, rfl, rfl⟩ := h
        obtain ⟨d, d1, d2⟩ := (hΓ t i h1).und
        rw [h2] at d2
        cases d with
        | map kk ee =>
          obtain ⟨rfl, rfl, d3⟩ := d2
          exact ⟨d1, d3, hΓ _ _ h3⟩
        | _ => exact d2.elim
    | _ => simp [h2] at h

theorem keyC_ok {F : Mem} {H : List O} {μ : Nat → Value} {c : C} {k : KC} (h : keyC c = some k) {v : Value} (hv : RepC F H μ c v) : v = k.toV := by
  cases c <;> simp only [keyC, Option.some.injEq, reduceCtorEq] at h
  · subst h; exact hv
  · subst h; exact hv.1

theorem keyL_ok {F : Mem} {H : List O} {μ : Nat → Value} : ∀ {xs : List C} {l : List KC}, keyL xs = some l → ∀ {vs : List Value}, vs.length = xs.length → (∀ (j : Nat) x, getL xs j = some x → ∃ v, vs[j]? = some v ∧ RepC F H μ x v) → vs = l.map KC.toV
  | [], l, h, vs, hl, _ => by
    simp only [keyL, Option.some.injEq] at h
    subst h
    exact List.length_eq_zero_iff.1 hl
  | x :: r, l, h, vs, hl, hv => by
    simp only [keyL] at h
    split at h
    · rename_i k hk
      split at h
      · rename_i l' hl'
        cases h
        cases vs with
        | nil => simp at hl
        | cons v vs =>
          obtain ⟨u, u1, u2⟩ := hv 0 x rfl
          simp only [List.getElem?_cons_zero, Option.some.injEq] at u1
          subst u1
          have ih := keyL_ok hl' (vs := vs) (by simpa using hl) fun j y hy => by
            obtain ⟨z, z1, z2⟩ := hv (j + 1) y hy
            exact ⟨z, by simpa using z1, z2⟩
          rw [List.map_cons, keyC_ok hk u2, ih]
      · cases h
    · cases h

theorem keyS_ok {F : Mem} {H : List O} {μ : Nat → Value} {s : S} {k : Key} (h : keyS s = some k) {v : Value} (hv : RepS F H μ s v) : v = k.toV := by
  cases s with
  | c x =>
    simp only [keyS] at h
    split at h
    · rename_i q hq; cases h; exact keyC_ok hq hv
    · cases h
  | a xs =>
    simp only [keyS] at h
    split at h
    · rename_i l hl
      cases h
      obtain ⟨cs, rfl, h1, h2⟩ := hv
      show Value.agg cs = .agg _
      congr 1
      apply Array.toList_inj.1
      rw [keyL_ok hl (vs := cs.toList) (by simpa using h1) (fun j x hx => by simpa using h2 j x hx)]
    · cases h
  | _ => cases h

theorem KC.toV_inj {a b : KC} (h : a.toV = b.toV) : a = b := by
  cases a <;> cases b <;> simp only [KC.toV, Value.int.injEq, Value.string.injEq, reduceCtorEq] at h
  · obtain ⟨rfl, rfl⟩ := h; rfl
  · subst h; rfl

theorem mapV_inj : ∀ {l m : List KC}, l.map KC.toV = m.map KC.toV → l = m
  | [], [], _ => rfl
  | [], _ :: _, h => by simp at h
  | _ :: _, [], h => by simp at h
  | x :: r, y :: t, h => by
    simp only [List.map_cons, List.cons.injEq] at h
    rw [KC.toV_inj h.1, mapV_inj h.2]

theorem Key.toV_inj {a b : Key} (h : a.toV = b.toV) : a = b := by
  cases a with
  | c x => cases b with
    | c y => rw [KC.toV_inj h]
    | a l => cases x <;> cases h
  | a l => cases b with
    | c y => cases y <;> cases h
    | a m =>
      simp only [Key.toV, Value.agg.injEq] at h
      have h := congrArg Array.toList h
      simp only at h
      have : l = m := mapV_inj h
      rw [this]

def tabF (f : Nat → C) : Nat → Nat → List C
  | 0, _ => []
  | n + 1, k => f k :: tabF f n (k + 1)

theorem tabF_len (f : Nat → C) : ∀ n k, (tabF f n k).length = n
  | 0, _ => rfl
  | n + 1, k => by simp [tabF, tabF_len f n]
theorem tabF_get (f : Nat → C) : ∀ n k j, getL (tabF f n k) j = if j < n then some (f (k + j)) else none
  | 0, _, j => by simp [tabF, getL]
  | n + 1, k, 0 => by simp [tabF, getL]
  | n + 1, k, j + 1 => by
    simp only [tabF, getL, tabF_get f n (k + 1) j]
    rw [show k + 1 + j = k + (j + 1) by omega]
    simp

/-- An element's zero has its cells. -/
def goodM (te : TI) : Bool := Nat.beq te.zero.length te.size && (te.agg || Nat.beq te.size 1)

theorem goodM_ok {te : TI} (h : goodM te = true) : te.zero.length = te.size ∧ (te.agg = false → te.size = 1) := by
  unfold goodM at h
  rw [Bool.and_eq_true, Bool.or_eq_true] at h
  refine ⟨Nat.eq_of_beq_eq_true h.1, fun e => ?_⟩
  rcases h.2 with h | h
  · rw [e] at h; cases h
  · exact Nat.eq_of_beq_eq_true h

def mpB (sh : KS) (te : TI) (sh' : KS) (z : List Z) (va : Bool) : Bool := decide (sh' = sh) && decide (z = te.zero) && decide (va = te.agg)

theorem mpB_ok {sh sh' : KS} {te : TI} {z : List Z} {va : Bool} (h : mpB sh te sh' z va = true) : sh' = sh ∧ z = te.zero ∧ va = te.agg := by
  simp only [mpB, Bool.and_eq_true, decide_eq_true_eq] at h
  exact ⟨h.1.1, h.1.2, h.2⟩

def elS (va : Bool) (m : Nat) (f : Nat → C) : C ⊕ List C :=
  match va with
  | true => .inr (tabF f m 0)
  | false => .inl (f 0)

def lookS (va : Bool) (m : Nat) (ks : List Key) (val : Key → Nat → C) (key : Key) (ok : Bool) : S :=
  match ok with
  | true => .t [elS va m (val key), .inl (.bool (memK ks key))]
  | false => match va with
    | true => .a (tabF (val key) m 0)
    | false => .c (val key 0)

theorem RepV.el {F : Mem} {H : List O} {μ : Nat → Value} {va : Bool} {m : Nat} (hm : va = false → m = 1) {f : Nat → C} {v : Value} (h : RepV F va m f v) : RepE F H μ (elS va m f) v := by
  obtain ⟨h1, h2, h3, h4⟩ := h
  cases va with
  | true =>
    obtain ⟨a, rfl⟩ := h1 rfl
    refine ⟨a, rfl, by rw [tabF_len]; exact h3, fun j x hx => ?_⟩
    rw [tabF_get] at hx
    split at hx
    · rename_i hj
      cases hx
      obtain ⟨y, y1, y2⟩ := h4 j hj
      exact ⟨y, y1, by rw [Nat.zero_add]; exact RepF.toC H μ _ _ y2⟩
    · cases hx
  | false =>
    obtain ⟨y, y1, y2⟩ := h4 0 (by rw [hm rfl]; omega)
    have : y = v := by
      have ho := h2 rfl
      cases v <;> simp_all [Value.cells, Value.oneCell']
    subst this
    exact RepF.toC H μ _ _ y2

/-- What a map's place holds. -/
theorem MRep.find {P : Program} {k : Nat} {sh : KS} (hk : KL P k sh) {F : Mem} {z : List Z} {va : Bool} {ks : List Key} {val : Key → Nat → C} {es : List MapEntry} (hr : MRep F sh z va ks val es) (w : World) {x : Key} (hx : x.sh = sh) :
    (memK ks x = false ∧ (Instr.findKey k x.toV es).run P w = .ok Option.none w) ∨ ∃ (j : Nat) (e : MapEntry), memK ks x = true ∧ (Instr.findKey k x.toV es).run P w = .ok (some (j, e.val)) w ∧ es[j]? = some e ∧ ks[j]? = some x ∧ e.key = x.toV ∧ RepV F va z.length (val x) e.val := by
  have hlen : es.length = ks.length := by
    have := congrArg List.length hr.keys
    simpa using this
  have kat : ∀ (j : Nat) (e : MapEntry), es[j]? = some e → ∃ y, ks[j]? = some y ∧ e.key = y.toV := by
    intro j e he
    have hj := (List.getElem?_eq_some_iff.1 he).1
    refine ⟨ks[j]'(by omega), by simp, ?_⟩
    have h1 : (es.map (·.key))[j]? = some e.key := by simp [he]
    rw [hr.keys] at h1
    simpa [List.getElem?_eq_getElem (show j < ks.length by omega)] using h1.symm
  rcases hk.find w x hx es (fun e he => by
    obtain ⟨j, hj⟩ := List.mem_iff_getElem?.1 he
    obtain ⟨y, y1, y2⟩ := kat j e hj
    exact ⟨y, hr.shp y (List.mem_of_getElem? y1), y2⟩) with ⟨h1, h2⟩ | ⟨j, e, h1, h2, h3⟩
  · refine .inl ⟨?_, h1⟩
    cases hm : memK ks x with
    | false => rfl
    | true =>
      exfalso
      have hin := memK_iff.1 hm
      have : x.toV ∈ es.map (·.key) := by rw [hr.keys]; exact List.mem_map_of_mem hin
      obtain ⟨e, e1, e2⟩ := List.mem_map.1 this
      exact h2 e e1 e2
  · obtain ⟨y, y1, y2⟩ := kat j e h2
    have : y = x := Key.toV_inj (by rw [← y2]; exact h3)
    subst this
    exact .inr ⟨j, e, memK_iff.2 (List.mem_of_getElem? y1), h1, h2, y1, h3, hr.vals j e y h2 y1⟩

theorem zero_ok {P : Program} {e : Nat} {te : TI} (ht : TIok P e te) (w : World) : ∃ z, (zeroValue e).run P w = .ok z w ∧ z.cells.toList = te.zero.map Z.toV ∧ (te.agg = true → ∃ a, z = .agg a) ∧ (te.agg = false → z.oneCell' = true) := by
  obtain ⟨x, h1, h2, h3, z, h4, h5⟩ := ht.info
  refine ⟨z, ?_, h5, ht.zag x z h1 h4⟩
  simp [zeroValue, typeInfo, h1, h4]

theorem MRep.absent {F : Mem} {sh : KS} {z : List Z} {va : Bool} {ks : List Key} {val : Key → Nat → C} {es : List MapEntry} (hr : MRep F sh z va ks val es) {x : Key} (hs : x.sh = sh) (hx : memK ks x = false) {v : Value} (h1 : v.cells.toList = z.map Z.toV) (h2 : va = true → ∃ a, v = .agg a) (h3 : va = false → v.oneCell' = true) : RepV F va z.length (val x) v := by
  refine ⟨h2, h3, by rw [← Array.length_toList, h1]; simp, fun j hj => ?_⟩
  obtain ⟨q, q1, q2⟩ := hr.none x hs (fun h => by rw [memK_iff.2 h] at hx; cases hx) j hj
  refine ⟨_, ?_, q2⟩
  rw [← Array.getElem?_toList, h1, List.getElem?_map, q1]; rfl

section
variable {P : Program} {Γ : Env} (hΓ : EnvOk P Γ) {K : Keep} {F : Mem} {H H' : List O} {μ : Nat → Value} {w : World} {t k e : Nat} {sh : KS} {te : TI} {id : Nat} {ks : List Key} {val : Key → Nat → C} {key : Key}
include hΓ

theorem look_ok (hw : HSat K F H μ w) (hm : mapOf Γ t = some (sh, k, e, te)) (hg : getL H id = some (.mp sh te.zero te.agg ks val)) {x : Value} (hx : RepC F H μ (.mpr id) x) (hk : key.sh = sh) (h1 : te.agg = false → te.size = 1) (hz : te.zero.length = te.size) (ok : Bool) :
    ∃ r, (Instr.lookup t x key.toV ok).run P w = .ok r w ∧ RepS F H μ (lookS te.agg te.size ks val key ok) r := by
  obtain ⟨hu, hkl, hte⟩ := mapOf_ok hΓ hm
  obtain ⟨_, b, m1, rfl⟩ := hx
  obtain ⟨b', es, ck, m2, m3, m4, -⟩ := hw.ob id _ hg
  rw [m1] at m2
  cases m2
  have hrun : ∀ (v : Value) (q : Bool), RepV F te.agg te.size (val key) v → memK ks key = q → RepS F H μ (lookS te.agg te.size ks val key ok) (if ok = true then .tuple #[v, .bool q] else v) := by
    intro v q hv hq
    have hel := hv.el (H := H) (μ := μ) h1
    cases ok with
    | true =>
      refine ⟨_, rfl, rfl, fun j y hj => ?_⟩
      match j with
      | 0 => simp only [getL, Option.some.injEq] at hj; subst hj; exact ⟨v, rfl, hel⟩
      | 1 => simp only [getL, Option.some.injEq] at hj; subst hj; exact ⟨.bool q, rfl, by rw [hq]; rfl⟩
      | j + 2 => simp [getL] at hj
    | false =>
      simp only [lookS, if_neg (show ¬ (false = true) by simp)]
      cases ha : te.agg with
      | true => rw [ha] at hel; exact hel
      | false => rw [ha] at hel; exact hel
  rcases m4.find hkl w hk with ⟨q1, q2⟩ | ⟨j, en, q1, q2, q3, q4, q5, q6⟩
  · obtain ⟨z, z1, z2, z3, z4⟩ := zero_ok hte w
    have hv := m4.absent hk q1 z2 z3 z4
    rw [hz] at hv
    refine ⟨_, ?_, hrun z false hv q1⟩
    unfold Instr.lookup
    rw [bind_ok (run_underlying hu w)]
    simp only
    rw [bind_ok (MapKept.run_getObj_map m3)]
    simp only
    rw [bind_ok (show (pure es : Sem (Array MapEntry)).run P w = .ok es w from rfl), bind_ok (hkl.check w _ key hk), bind_ok q2]
    simp only
    rw [bind_ok z1]
    rfl
  · rw [hz] at q6
    refine ⟨_, ?_, hrun en.val true q6 q1⟩
    unfold Instr.lookup
    rw [bind_ok (run_underlying hu w)]
    simp only
    rw [bind_ok (MapKept.run_getObj_map m3)]
    simp only
    rw [bind_ok (show (pure es : Sem (Array MapEntry)).run P w = .ok es w from rfl), bind_ok (hkl.check w _ key hk), bind_ok q2]
    rfl
end
end Go.Am
end

section
/- THE ABSTRACT MACHINE, PART 5, beside: structs of plain cells, compared. -/
namespace Go.Am
/-- A cell of a plain kind. -/
def plainV : TypeDesc → Value → Prop
  | .bool, .bool _ => True
  | .int k, .int k' _ => k' = k
  | .string, .string _ => True
  | _, _ => False

theorem run_equalIn_plain {P : Program} {w : World} {t : TypeId} {d : TypeDesc} (hd : P.underlying t = some d) {a b : Value} (ha : plainV d a) (hb : plainV d b) (n : Nat) : ∃ r : Bool, (Op.equalIn (n + 1) t a b).run P w = .ok r w ∧ (r = true ↔ a = b) := by
  unfold Op.equalIn
  rw [bind_ok (run_underlying hd w)]
  cases d <;> cases a <;> simp only [plainV] at ha <;> cases b <;> simp only [plainV] at hb
  · rename_i x y
    exact ⟨x == y, rfl, by simp⟩
  · rename_i q k x k' y
    subst ha hb
    exact ⟨x == y, by simp, by simp⟩
  · rename_i x y
    exact ⟨x == y, rfl, by simp [MapKept.bytes_beq]⟩

/-- Cells of these kinds. -/
structure Kin (zs : List Z) (xs ys : Array Value) : Prop where
  sx : xs.size = zs.length
  sy : ys.size = zs.length
  at' : ∀ (j : Nat) z, zs[j]? = some z → ∃ a b, xs[j]? = some a ∧ ys[j]? = some b ∧ ∀ d, zkind d z = true → plainV d a ∧ plainV d b

theorem ext_get {xs : Array Value} {o n j : Nat} (h : o + n ≤ xs.size) (hj : j < n) : (xs.extract o (o + n))[j]? = xs[o + j]? := by
  rw [Array.getElem?_extract]
  simp
  omega

theorem Kin.sub {zs : List Z} {xs ys : Array Value} (h : Kin zs xs ys) {o n : Nat} (hn : ((zs.drop o).take n).length = n) : Kin ((zs.drop o).take n) (xs.extract o (o + n)) (ys.extract o (o + n)) := by
  have h1 := h.sx
  have h2 := h.sy
  by_cases c : n = 0
  · subst c
    exact ⟨by simp; omega, by simp; omega, fun j z hj => by simp at hj⟩
  have : o + n ≤ zs.length := by simp at hn; omega
  refine ⟨by rw [hn]; simp; omega, by rw [hn]; simp; omega, fun j z hj => ?_⟩
  have hjn : j < n := by
    have := (List.getElem?_eq_some_iff.1 hj).1
    omega
  rw [ext_get (by omega) hjn, ext_get (by omega) hjn]
  rw [List.getElem?_take, if_pos hjn, List.getElem?_drop] at hj
  exact h.at' _ z hj

/-- The value of a type with these cells. -/
def pv (P : Program) (t : Nat) (cs : Array Value) : Value := match P.underlying t with
  | some (.struct _) => .agg cs
  | _ => cs.getD 0 undef

theorem tile_in {P : Program} : ∀ {fs : List Field} {o n : Nat}, tileB P fs o n = true → o ≤ n ∧ ∀ f ∈ fs, o ≤ f.offset ∧ f.offset + P.cellsOf f.type ≤ n
  | [], o, n, h => by
    simp only [tileB, decide_eq_true_eq] at h
    exact ⟨by omega, fun f hf => absurd hf (by simp)⟩
  | f :: r, o, n, h => by
    simp only [tileB, Bool.and_eq_true, decide_eq_true_eq] at h
    obtain ⟨h1, h2⟩ := tile_in h.2
    refine ⟨by omega, fun g hg => ?_⟩
    rcases List.mem_cons.1 hg with rfl | hg
    · exact ⟨by omega, by omega⟩
    · have := h2 g hg; exact ⟨by omega, this.2⟩

theorem tile_cov {P : Program} {p : Nat → Prop} : ∀ {fs : List Field} {o n : Nat}, tileB P fs o n = true → (∀ f ∈ fs, ∀ j, j < P.cellsOf f.type → p (f.offset + j)) → ∀ i, o ≤ i → i < n → p i
  | [], o, n, h, _, i, h1, h2 => by
    simp only [tileB, decide_eq_true_eq] at h
    omega
  | f :: r, o, n, h, hp, i, h1, h2 => by
    simp only [tileB, Bool.and_eq_true, decide_eq_true_eq] at h
    by_cases c : i < o + P.cellsOf f.type
    · have := hp f (by simp) (i - o) (by omega)
      rw [h.1, show o + (i - o) = i by omega] at this
      exact this
    · exact tile_cov h.2 (fun g hg => hp g (by simp [hg])) i (by omega) h2

theorem run_part_pv {P : Program} {w : World} {d t : Nat} {zs : List Z} (h : deepB P d t zs = true) (hn : zs.length = P.cellsOf t) {xs : Array Value} {o : Nat} (ho : o + P.cellsOf t ≤ xs.size) : (part t xs o).run P w = .ok (pv P t (xs.extract o (o + P.cellsOf t))) w := by
  cases d with
  | zero => simp [deepB] at h
  | succ d =>
    simp only [deepB] at h
    split at h
    · rename_i fs hu
      obtain ⟨i, hi⟩ := info_of_underlying hu
      simp [part, isAgg, run_underlying hu, run_sizeOf w hi, pv, hu]
    · rename_i k hk hu
      rw [Bool.and_eq_true] at h
      have h1 : zs.length = 1 := by
        have := h.2
        split at this
        · rfl
        · cases this
      obtain ⟨v, hv⟩ : ∃ v, xs[o]? = some v := ⟨xs[o]'(by omega), by simp⟩
      rw [run_part_plain w h.1 hv]
      congr 1
      unfold pv
      rw [hu]
      split
      · rename_i fs he; exact absurd (Option.some.inj he) (by
          intro e; subst e
          have := h.1
          simp [Program.plainKey, hu] at this)
      · rw [← hn, h1]
        have := ext_get (xs := xs) (o := o) (n := 1) (j := 0) (by omega) (by omega)
        rw [show o + 0 = o from rfl, hv] at this
        rw [Array.getD_eq_getD_getElem?, this]; rfl
    · cases h

theorem run_eqFields_pv {P : Program} {w : World} (N : Nat) (xs ys : Array Value) : ∀ fs : List Field,
    (∀ f ∈ fs, f.name ≠ "_" ∧ (part f.type xs f.offset).run P w = .ok (pv P f.type (xs.extract f.offset (f.offset + P.cellsOf f.type))) w ∧ (part f.type ys f.offset).run P w = .ok (pv P f.type (ys.extract f.offset (f.offset + P.cellsOf f.type))) w ∧
      ∃ r : Bool, (Op.equalIn N f.type (pv P f.type (xs.extract f.offset (f.offset + P.cellsOf f.type))) (pv P f.type (ys.extract f.offset (f.offset + P.cellsOf f.type)))).run P w = .ok r w ∧ (r = true ↔ xs.extract f.offset (f.offset + P.cellsOf f.type) = ys.extract f.offset (f.offset + P.cellsOf f.type))) →
    ∃ r : Bool, (Op.eqFields N xs ys fs).run P w = .ok r w ∧ (r = true ↔ ∀ f ∈ fs, xs.extract f.offset (f.offset + P.cellsOf f.type) = ys.extract f.offset (f.offset + P.cellsOf f.type))
  | [], _ => ⟨true, rfl, by simp⟩
  | f :: fs, h => by
    obtain ⟨h1, h2, h3, r, r1, r2⟩ := h f (by simp)
    obtain ⟨r', q1, q2⟩ := run_eqFields_pv N xs ys fs fun g hg => h g (by simp [hg])
    simp only [Op.eqFields, if_pos h1]
    rw [bind_ok h2, bind_ok h3, bind_ok r1]
    cases r with
    | false =>
      refine ⟨false, by simp, ?_⟩
      simp only [List.forall_mem_cons, ← r2]
      simp
    | true =>
      refine ⟨r', by simpa using q1, ?_⟩
      simp only [List.forall_mem_cons, ← r2, q2]
      simp

theorem run_equal_deep' {P : Program} {w : World} : ∀ (d t : Nat) (zs : List Z), deepB P d t zs = true → ∀ (N : Nat) (xs ys : Array Value), Kin zs xs ys → ∃ r : Bool, (Op.equalIn (d + N) t (pv P t xs) (pv P t ys)).run P w = .ok r w ∧ (r = true ↔ xs = ys)
  | 0, _, _, h, _, _, _, _ => by simp [deepB] at h
  | d + 1, t, zs, h, N, xs, ys, hk => by
    simp only [deepB] at h
    split at h
    · rename_i fs hu
      simp only [Bool.and_eq_true, Bool.not_eq_true', List.all_eq_true, bne_iff_ne, decide_eq_true_eq] at h
      obtain ⟨⟨h1, h2⟩, h3⟩ := h
      have hfs : P.fieldsOf t = fs := by simp [Program.fieldsOf, hu]
      have hx := hk.sx
      have hy := hk.sy
      obtain ⟨_, hin⟩ := tile_in h2
      obtain ⟨r, r1, r2⟩ := run_eqFields_pv (P := P) (w := w) (d + N) xs ys fs.toList (fun f hf => by
        obtain ⟨⟨g1, g2⟩, g3⟩ := h3 f hf
        have := (hin f hf).2
        exact ⟨g1, run_part_pv g3 g2 (by omega), run_part_pv g3 g2 (by omega), run_equal_deep' d f.type _ g3 N _ _ (hk.sub g2)⟩)
      refine ⟨r, ?_, ?_⟩
      · have e : pv P t xs = .agg xs := by simp [pv, hu]
        have e' : pv P t ys = .agg ys := by simp [pv, hu]
        rw [e, e', show d + 1 + N = (d + N) + 1 by omega, run_equalIn_struct w (d + N) t xs ys (by rw [hfs]; exact hu) h1, hfs]
        exact r1
      · rw [r2]
        constructor
        · intro hall
          refine Array.ext_getElem? fun i => ?_
          by_cases c : i < zs.length
          · refine tile_cov (p := fun i => xs[i]? = ys[i]?) h2 (fun f hf j hj => ?_) i (Nat.zero_le _) c
            have := (hin f hf).2
            have e : (xs.extract f.offset (f.offset + P.cellsOf f.type))[j]? = (ys.extract f.offset (f.offset + P.cellsOf f.type))[j]? := by rw [hall f hf]
            rwa [ext_get (by omega) hj, ext_get (by omega) hj] at e
          · rw [Array.getElem?_eq_none (by omega), Array.getElem?_eq_none (by omega)]
        · intro e f _; rw [e]
    · rename_i k hns hu
      rw [Bool.and_eq_true] at h
      have h2 := h.2
      split at h2
      · rename_i z
        obtain ⟨a, b, a1, b1, ab⟩ := hk.at' 0 z rfl
        obtain ⟨p, q⟩ := ab k h2
        have hx := hk.sx
        have hy := hk.sy
        have np : ∀ cs : Array Value, pv P t cs = cs.getD 0 undef := fun cs => by
          unfold pv
          rw [hu]
          split
          · rename_i fs he; exact absurd (Option.some.inj he) (fun e => by
              subst e
              have := h.1
              simp [Program.plainKey, hu] at this)
          · rfl
        have e1 : pv P t xs = a := by rw [np, Array.getD_eq_getD_getElem?, a1]; rfl
        have e2 : pv P t ys = b := by rw [np, Array.getD_eq_getD_getElem?, b1]; rfl
        obtain ⟨r, r1, r2⟩ := run_equalIn_plain (w := w) hu p q (d + N)
        refine ⟨r, by rw [e1, e2, show d + 1 + N = d + N + 1 by omega]; exact r1, ?_⟩
        rw [r2]
        constructor
        · intro e
          refine Array.ext_getElem? fun i => ?_
          cases i with
          | zero => rw [a1, b1, e]
          | succ i => simp at hx hy; rw [Array.getElem?_eq_none (by omega), Array.getElem?_eq_none (by omega)]
        · intro e
          rw [e, b1] at a1
          exact (Option.some.inj a1).symm
      · cases h2
    · cases h

def eqC : Z → C → C → Option Bool
  | .b, .bool a, .bool b => some (decide (a = b))
  | .i z, .int q a, .int q' b => match decide (q = z) && decide (q' = z) with
    | true => some (decide (a = b))
    | false => none
  | .s, .str a, .str b => some (decide (a = b))
  | _, _, _ => none

/-- Are two structs of plain cells equal? -/
def eqL : List Z → List C → List C → Option Bool
  | [], [], [] => some true
  | z :: zs, x :: xs, y :: ys => match eqC z x y with
    | some r => match eqL zs xs ys with
      | some r' => some (r && r')
      | none => none
    | none => none
  | _, _, _ => none

theorem eqC_ok {F : Mem} {H : List O} {μ : Nat → Value} {z : Z} {x y : C} {r : Bool} (h : eqC z x y = some r) {v u : Value} (hv : RepC F H μ x v) (hu : RepC F H μ y u) : (∀ d, zkind d z = true → plainV d v ∧ plainV d u) ∧ (r = true ↔ v = u) := by
  unfold eqC at h
  split at h
  · cases h
    have hv : v = .bool _ := hv
    have hu : u = .bool _ := hu
    subst hv hu
    exact ⟨fun d hd => by cases d <;> simp_all [zkind, plainV], by simp⟩
  · split at h
    · rename_i hq
      simp only [Bool.and_eq_true, decide_eq_true_eq] at hq
      obtain ⟨rfl, rfl⟩ := hq
      cases h
      have hv : v = .int _ _ := hv
      have hu : u = .int _ _ := hu
      subst hv hu
      exact ⟨fun d hd => by cases d <;> simp_all [zkind, plainV], by simp⟩
    · cases h
  · cases h
    have hv := hv.1
    have hu := hu.1
    subst hv hu
    exact ⟨fun d hd => by cases d <;> simp_all [zkind, plainV], by simp⟩
  · cases h

theorem eqL_ok {F : Mem} {H : List O} {μ : Nat → Value} : ∀ {zs : List Z} {xs ys : List C} {r : Bool}, eqL zs xs ys = some r → ∀ {vs us : List Value}, vs.length = xs.length → us.length = ys.length →
    (∀ (j : Nat) x, getL xs j = some x → ∃ v, vs[j]? = some v ∧ RepC F H μ x v) → (∀ (j : Nat) x, getL ys j = some x → ∃ v, us[j]? = some v ∧ RepC F H μ x v) →
    xs.length = zs.length ∧ ys.length = zs.length ∧ (∀ (j : Nat) z, zs[j]? = some z → ∃ a b, vs[j]? = some a ∧ us[j]? = some b ∧ ∀ d, zkind d z = true → plainV d a ∧ plainV d b) ∧ (r = true ↔ vs = us)
  | [], [], [], r, h, vs, us, h1, h2, _, _ => by
    simp only [eqL, Option.some.injEq] at h
    subst h
    have : vs = [] := List.length_eq_zero_iff.1 h1
    have : us = [] := List.length_eq_zero_iff.1 h2
    subst vs us
    exact ⟨rfl, rfl, fun j z hz => by simp at hz, by simp⟩
  | z :: zs, x :: xs, y :: ys, r, h, vs, us, h1, h2, h3, h4 => by
    simp only [eqL] at h
    split at h
    · rename_i r0 hc
      split at h
      · rename_i r' hr
        cases h
        cases vs with
        | nil => simp at h1
        | cons v vs =>
          cases us with
          | nil => simp at h2
          | cons u us =>
            obtain ⟨v', v1, v2⟩ := h3 0 x rfl
            obtain ⟨u', u1, u2⟩ := h4 0 y rfl
            simp only [List.getElem?_cons_zero, Option.some.injEq] at v1 u1
            subst v1 u1
            obtain ⟨c1, c2⟩ := eqC_ok hc v2 u2
            obtain ⟨q1, q2, q3, q4⟩ := eqL_ok hr (vs := vs) (us := us) (by simpa using h1) (by simpa using h2) (fun j w hw => by
              obtain ⟨a, a1, a2⟩ := h3 (j + 1) w hw
              exact ⟨a, by simpa using a1, a2⟩) (fun j w hw => by
              obtain ⟨a, a1, a2⟩ := h4 (j + 1) w hw
              exact ⟨a, by simpa using a1, a2⟩)
            refine ⟨by simp [q1], by simp [q2], fun j w hw => ?_, by rw [Bool.and_eq_true, c2, q4]; simp⟩
            cases j with
            | zero =>
              simp only [List.getElem?_cons_zero, Option.some.injEq] at hw
              subst hw
              exact ⟨v, u, rfl, rfl, c1⟩
            | succ j => simpa using q3 j w (by simpa using hw)
      · cases h
    · cases h
  | [], [], _ :: _, _, h, _, _, _, _, _, _ => by simp [eqL] at h
  | [], _ :: _, _, _, h, _, _, _, _, _, _ => by simp [eqL] at h
  | _ :: _, [], _, _, h, _, _, _, _, _, _ => by simp [eqL] at h
  | _ :: _, _ :: _, [], _, h, _, _, _, _, _, _ => by simp [eqL] at h

theorem eqS_ok {P : Program} {w : World} {t : Nat} {i : TI} (ht : TIok P t i) (hf : i.flat = true) (hz : i.zero.length = i.size) {F : Mem} {H : List O} {μ : Nat → Value} {xs ys : List C} {r : Bool} (h : eqL i.zero xs ys = some r) {v u : Value} (hv : RepS F H μ (.a xs) v) (hu : RepS F H μ (.a ys) u) :
    (Op.equal t v u).run P w = .ok r w := by
  obtain ⟨f1, _, fs, f2⟩ := ht.flt hf
  obtain ⟨cs, rfl, v1, v2⟩ := hv
  obtain ⟨ds, rfl, u1, u2⟩ := hu
  obtain ⟨q1, q2, q3, q4⟩ := eqL_ok h (vs := cs.toList) (us := ds.toList) (by simpa using v1) (by simpa using u1) (fun j x hx => by simpa using v2 j x hx) (fun j x hx => by simpa using u2 j x hx)
  obtain ⟨r', r1, r2⟩ := run_equal_deep' (w := w) 20 t i.zero f1 9980 cs ds ⟨by omega, by omega, fun j z hj => by
    obtain ⟨a, b, a1, b1, ab⟩ := q3 j z hj
    exact ⟨a, b, by simpa using a1, by simpa using b1, ab⟩⟩
  have : r' = r := by
    rw [Bool.eq_iff_iff, r2, q4]
    constructor
    · intro e; rw [e]
    · intro e; exact Array.toList_inj.1 e
  rw [← this]
  simpa [pv, f2, Op.equal, show Op.maxDepth = 20 + 9980 from rfl] using r1
end Go.Am
end

section
/- THE ABSTRACT MACHINE, PART 6: 'val': what an operation yields that changes nothing that is tracked. -/
namespace Go.Am

def lget (xs : List C) : Nat → C := fun j => match getL xs j with
  | some x => x
  | none => .junk

def opndCs (ts : Ts) : List Operand → Option (List C)
  | [] => some []
  | x :: r => match opnd ts x with
    | .c c => match opndCs ts r with
      | some l => some (c :: l)
      | none => none
    | _ => none

theorem opndCs_ok {F : Mem} {H : List O} {μ : Nat → Value} {ts : Ts} {a : Act} (hT : TSat F H μ ts a.tmps) : ∀ (xs : List Operand) (cs : List C), opndCs ts xs = some cs →
    cs.length = xs.length ∧ ∀ (j : Nat) x, getL cs j = some x → ∃ v, (xs.map a.eval)[j]? = some v ∧ RepC F H μ x v
  | [], cs, h => by simp [opndCs] at h; subst h; simp [getL]
  | x :: r, cs, h => by
    simp only [opndCs] at h
    have hx := opnd_ok hT x
    cases ho : opnd ts x with
    | c c =>
      cases hr : opndCs ts r with
      | none => simp [ho, hr] at h
      | some l =>
        simp only [ho, hr, Option.some.injEq] at h
        subst h
        obtain ⟨h1, h2⟩ := opndCs_ok hT r l hr
        rw [ho] at hx
        refine ⟨by simp [h1], fun j y hy => ?_⟩
        cases j with
        | zero => simp [getL] at hy; subst hy; exact ⟨_, by simp, hx⟩
        | succ j => simp only [getL] at hy; simpa using h2 j y hy
    | _ => simp [ho] at h

/-- The type of the operands of '==' on bools. -/
def isBoolT (Γ : Env) (t : Nat) : Bool :=
  match Γ.at t with
  | some i => match i.td with
    | .bool => true
    | _ => false
  | none => false

def isStrT (Γ : Env) (t : Nat) : Bool :=
  match Γ.at t with
  | some i => match i.td with
    | .str => true
    | _ => false
  | none => false

def isIntT (Γ : Env) (t : Nat) : Option IntKind :=
  match Γ.at t with
  | some i => match i.td with
    | .int k => some k
    | _ => none
  | none => none

theorem isBoolT_ok {P : Program} {Γ : Env} (hΓ : EnvOk P Γ) {t : Nat} (h : isBoolT Γ t = true) : P.underlying t = some .bool := by
  unfold isBoolT at h
  cases h1 : Γ.at t with
  | none => simp [h1] at h
  | some i =>
    obtain ⟨d, h2, h3⟩ := (hΓ t i h1).und
    cases htd : i.td <;> simp [h1, htd] at h
    rw [htd] at h3
    cases d <;> simp [tdOk] at h3
    exact h2

theorem isStrT_ok {P : Program} {Γ : Env} (hΓ : EnvOk P Γ) {t : Nat} (h : isStrT Γ t = true) : P.underlying t = some .string := by
  unfold isStrT at h
  cases h1 : Γ.at t with
  | none => simp [h1] at h
  | some i =>
    obtain ⟨d, h2, h3⟩ := (hΓ t i h1).und
    cases htd : i.td <;> simp [h1, htd] at h
    rw [htd] at h3
    cases d <;> simp [tdOk] at h3
    exact h2

theorem isIntT_ok {P : Program} {Γ : Env} (hΓ : EnvOk P Γ) {t : Nat} {k : IntKind} (h : isIntT Γ t = some k) : P.underlying t = some (.int k) := by
  unfold isIntT at h
  cases h1 : Γ.at t with
  | none => simp [h1] at h
  | some i =>
    obtain ⟨d, h2, h3⟩ := (hΓ t i h1).und
    cases htd : i.td <;> simp [h1, htd] at h
    rw [htd] at h3
    cases d <;> simp [tdOk] at h3
    subst h3; subst h
    exact h2

def unC (op : UnOp) (x : C) : Option C :=
  match x with
  | .bool b => match op with
    | .not => some (.bool !b)
    | _ => none
  | .int k n => match op with
    | .neg => some (.int k (k.wrap (0 - n)))
    | .xor => some (.int k (k.wrap (BitVec.ofInt k.bits (if k.signed then -1 else k.max) ^^^ BitVec.ofInt k.bits n).toNat))
    | _ => none
  | _ => none

theorem unC_ok {op : UnOp} {x c : C} {F : Mem} {H : List O} {μ : Nat → Value} {P : Program} (w : World) {v : Value} (h : unC op x = some c) (hx : RepC F H μ x v) :
    ∃ r, (Op.unary op v).run P w = .ok r w ∧ RepC F H μ c r := by
  cases x with
  | bool b =>
    rw [show v = _ from hx]
    cases op <;> simp only [unC, Option.some.injEq, reduceCtorEq] at h
    subst h
    exact ⟨_, rfl, rfl⟩
  | int k n =>
    rw [show v = _ from hx]
    cases op <;> simp only [unC, Option.some.injEq, reduceCtorEq] at h
    all_goals
      subst h
      exact ⟨_, rfl, rfl⟩
  | _ => simp [unC] at h

/-- One of two values. -/
def pickC (b : Bool) (x y : C) : Option C :=
  match x with
  | .bool u => match y with
    | .bool v => some (.bool (cond b u v))
    | _ => none
  | .int k u => match y with
    | .int k' v => match decide (k = k') with
      | true => some (.int k (cond b u v))
      | false => none
    | _ => none
  | .str u => match y with
    | .str v => some (.str (cond b u v))
    | _ => none
  | _ => none

theorem pickC_ok {b : Bool} {x y c : C} {F : Mem} {H : List O} {μ : Nat → Value} {u v : Value} (h : pickC b x y = some c) (hx : b = true → RepC F H μ x u) (hy : b = false → RepC F H μ y v) :
    RepC F H μ c (if b then u else v) := by
  cases x <;> cases y <;> simp only [pickC, Option.some.injEq, reduceCtorEq] at h
  · subst h
    cases b
    · exact hy rfl
    · exact hx rfl
  · rename_i k m k' m'
    by_cases hk : k = k'
    · subst hk
      simp only [decide_true, Option.some.injEq] at h
      subst h
      cases b
      · exact hy rfl
      · exact hx rfl
    · simp [hk] at h
  · subst h
    cases b
    · exact hy rfl
    · exact hx rfl

/-- The address of a field; an element's address must be fresh. -/
def fieldN (H : List O) : C → Option (List Prop)
  | .ep id _ _ tot => match getL H id with
    | some (.arr _ _ n _) => some [tot = n]
    | _ => none
  | _ => some []

def lenC : C → Option Nat
  | .str s => some s.size
  | .isl _ n _ _ => some n
  | .sl _ _ len _ _ => some len
  | .nils => some 0
  | _ => none

def convC (Γ : Env) (src dst : Nat) (H : List O) (x : C) : Option (List Prop × C) :=
  match x with
  | .int _ n => match isIntT Γ src with
    | some _ => match isIntT Γ dst with
      | some k' => some ([], .int k' (k'.wrap n))
      | none => none
    | none => none
  | .isl es n get _ => match elemOf Γ src with
    | some (e, _) => match isIntT Γ e with
      | some .u8 => match isStrT Γ dst with
        | true => match Nat.beq es 1 with
          | true => some ([∀ i, i < n → ∃ v, get i 0 = .int .u8 v], .str (bytesOf n get))
          | false => none
        | false => none
      | _ => none
    | none => none
  | .sl id es len tot _ => match elemOf Γ src with
    | some (e, _) => match isIntT Γ e with
      | some .u8 => match isStrT Γ dst with
        | true => match Nat.beq es 1 with
          | true => match getL H id with
            | some (.arr _ _ n get) => some ([tot = n, ∀ i, i < len → ∃ v, get i 0 = .int .u8 v], .str (bytesOf len get))
            | _ => none
          | false => none
        | false => none
      | _ => none
    | none => none
  | _ => none

def nilOk (H : List O) : C → Option (List Prop)
  | .ptr .. => some []
  | .ip .. => some []
  | .fn (.func _) _ _ => some []
  | .ep id _ _ tot => match getL H id with
    | some (.arr _ _ n _) => some [tot = n]
    | _ => none
  | _ => none

def isInt : Value → Bool
  | .int .. => true
  | _ => false

def eqlOp : BinOp → Option Bool
  | .eql => some true
  | .neq => some false
  | _ => none

def optInt (ts : Ts) : Option Operand → Option (List Prop × Option Int)
  | none => some ([], none)
  | some x => match bare (opnd ts x) with
    | (p, .c (.int _ n)) => some (p, some n)
    | _ => none

def val (Γ : Env) (ts : Ts) (H : List O) (op : Op) : Option (List Prop × S) :=
  match op with
  | .move x => some ([], opnd ts x)
  | .assign x => some ([], opnd ts x)
  | .pick c a b => match bare (opnd ts c) with
    | (pc, .c (.bool c)) => match bare (opnd ts a) with
      | (pa, .c a) => match bare (opnd ts b) with
        | (pb, .c b) => match pickC c a b with
          | some r => some (pc ++ pa.map (fun q => c = true → q) ++ pb.map (fun q => c = false → q), .c r)
          | none => none
        | _ => none
      | _ => none
    | _ => none
  | .load t a => match Γ.at t with
    | some i => match bare (opnd ts a) with
      | (p, .c a) => match loadK i H a with
        | some (q, s) => some (p ++ q, s)
        | none => none
      | _ => none
    | none => none
  | .nilCheck x => match bare (opnd ts x) with
    | (p, .c c) => match nilOk H c with
      | some q => some (p ++ q, .c c)
      | none => none
    | _ => none
  | .fieldAddr t x f => match fieldOff Γ t f with
    | some o => match bare (opnd ts x) with
      | (p, .c c) => match fieldK o c with
        | some r => match fieldN H c with
          | some q => some (p ++ q, .c r)
          | none => none
        | none => none
      | _ => none
    | none => none
  | .field t x f => match bare (opnd ts x) with
    | (p, .a cs) => match fieldV Γ t f cs with
      | some s => some (p, s)
      | none => none
    | _ => none
  | .indexAddr t x i => match elemOf Γ t with
    | some (_, te) => match bare (opnd ts x) with
      | (p, .c x) => match bare (opnd ts i) with
        | (q, .c (.int _ i)) => match indexK te H x i with
          | some (r, c) => some (p ++ q ++ r, .c c)
          | none => none
        | _ => none
      | _ => none
    | none => match arrOf Γ t with
      | some (n, _, te) => match bare (opnd ts x) with
        | (p, .c (.ptr id off)) => match bare (opnd ts i) with
          | (q, .c (.int _ i)) => some (p ++ q ++ [0 ≤ i, i < n], .c (.ptr id (off + i.toNat * te.size)))
          | _ => none
        | _ => none
      | none => none
  | .index t x i => match isStrT Γ t with
    | true => match bare (opnd ts x) with
      | (p, .c (.str s)) => match bare (opnd ts i) with
        | (q, .c (.int _ i)) => some (p ++ q ++ [0 ≤ i, i < s.size], .c (.int .u8 (s.data.toList.getD i.toNat 0).toNat))
        | _ => none
      | _ => none
    | false => match arrOf Γ t with
      | some (n, _, te) => match bare (opnd ts x) with
        | (p, .a cs) => match bare (opnd ts i) with
          | (q, .c (.int _ i)) => match cut cs (i.toNat * te.size) te.size with
            | some xs => match mkS te.agg xs with
              | some s => some (p ++ q ++ [0 ≤ i, i < n], s)
              | none => none
            | none => none
          | _ => none
        | _ => none
      | none => none
  | .binOp op t x y _ => match bare (opnd ts x) with
    | (p, .c x) => match bare (opnd ts y) with
      | (q, .c y) => match binC op x y with
        | some (r, v) => match x with
          | .bool _ => match isBoolT Γ t with
            | true => some (p ++ q ++ r, .c v)
            | false => none
          | _ => some (p ++ q ++ r, .c v)
        | none => none
      | _ => none
    | (p, .a xs) => match bare (opnd ts y) with
      | (q, .a ys) => match eqlOp op with
        | some e => match Γ.at t with
          | some i => match i.flat && Nat.beq i.zero.length i.size with
            | true => match eqL i.zero xs ys with
              | some r => some (p ++ q, .c (.bool (r == e)))
              | none => none
            | false => none
          | none => none
        | none => none
      | _ => none
    | _ => none
  | .unOp op _ x => match bare (opnd ts x) with
    | (p, .c x) => match unC op x with
      | some v => some (p, .c v)
      | none => none
    | _ => none
  | .convert src dst x => match bare (opnd ts x) with
    | (p, .c x) => match convC Γ src dst H x with
      | some (q, v) => some (p ++ q, .c v)
      | none => none
    | _ => none
  | .lookup t x ix ok => match mapOf Γ t with
    | some (sh, _, _, te) => match goodM te with
      | true => match bare (opnd ts x) with
        | (p, .c (.mpr id)) => match bare (opnd ts ix) with
          | (q, s) => match keyS s with
            | some key => match shB sh key with
              | true => match getL H id with
                | some (.mp sh' z va ks vl) => match mpB sh te sh' z va with
                  | true => some (p ++ q, lookS va te.size ks vl key ok)
                  | false => none
                | _ => none
              | false => none
            | none => none
        | _ => none
      | false => none
    | none => none
  | .extract x i => match opnd ts x with
    | .t l => match getL l i with
      | some (.inl c) => some ([], .c c)
      | some (.inr cs) => some ([], .a cs)
      | none => none
    | _ => none
  | .build t parts => match buildV Γ ts t parts.toList with
    | some s => some (needP ts parts.toList, s)
    | none => none
  | .makeFunc f first captured => match first.toList with
    | [] => match opndCs ts captured.toList with
      | some cs => some ([], .c (.fn f cs.length (lget cs)))
      | none => none
    | _ => none
  | .slice t x lo hi mx => match bare (opnd ts x) with
    | (p, .c x) => match optInt ts lo with
      | some (p1, lo) => match optInt ts hi with
        | some (p2, hi) => match optInt ts mx with
          | some (p3, mx) => match x with
            | .sl id es len tot xq => match elemOf Γ t with
              | some (_, te) => match sliceO te H (.sl id es len tot xq) lo hi mx with
                | some (q, s) => some (p ++ (p1 ++ (p2 ++ (p3 ++ q))), s)
                | none => none
              | none => none
            | x => match sliceK x lo hi mx with
              | some (q, c) => match x with
                | .isl es _ _ _ => match elemOf Γ t with
                  | some (_, te) => match Nat.beq es te.size with
                    | true => some (p ++ (p1 ++ (p2 ++ (p3 ++ q))), .c c)
                    | false => none
                  | none => none
                | .str _ => match isStrT Γ t with
                  | true => some (p ++ (p1 ++ (p2 ++ (p3 ++ q))), .c c)
                  | false => none
                | _ => none
              | none => none
          | none => none
        | none => none
      | none => none
    | _ => none
  | .call { callee := .builtin .len, args, argTypes } => match args.toList with
    | [x] => match argTypes.toList with
      | [t] => match bare (opnd ts x) with
        | (p, .c c) => match lenC c with
          | some n => match c with
            | .str _ => match isStrT Γ t with
              | true => some (p, .c (.int .i64 n))
              | false => none
            | .sl id _ _ tot _ => match elemOf Γ t with
              | some _ => match getL H id with
                | some (.arr _ _ n' _) => some (p ++ [tot = n'], .c (.int .i64 n))
                | _ => none
              | none => none
            | _ => match elemOf Γ t with
              | some _ => some (p, .c (.int .i64 n))
              | none => none
          | none => match c with
            | .mpr id => match getL H id with
              | some (.mp _ _ _ ks _) => match mapOf Γ t with
                | some _ => some (p, .c (.int .i64 ks.length))
                | none => none
              | _ => none
            | _ => none
        | _ => none
      | _ => none
    | _ => none
  | .call { callee := .builtin .max, args, .. } => match args.toList with
    | [x, y] => match bare (opnd ts x) with
      | (p, .c (.int k a)) => match bare (opnd ts y) with
        | (q, .c (.int _ b)) => some (p ++ q, .c (.int k (max a b)))
        | _ => none
      | _ => none
    | _ => none
  | .call { callee := .builtin .min, args, .. } => match args.toList with
    | [x, y] => match bare (opnd ts x) with
      | (p, .c (.int k a)) => match bare (opnd ts y) with
        | (q, .c (.int _ b)) => some (p ++ q, .c (.int k (min a b)))
        | _ => none
      | _ => none
    | _ => none
  | _ => none

end Go.Am
end

section
/- THE ABSTRACT MACHINE, PART 7: 'val' says what the model does. -/
namespace Go.Am

theorem val1 {P : Program} {s : Sem Value} {w w' : World} {r : Value} (h : s.run P w = .ok r w') : (do pure (Next.value (← s)) : Sem Next).run P w = .ok (.value r) w' := by
  rw [bind_ok h]; rfl

theorem all_left {p q : List Prop} (h : ∀ x ∈ p ++ q, x) : ∀ x ∈ p, x := fun x hx => h x (List.mem_append.2 (.inl hx))
theorem all_right {p q : List Prop} (h : ∀ x ∈ p ++ q, x) : ∀ x ∈ q, x := fun x hx => h x (List.mem_append.2 (.inr hx))

theorem optInt_ok {F : Mem} {H : List O} {μ : Nat → Value} {ts : Ts} {a : Act} (hT : TSat F H μ ts a.tmps) {x : Option Operand} {p : List Prop} {r : Option Int} (h : optInt ts x = some (p, r)) (hp : ∀ q ∈ p, q) : kindI r (x.map a.eval) := by
  cases x with
  | none => simp only [optInt, Option.some.injEq, Prod.mk.injEq] at h; obtain ⟨_, rfl⟩ := h; trivial
  | some x =>
    simp only [optInt] at h
    split at h
    · rename_i p' k n ho
      cases h
      exact ⟨k, bare_ok (opnd_ok hT x) ho hp⟩
    · cases h

theorem bytes_run {P : Program} {src dst e : TypeId} (hs : P.underlying src = some (.slice e)) (he : P.underlying e = some (.int .u8)) (hd : P.underlying dst = some .string) (w : World) (a : Option Addr) (n cap : Nat) (get : Nat → Nat → C)
    (hg : ∀ i, i < n → ∃ v, get i 0 = .int .u8 v) (hc : n = 0 ∨ ∃ b off, a = some ⟨b, off, none⟩ ∧ ∀ i, i < n → ∃ v, get i 0 = .int .u8 v ∧ w.cell? ⟨b, off + i, none⟩ = some (.int .u8 v)) (hnil : a = none → n = 0) :
    (convert src dst (.slice a n cap)).run P w = .ok (.string (bytesOf n get)) w := by
  rw [run_convert_bytes_string w src dst e a n cap hs he hd]
  cases a with
  | none =>
    have := hnil rfl
    subst this
    simp [Conv.bytesToString, bytesOf]
    rfl
  | some a =>
    let xs : List Int := (List.range n).map fun i => match get i 0 with | .int _ v => v | _ => 0
    have hl : (loadCells a n).run P w = .ok (xs.map (Value.int .u8)).toArray w := by
      have := run_loadCells_list (P := P) w a (xs.map (Value.int .u8)) (fun j v hj => by
        have hjn : j < n := by
          have := (List.getElem?_eq_some_iff.1 hj).1
          simpa [xs] using this
        rcases hc with hc | ⟨b, off, rfl', hc⟩
        · omega
        · cases rfl'
          obtain ⟨u, u1, u2⟩ := hc j hjn
          rw [add_at, u2]
          simp [xs, hjn, u1] at hj
          rw [hj])
      simpa [xs] using this
    rw [run_bytesToString w a n cap xs hl, foldl_push_bytes]
    congr 2
    simp only [bytesOf, xs, List.map_map]
    have : ∀ l : List Nat, (∀ i ∈ l, i < n) → l.map ((fun n : Int => UInt8.ofNat n.toNat) ∘ fun i => match get i 0 with | .int _ v => v | _ => 0) = l.map fun i => byteC (get i 0) := by
      intro l hl
      apply List.map_congr_left
      intro i hi
      obtain ⟨v, hv⟩ := hg i (hl i hi)
      simp [hv, byteC]
    rw [this _ (fun i hi => List.mem_range.1 hi)]
    show (⟨#[] ++ _⟩ : ByteArray) = _
    simp

theorem convC_ok {P : Program} {Γ : Env} (hΓ : EnvOk P Γ) {K : Keep} {F : Mem} {H : List O} {μ : Nat → Value} {w : World} (hw : HSat K F H μ w) {src dst : Nat} {x c : C} {v : Value} {ns : List Prop}
    (hx : RepC F H μ x v) (h : convC Γ src dst H x = some (ns, c)) (hn : ∀ q ∈ ns, q) : ∃ r, (convert src dst v).run P w = .ok r w ∧ RepC F H μ c r := by
  have bsz : ∀ n get, n ≤ maxLen → (bytesOf n get).size ≤ maxLen := by intro n get h; simpa [bytesOf, ByteArray.size] using h
  cases x with
  | int k n =>
    rw [show v = _ from hx]
    simp only [convC] at h
    cases h1 : isIntT Γ src with
    | none => simp [h1] at h
    | some k1 =>
      cases h2 : isIntT Γ dst with
      | none => simp [h1, h2] at h
      | some k2 =>
        simp only [h1, h2, Option.some.injEq, Prod.mk.injEq] at h
        obtain ⟨rfl, rfl⟩ := h
        refine ⟨.int k2 (k2.wrap n), ?_, rfl⟩
        unfold convert
        rw [bind_ok (run_underlying (isIntT_ok hΓ h1) w), bind_ok (run_underlying (isIntT_ok hΓ h2) w)]
        rfl
  | isl es n get tight =>
    obtain ⟨a, cap, rfl, q1, q2, q3, q3', q4⟩ := hx
    simp only [convC] at h
    cases h1 : elemOf Γ src with
    | none => simp [h1] at h
    | some p =>
      obtain ⟨e, te⟩ := p
      obtain ⟨u1, u2⟩ := elemOf_ok hΓ h1
      simp only [h1] at h
      split at h
      · rename_i hk
        cases h3 : isStrT Γ dst with
        | false => simp [h3] at h
        | true =>
          simp only [h3] at h
          split at h
          · rename_i hb
            simp only [Option.some.injEq, Prod.mk.injEq] at h
            obtain ⟨rfl, rfl⟩ := h
            have hg : ∀ i, i < n → ∃ v, get i 0 = .int .u8 v := hn _ (by simp)
            refine ⟨_, bytes_run u1 (isIntT_ok hΓ hk) (isStrT_ok hΓ h3) w a n cap get hg ?_ ?_, rfl, bsz _ _ q1⟩
            · rcases q4 with q4 | ⟨b, off, rfl, hc⟩
              · exact .inl q4
              · have hes : es = 1 := Nat.eq_of_beq_eq_true hb
                subst hes
                refine .inr ⟨b, off, rfl, fun i hi => ?_⟩
                obtain ⟨u, hu⟩ := hg i hi
                obtain ⟨y, y1, y2⟩ := hc i hi 0 (by omega)
                rw [hu] at y2
                refine ⟨u, hu, ?_⟩
                rw [show y = _ from y2] at y1
                unfold Mem.cell at y1
                cases hf : F b with
                | none => simp [hf] at y1
                | some o =>
                  rw [hf] at y1
                  cases o with
                  | cells c T fz => rw [cell_of_row w b _ c T fz (hw.fr b _ hf)]; simpa using y1
                  | _ => simp at y1
            · intro ha
              rcases q4 with q4 | ⟨b, off, rfl, hc⟩
              · exact q4
              · cases ha
          · cases h
      · cases h
  | sl id es len tot xq =>
    obtain ⟨_, e', n, g, h1', h2', h3', h4'⟩ := hx
    simp only [convC] at h
    cases h1 : elemOf Γ src with
    | none => simp [h1] at h
    | some p =>
      obtain ⟨e, te⟩ := p
      obtain ⟨u1, u2⟩ := elemOf_ok hΓ h1
      simp only [h1] at h
      split at h
      · rename_i hk
        cases h3 : isStrT Γ dst with
        | false => simp [h3] at h
        | true =>
          simp only [h3] at h
          split at h
          · rename_i hb
            simp only [h1', Option.some.injEq, Prod.mk.injEq] at h
            obtain ⟨rfl, rfl⟩ := h
            have hes : es = 1 := Nat.eq_of_beq_eq_true hb
            subst hes
            have ht : tot = n := hn _ (by simp)
            have hg : ∀ i, i < len → ∃ v, g i 0 = .int .u8 v := hn _ (by simp)
            obtain ⟨a, cap, m1, rfl, _⟩ := h4' ht
            obtain ⟨xs, o1, o2, o3, o4⟩ := hw.ob id _ h1'
            refine ⟨_, bytes_run u1 (isIntT_ok hΓ hk) (isStrT_ok hΓ h3) w a len cap g hg ?_ ?_, rfl, bsz _ _ (by omega)⟩
            · rcases o1.2 with ⟨q1, q2⟩ | ⟨b, cap', cur, q1, _⟩
              · exact .inl (by omega)
              · rw [m1] at q1
                simp only [Value.slice.injEq, true_and] at q1
                obtain ⟨rfl, rfl⟩ := q1
                refine .inr ⟨b, 0, rfl, fun i hi => ?_⟩
                obtain ⟨u, hu⟩ := hg i hi
                obtain ⟨y, y1, y2⟩ := o3 i (by omega) 0 (by omega)
                rw [hu] at y2
                refine ⟨u, hu, ?_⟩
                rw [show y = _ from y2] at y1
                have := o1.cells (g := b) (by rw [m1]; rfl) _ _ y1
                rw [add_at] at this
                simpa using this
            · intro ha
              subst ha
              rcases o1.2 with ⟨q1, q2⟩ | ⟨b, cap', cur, q1, _⟩
              · omega
              · rw [m1] at q1; simp at q1
          · cases h
      · cases h
  | _ => simp [convC] at h

theorem nilOk_ok {P : Program} {F : Mem} {H : List O} {μ : Nat → Value} (w : World) {c : C} {v : Value} {ns : List Prop} (hc : RepC F H μ c v) (h : nilOk H c = some ns) (hn : ∀ q ∈ ns, q) (ρ : Operand → Value) (o : Oper) {x : Operand} (ho : o.op = .nilCheck x) (hx : ρ x = v) :
    (execOp ρ o).run P w = .ok (.value v) w := by
  unfold execOp
  rw [ho]
  simp only [hx]
  cases c with
  | ptr id off => obtain ⟨_, b, _, rfl⟩ := hc; rfl
  | ip n get => obtain ⟨b, off, rfl, _⟩ := hc; rfl
  | fn f n get =>
    obtain ⟨cs, rfl, _⟩ := hc
    cases f <;> simp [nilOk] at h
    rfl
  | ep id i j tot =>
    obtain ⟨_, e, es, n, g, h1, h2, h3⟩ := hc
    simp only [nilOk, h1, Option.some.injEq] at h
    subst h
    obtain ⟨b, cap, _, _, rfl⟩ := h3 (hn _ (by simp))
    rfl
  | _ => simp [nilOk] at h

theorem val_ok {P : Program} {Γ : Env} (hΓ : EnvOk P Γ) {K : Keep} {F : Mem} {H : List O} {μ : Nat → Value} {w : World} (hw : HSat K F H μ w) {ts : Ts} {a : Act} (hT : TSat F H μ ts a.tmps) (o : Oper) {ns : List Prop} {s : S}
    (h : val Γ ts H o.op = some (ns, s)) (hn : ∀ q ∈ ns, q) : ∃ r, (execOp a.eval o).run P w = .ok (.value r) w ∧ RepS F H μ s r := by
  have O := opnd_ok hT
  have B : ∀ {x : Operand} {p : List Prop} {s' : S}, bare (opnd ts x) = (p, s') → (∀ q ∈ p, q) → RepS F H μ s' (a.eval x) := fun hb hp => bare_ok (O _) hb hp
  unfold val at h
  split at h
  · -- move
    rename_i x ho
    cases h
    exact ⟨_, by unfold execOp; rw [ho]; rfl, O x⟩
  · -- assign
    rename_i x ho
    cases h
    exact ⟨_, by unfold execOp; rw [ho]; rfl, O x⟩
  · -- pick
    rename_i c x y ho
    split at h
    · rename_i pc b hb1
      split at h
      · rename_i pa u hb2
        split at h
        · rename_i pb v hb3
          split at h
          · rename_i r hr
            cases h
            have hc : a.eval c = .bool b := B hb1 (fun q hq => hn q (by simp [hq]))
            have := pickC_ok (F := F) (H := H) (μ := μ) hr (fun e => B hb2 (fun q hq => hn (b = true → q) (by
                simp only [List.mem_append, List.mem_map]; exact .inl (.inr ⟨q, hq, rfl⟩)) e)) (fun e => B hb3 (fun q hq => hn (b = false → q) (by
                simp only [List.mem_append, List.mem_map]; exact .inr ⟨q, hq, rfl⟩) e))
            refine ⟨_, ?_, this⟩
            unfold execOp
            rw [ho]
            simp only [hc, asBool]
            cases b <;> rfl
          · cases h
        · cases h
      · cases h
    · cases h
  · -- load
    rename_i t x ho
    split at h
    · rename_i i hi
      split at h
      · rename_i p c hb
        split at h
        · rename_i q s' hl
          cases h
          obtain ⟨r, r1, r2⟩ := loadK_ok (P := P) (hΓ t i hi) hw (B hb (all_left hn)) hl (all_right hn)
          exact ⟨r, by unfold execOp; rw [ho]; exact val1 r1, r2⟩
        · cases h
      · cases h
    · cases h
  · -- nilCheck
    rename_i x ho
    split at h
    · rename_i p c hb
      split at h
      · rename_i q hq
        cases h
        have hc := B hb (all_left hn)
        exact ⟨a.eval x, nilOk_ok w hc hq (all_right hn) a.eval o ho rfl, hc⟩
      · cases h
    · cases h
  · -- fieldAddr
    rename_i t x f ho
    split at h
    · rename_i off hf
      split at h
      · rename_i p c hb
        split at h
        · rename_i r hr
          split at h
          · rename_i q hq
            cases h
            obtain ⟨v, v1, v2⟩ := fieldK_ok (P := P) hΓ hf w (B hb (all_left hn)) hr (by
              intro id i j tot e e' es n g hg
              subst e
              simp only [fieldN, hg, Option.some.injEq] at hq
              subst hq
              exact all_right hn _ (by simp))
            exact ⟨v, by unfold execOp; rw [ho]; exact val1 v1, v2⟩
          · cases h
        · cases h
      · cases h
    · cases h
  · -- field
    rename_i t x f ho
    split at h
    · rename_i p cs hb
      split at h
      · rename_i s' hf
        cases h
        obtain ⟨vs, v1, v2⟩ := B hb hn
        obtain ⟨r, r1, r2⟩ := fieldV_ok (P := P) hΓ w v2 hf
        exact ⟨r, by unfold execOp; rw [ho]; simp only [v1]; exact val1 r1, r2⟩
      · cases h
    · cases h
  · -- indexAddr
    rename_i t x i ho
    split at h
    · rename_i e te he
      split at h
      · rename_i p x' hb1
        split at h
        · rename_i q k i' hb2
          split at h
          · rename_i r c hc
            cases h
            have hi : a.eval i = .int k i' := B hb2 (all_right (all_left hn))
            obtain ⟨v, v1, v2⟩ := indexK_ok (P := P) hΓ hw he (k := k) (B hb1 (all_left (all_left hn))) hc (all_right hn)
            exact ⟨v, by unfold execOp; rw [ho]; simp only [hi]; exact val1 v1, v2⟩
          · cases h
        · cases h
      · cases h
    · split at h
      · rename_i n e te he
        split at h
        · rename_i p id off hb1
          split at h
          · rename_i q k i' hb2
            cases h
            have hi : a.eval i = .int k i' := B hb2 (all_right (all_left hn))
            obtain ⟨hx1, b, hx2, hx3⟩ : RepC F H μ (.ptr id off) (a.eval x) := B hb1 (all_left (all_left hn))
            obtain ⟨hu, hte⟩ := arrOf_ok (P := P) hΓ he
            have h0 : 0 ≤ i' := all_right hn _ (by simp)
            have h1 : i' < n := all_right hn _ (by simp)
            have hs := sizeOf_ok hte w
            refine ⟨.pointer (some ⟨b, off + i'.toNat * te.size, none⟩), ?_, hx1, b, hx2, rfl⟩
            unfold execOp
            rw [ho]
            simp only [hi, hx3]
            apply val1
            simp [Instr.indexAt, asIntOf, run_underlying hu, Instr.sureAddr, h0, h1, hs, Addr.add]
          · cases h
        · cases h
      · cases h
  · -- index
    rename_i t x i ho
    split at h
    · rename_i ht
      split at h
      · rename_i p s' hb1
        split at h
        · rename_i q k i' hb2
          cases h
          have hi : a.eval i = .int k i' := B hb2 (all_right (all_left hn))
          have hx := B hb1 (all_left (all_left hn))
          have h0 : 0 ≤ i' := all_right hn _ (by simp)
          have h1 : i' < s'.size := all_right hn _ (by simp)
          have hlt : i'.toNat < s'.size := by omega
          refine ⟨.int .u8 (s'[i'.toNat]).toNat, ?_, ?_⟩
          · unfold execOp
            rw [ho]
            simp only [hi, hx.1]
            apply val1
            simp [Instr.index, asIntOf, run_underlying (isStrT_ok hΓ ht), h0, hlt]
          · show Value.int .u8 _ = Value.int .u8 _
            congr 3
            simp [List.getD, ByteArray.getElem_eq_getElem_data, hlt]
        · cases h
      · cases h
    · split at h
      · rename_i n e te he
        split at h
        · rename_i p cs hb1
          split at h
          · rename_i q k i' hb2
            split at h
            · rename_i xs hc
              split at h
              · rename_i s' hs
                cases h
                have hi : a.eval i = .int k i' := B hb2 (all_right (all_left hn))
                obtain ⟨vs, hx1, hx2⟩ : RepS F H μ (.a cs) (a.eval x) := B hb1 (all_left (all_left hn))
                obtain ⟨hu, hte⟩ := arrOf_ok (P := P) hΓ he
                have h0 : 0 ≤ i' := all_right hn _ (by simp)
                have h1 : i' < n := all_right hn _ (by simp)
                have hz := sizeOf_ok hte w
                obtain ⟨r, r1, r2⟩ := part_ok hte w hx2 hc hs
                refine ⟨r, ?_, r2⟩
                unfold execOp
                rw [ho]
                simp only [hi, hx1]
                apply val1
                unfold Instr.index
                rw [bind_ok (show (asIntOf (.int k i')).run P w = .ok (k, i') w from rfl)]
                dsimp only
                rw [bind_ok (run_underlying hu w)]
                simp only [h0, h1, and_self, if_true]
                rw [bind_ok hz]
                exact r1
              · cases h
            · cases h
          · cases h
        · cases h
      · cases h
  · -- binOp
    rename_i op t x y yt ho
    split at h
    · rename_i p x' hb1
      split at h
      · rename_i q y' hb2
        split at h
        · rename_i r v hv
          have key : ∀ (hns : ns = p ++ q ++ r) (hs : s = .c v) (ht : (∃ b, x' = .bool b) → P.underlying t = some .bool), ∃ r, (execOp a.eval o).run P w = .ok (.value r) w ∧ RepS F H μ s r := by
            intro hns hs ht
            subst hns
            subst hs
            obtain ⟨u, u1, u2⟩ := binC_run (P := P) (F := F) (H := H) (μ := μ) w (t := t) (X := x) (Y := y) ht hv (all_right hn) (B hb1 (all_left (all_left hn))) (B hb2 (all_right (all_left hn)))
            exact ⟨u, by unfold execOp; rw [ho]; exact val1 u1, u2⟩
          split at h
          · split at h
            · rename_i hbt
              cases h
              exact key rfl rfl (fun _ => isBoolT_ok hΓ hbt)
            · cases h
          · rename_i hx'
            cases h
            exact key rfl rfl (fun ⟨b, e⟩ => absurd e (hx' b))
        · cases h
      · cases h
    · rename_i p xs hb1
      split at h
      · rename_i q ys hb2
        split at h
        · rename_i e he
          split at h
          · rename_i i hi
            split at h
            · rename_i hfl
              rw [Bool.and_eq_true] at hfl
              split at h
              · rename_i r hr
                cases h
                have hx := B hb1 (all_left hn)
                have hy := B hb2 (all_right hn)
                have heq := eqS_ok (w := w) (hΓ t i hi) hfl.1 (Nat.eq_of_beq_eq_true hfl.2) hr hx hy
                obtain ⟨_, hgd, _⟩ := (hΓ t i hi).flt hfl.1
                obtain ⟨cs, hcs, _⟩ := hx
                obtain ⟨ds, hds, _⟩ := hy
                refine ⟨.bool (r == e), ?_, rfl⟩
                unfold execOp
                rw [ho]
                refine val1 ?_
                rw [hcs, hds] at heq ⊢
                rw [bind_ok (show (eqGuard op t x y (.agg cs) (.agg ds)).run P w = .ok () w by rw [run_eqGuard_agg w op t x y cs ds hgd])]
                cases op <;> simp only [eqlOp, reduceCtorEq, Option.some.injEq] at he
                · subst he
                  show (do pure (.bool (← Op.equal t (.agg cs) (.agg ds))) : Sem Value).run P w = _
                  rw [bind_ok heq]
                  cases r <;> rfl
                · subst he
                  show (do pure (.bool (!(← Op.equal t (.agg cs) (.agg ds)))) : Sem Value).run P w = _
                  rw [bind_ok heq]
                  cases r <;> rfl
              · cases h
            · cases h
          · cases h
        · cases h
      · cases h
    · cases h
  · -- unOp
    rename_i op t x ho
    split at h
    · rename_i p x' hb1
      split at h
      · rename_i v hv
        cases h
        obtain ⟨u, u1, u2⟩ := unC_ok (P := P) w hv (B hb1 hn)
        exact ⟨u, by unfold execOp; rw [ho]; exact val1 u1, u2⟩
      · cases h
    · cases h
  · -- convert
    rename_i src dst x ho
    split at h
    · rename_i p x' hb1
      split at h
      · rename_i q v hv
        cases h
        obtain ⟨u, u1, u2⟩ := convC_ok (P := P) hΓ hw (B hb1 (all_left hn)) hv (all_right hn)
        exact ⟨u, by unfold execOp; rw [ho]; exact val1 u1, u2⟩
      · cases h
    · cases h
  · -- lookup
    rename_i t x ix ok ho
    split at h
    · rename_i sh k e te hm
      split at h
      · rename_i hgm
        split at h
        · rename_i p id hb1
          split at h
          rename_i q s' hb2
          split at h
          · rename_i key hkey
            split at h
            · rename_i hsh
              split at h
              · rename_i sh' z va ks vl hg
                split at h
                · rename_i hmp
                  cases h
                  obtain ⟨rfl, rfl, rfl⟩ := mpB_ok hmp
                  obtain ⟨g1, g2⟩ := goodM_ok hgm
                  have hx := B hb1 (all_left hn)
                  have hk := keyS_ok hkey (B hb2 (all_right hn))
                  obtain ⟨r, r1, r2⟩ := look_ok hΓ hw hm hg hx (of_decide_eq_true hsh) g2 g1 ok
                  refine ⟨r, ?_, r2⟩
                  unfold execOp
                  rw [ho]
                  simp only [hk]
                  exact val1 r1
                · cases h
              · cases h
            · cases h
          · cases h
        · cases h
      · cases h
    · cases h
  · -- extract
    rename_i x i ho
    split at h
    · rename_i l hb
      have hx := O x
      rw [hb] at hx
      obtain ⟨vs, v1, v2, v3⟩ := hx
      split at h
      · rename_i c hc
        cases h
        obtain ⟨u, u1, u2⟩ := v3 i _ hc
        exact ⟨u, by unfold execOp; rw [ho]; simp only [v1]; apply val1; simp [Instr.extract, u1], u2⟩
      · rename_i cs hc
        cases h
        obtain ⟨u, u1, u2⟩ := v3 i _ hc
        exact ⟨u, by unfold execOp; rw [ho]; simp only [v1]; apply val1; simp [Instr.extract, u1], u2⟩
      · cases h
    · cases h
  · -- build
    rename_i t parts ho
    split at h
    · rename_i s' hs
      cases h
      obtain ⟨u, u1, u2⟩ := buildV_ok (P := P) hΓ hT w hs hn
      exact ⟨u, by unfold execOp; rw [ho]; exact val1 u1, u2⟩
    · cases h
  · -- makeFunc
    rename_i f first captured ho
    split at h
    · rename_i hf
      split at h
      · rename_i cs hc
        cases h
        obtain ⟨c1, c2⟩ := opndCs_ok hT _ _ hc
        have hfe : first = #[] := by simpa using hf
        refine ⟨.func f #[] (captured.map a.eval), ?_, captured.map a.eval, rfl, by simpa using c1.symm, fun j hj => ?_⟩
        · unfold execOp
          rw [ho, hfe]
          apply val1
          simp [Instr.makeFunc]
        · obtain ⟨u, u1, u2⟩ := c2 j cs[j] (by rw [getL_eq]; simp [hj])
          refine ⟨u, by simpa using u1, ?_⟩
          simp only [lget, getL_eq]
          simpa [hj] using u2
      · cases h
    · cases h
  · -- slice
    rename_i t x lo hi mx ho
    split at h
    · rename_i p x' hb
      split at h
      · rename_i p1 lo' hlo
        split at h
        · rename_i p2 hi' hhi
          split at h
          · rename_i p3 mx' hmx
            have key : ∀ {q : List Prop} {c : C}, sliceK x' lo' hi' mx' = some (q, c) → sliceT P Γ t x' → (∀ y ∈ p ++ (p1 ++ (p2 ++ (p3 ++ q))), y) → ∃ r, (execOp a.eval o).run P w = .ok (.value r) w ∧ RepS F H μ (.c c) r := by
              intro q c hc ht hn'
              obtain ⟨u, u1, u2⟩ := sliceK_ok (P := P) hΓ w (B hb (all_left hn')) hc (all_right (all_right (all_right (all_right hn')))) (optInt_ok hT hlo (all_left (all_right hn'))) (optInt_ok hT hhi (all_left (all_right (all_right hn')))) (optInt_ok hT hmx (all_left (all_right (all_right (all_right hn'))))) ht
              exact ⟨u, by unfold execOp; rw [ho]; exact val1 u1, u2⟩
            split at h
            · split at h
              · rename_i e te he
                split at h
                · rename_i q s0 hso
                  simp only [Option.some.injEq, Prod.mk.injEq] at h
                  obtain ⟨rfl, rfl⟩ := h
                  obtain ⟨u, u1, u2⟩ := sliceO_ok (P := P) hΓ hw (B hb (all_left hn)) he hso (all_right (all_right (all_right (all_right hn)))) (optInt_ok hT hlo (all_left (all_right hn))) (optInt_ok hT hhi (all_left (all_right (all_right hn)))) (optInt_ok hT hmx (all_left (all_right (all_right (all_right hn)))))
                  exact ⟨u, by unfold execOp; rw [ho]; exact val1 u1, u2⟩
                · cases h
              · cases h
            · split at h
              · rename_i q c hc
                cases x' with
                | isl es n g tt =>
                  simp only at h
                  cases he : elemOf Γ t with
                  | none => simp [he] at h
                  | some pr =>
                    simp only [he] at h
                    cases hes : Nat.beq es pr.2.size with
                    | false => simp [hes] at h
                    | true =>
                      simp only [hes, Option.some.injEq, Prod.mk.injEq] at h
                      obtain ⟨rfl, rfl⟩ := h
                      exact key hc ⟨pr.1, pr.2, he, Nat.eq_of_beq_eq_true hes⟩ hn
                | str s' =>
                  simp only at h
                  cases hst : isStrT Γ t with
                  | false => simp [hst] at h
                  | true =>
                    simp only [hst, Option.some.injEq, Prod.mk.injEq] at h
                    obtain ⟨rfl, rfl⟩ := h
                    exact key hc (isStrT_ok hΓ hst) hn
                | _ => simp at h
              · cases h
          · cases h
        · cases h
      · cases h
    · cases h
  · -- len
    rename_i args argTypes ho
    split at h
    · rename_i x hargs
      split at h
      · rename_i t htypes
        have ha : args = #[x] := by apply Array.toList_inj.1; simpa using hargs
        have hty : argTypes = #[t] := by apply Array.toList_inj.1; simpa using htypes
        subst ha
        subst hty
        split at h
        · rename_i p c hb
          split at h
          · rename_i n hlen
            have run : ∀ v, (Builtin.len_ #[t] o.type #[a.eval x]).run P w = .ok v w → (execOp a.eval o).run P w = .ok (.value v) w := by
              intro v hv
              have e : (#[x] : Array Operand).map a.eval = #[a.eval x] := by simp
              unfold execOp
              rw [ho]
              show (do let d ← resolve a.eval _ o.type; invoke d.target d.args : Sem Next).run P w = _
              simp only [resolve, invoke, builtin, e]
              exact val1 hv
            split at h
            · rename_i s'
              split at h
              · rename_i hst
                cases h
                have hx := B hb hn
                cases hlen
                refine ⟨_, run (goInt s'.size) ?_, rfl⟩
                rw [hx.1]
                simp [Builtin.len_, run_underlying (isStrT_ok hΓ hst)]
              · cases h
            · rename_i id es len tot xq
              split at h
              · rename_i pr he
                split at h
                · rename_i e' es' n' g hg
                  cases h
                  obtain ⟨_, e2, n2, g2, h1, h2, h3, h4⟩ := B hb (all_left hn)
                  rw [hg] at h1
                  cases h1
                  obtain ⟨aa, cap, m1, m2, _⟩ := h4 (all_right hn _ (by simp))
                  cases hlen
                  refine ⟨_, run (goInt n) ?_, rfl⟩
                  rw [m2]
                  obtain ⟨u1, _⟩ := elemOf_ok (P := P) hΓ (show elemOf Γ t = some (pr.1, pr.2) from he)
                  simp [Builtin.len_, run_underlying u1]
                · cases h
              · cases h
            · rename_i hne1 hne2
              split at h
              · rename_i pr he
                cases h
                have hx := B hb hn
                cases c with
                | isl es n' get tight =>
                  cases hlen
                  obtain ⟨aa, cap, e1, _⟩ := hx
                  refine ⟨_, run (goInt n) ?_, rfl⟩
                  rw [e1]
                  obtain ⟨u1, _⟩ := elemOf_ok (P := P) hΓ (show elemOf Γ t = some (pr.1, pr.2) from he)
                  simp [Builtin.len_, run_underlying u1]
                | nils =>
                  cases hlen
                  refine ⟨_, run (goInt 0) ?_, rfl⟩
                  rw [show a.eval x = _ from hx]
                  obtain ⟨u1, _⟩ := elemOf_ok (P := P) hΓ (show elemOf Γ t = some (pr.1, pr.2) from he)
                  simp [Builtin.len_, run_underlying u1]
                | str s' => exact absurd rfl (hne1 s')
                | sl id es len tot xq => exact absurd rfl (hne2 id es len tot xq)
                | _ => simp [lenC] at hlen
              · cases h
          · split at h
            · rename_i id _
              split at h
              · rename_i sh z va ks vl hg
                split at h
                · rename_i pr he
                  cases h
                  obtain ⟨_, b, m1, m2⟩ := B hb hn
                  obtain ⟨b', es, ck, q1, q2, q3, -⟩ := hw.ob id _ hg
                  rw [m1] at q1
                  cases q1
                  have hlen : es.size = ks.length := by simpa using congrArg List.length q3.keys
                  have e : (#[x] : Array Operand).map a.eval = #[a.eval x] := by simp
                  refine ⟨goInt es.size, ?_, by rw [hlen]; rfl⟩
                  unfold execOp
                  rw [ho]
                  show (do let d ← resolve a.eval _ o.type; invoke d.target d.args : Sem Next).run P w = _
                  simp only [resolve, invoke, builtin, e]
                  refine val1 ?_
                  rw [m2]
                  obtain ⟨u1, _⟩ := mapOf_ok (P := P) hΓ (show mapOf Γ t = some (pr.1, pr.2.1, pr.2.2.1, pr.2.2.2) from he)
                  simp [Builtin.len_, run_underlying u1, MapKept.run_getObj_map q2, Result.andThen]
                · cases h
              · cases h
            · cases h
        · cases h
      · cases h
    · cases h
  · -- max
    rename_i args argTypes ho
    split at h
    · rename_i x y hargs
      have ha : args = #[x, y] := by apply Array.toList_inj.1; simpa using hargs
      subst ha
      split at h
      · rename_i p k u hb1
        split at h
        · rename_i q k' v hb2
          cases h
          have h1 : a.eval x = .int k u := B hb1 (all_left hn)
          have h2 : a.eval y = .int k' v := B hb2 (all_right hn)
          refine ⟨.int k (if v > u then v else u), ?_, ?_⟩
          · unfold execOp
            rw [ho]
            have e : (#[x, y] : Array Operand).map a.eval = #[.int k u, .int k' v] := by simp [h1, h2]
            show (do let d ← resolve a.eval _ o.type; invoke d.target d.args : Sem Next).run P w = _
            simp only [resolve, invoke, builtin, e]
            refine val1 (s := Builtin.max_ _ _ _) ?_
            simp [Builtin.max_, Builtin.max2]
          · show Value.int k _ = Value.int k _
            congr 1
            omega
        · cases h
      · cases h
    · cases h
  · -- min
    rename_i args argTypes ho
    split at h
    · rename_i x y hargs
      have ha : args = #[x, y] := by apply Array.toList_inj.1; simpa using hargs
      subst ha
      split at h
      · rename_i p k u hb1
        split at h
        · rename_i q k' v hb2
          cases h
          have h1 : a.eval x = .int k u := B hb1 (all_left hn)
          have h2 : a.eval y = .int k' v := B hb2 (all_right hn)
          refine ⟨.int k (if v < u then v else u), ?_, ?_⟩
          · unfold execOp
            rw [ho]
            have e : (#[x, y] : Array Operand).map a.eval = #[.int k u, .int k' v] := by simp [h1, h2]
            show (do let d ← resolve a.eval _ o.type; invoke d.target d.args : Sem Next).run P w = _
            simp only [resolve, invoke, builtin, e]
            refine val1 (s := Builtin.min_ _ _ _) ?_
            simp [Builtin.min_, Builtin.min2]
          · show Value.int k _ = Value.int k _
            congr 1
            omega
        · cases h
      · cases h
    · cases h
  · cases h

end Go.Am
end
