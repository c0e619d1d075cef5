/- Part of the proofs of laws of this seat: contracts and plain lemmas; no condition is added to a statement. -/
import Derived.Tactics
import Derived.Orders
import Derived.Laws.AppendOwn
import Derived.Laws.OwnMore
import Derived.Laws.MakeOwn
import Derived.Laws.CopyRow
import Derived.Laws.Rows
import Derived.RowKit3
import Derived.Laws.Small
import Derived.Laws.Entries
import Derived.Laws.Strings
import Derived.Laws.Slices
import Derived.Laws.BytesArg
import Derived.Laws.Tables
import Derived.Laws.AppendOwnNone
set_option linter.unusedSimpArgs false
set_option linter.unusedVariables false
section
/- THE ABSTRACT MACHINE, PART 1: values without memory, tracked objects, and what they stand for in a world. -/
namespace Go.Am

/-- A cell, without memory. 'ptr', 'ep', 'sl': into an object that is tracked (its number); 'ip', 'isl': memory that nobody writes any more. -/
inductive C where
  | junk
  | bool (b : Bool)
  | int (k : IntKind) (n : Int)
  | str (s : ByteArray)
  | nilp
  | ptr (id off : Nat)
  | ep (id i j tot : Nat)
  | ip (n : Nat) (get : Nat → C)
  | sl (id es len tot : Nat) (x : Bool)
  | isl (es n : Nat) (get : Nat → Nat → C) (tight : Bool)
  | fn (f : Fn) (n : Nat) (get : Nat → C)
  | nilfn
  | nils

/-- A slot's value: unknown; a cell; a struct or an array; a tuple; one that is known where a guard is true. -/
inductive S where
  | u
  | c (x : C)
  | a (xs : List C)
  | t (l : List (C ⊕ List C))
  | lz (g : Bool) (s : S)

/-- A tracked object: a variable; an array behind slices (element type, cells of an element, elements); one that is no more. -/
inductive O where
  | vr (cs : List C)
  | arr (e es n : Nat) (get : Nat → Nat → C)
  | dead

abbrev Ts := List (Nat × S)

def find : Nat → Ts → S
  | _, [] => .u
  | t, (u, s) :: r => match Nat.beq u t with
    | true => s
    | false => find t r

def getL {α : Type} : List α → Nat → Option α
  | [], _ => none
  | x :: _, 0 => some x
  | _ :: r, i + 1 => getL r i

def setL {α : Type} : List α → Nat → α → Option (List α)
  | [], _, _ => none
  | _ :: r, 0, y => some (y :: r)
  | x :: r, i + 1, y => match setL r i y with
    | some r' => some (x :: r')
    | none => none

theorem getL_eq {α : Type} : ∀ (l : List α) (i : Nat), getL l i = l[i]?
  | [], _ => by simp [getL]
  | _ :: _, 0 => by simp [getL]
  | _ :: r, i + 1 => by simp [getL, getL_eq r i]

theorem setL_eq {α : Type} : ∀ (l : List α) (i : Nat) (y : α) (l' : List α), setL l i y = some l' → i < l.length ∧ l' = l.set i y
  | [], _, _, _, h => by simp [setL] at h
  | _ :: r, 0, y, l', h => by simp [setL] at h; simp [h]
  | x :: r, i + 1, y, l', h => by
    simp only [setL] at h
    cases hs : setL r i y with
    | none => simp [hs] at h
    | some r' =>
      obtain ⟨h1, h2⟩ := setL_eq r i y r' hs
      simp only [hs, Option.some.injEq] at h
      subst h2
      subst h
      simp [h1]

/-- Memory that is known. -/
abbrev Mem := Nat → Option Obj

def Mem.le (F G : Mem) : Prop := ∀ b o, F b = some o → G b = some o

theorem Mem.le_refl (F : Mem) : F.le F := fun _ _ h => h
theorem Mem.le.le_trans' {F G H : Mem} (h : F.le G) (k : G.le H) : F.le H := fun b o e => k b o (h b o e)
theorem Mem.le_trans {F G H : Mem} (h : F.le G) (k : G.le H) : F.le H := fun b o e => k b o (h b o e)

def Mem.cell (F : Mem) (b i : Nat) : Option Value :=
  match F b with
  | some (.cells c _ _) => c[i]?
  | _ => none

theorem Mem.cell_le {F G : Mem} (h : F.le G) {b i : Nat} {v : Value} (e : F.cell b i = some v) : G.cell b i = some v := by
  unfold Mem.cell at *
  cases hf : F b with
  | none => simp [hf] at e
  | some o => rw [h b o hf]; rw [hf] at e; exact e

/-- What a cell stands for, over memory that nobody writes. -/
def RepF (F : Mem) : C → Value → Prop
  | .junk, v => v.oneCell' = true
  | .bool b, v => v = .bool b
  | .int k n, v => v = .int k n
  | .str s, v => v = .string s ∧ s.size ≤ maxLen
  | .nilp, v => v = .pointer none
  | .ptr .., _ => False
  | .ep .., _ => False
  | .sl .., _ => False
  | .ip n get, v => ∃ b off, v = .pointer (some ⟨b, off, none⟩) ∧ ∀ j, j < n → ∃ x, F.cell b (off + j) = some x ∧ RepF F (get j) x
  | .isl es n get tight, v => ∃ a cap, v = .slice a n cap ∧ n ≤ maxLen ∧ n ≤ cap ∧ (tight = true → cap = n) ∧ (a = none → cap = 0) ∧
      (n = 0 ∨ ∃ b off, a = some ⟨b, off, none⟩ ∧ ∀ i, i < n → ∀ j, j < es → ∃ x, F.cell b (off + i * es + j) = some x ∧ RepF F (get i j) x)
  | .fn f n get, v => ∃ cs : Array Value, v = .func f #[] cs ∧ cs.size = n ∧ ∀ j, j < n → ∃ x, cs[j]? = some x ∧ RepF F (get j) x
  | .nilfn, v => v = .nilFunc
  | .nils, v => v = .slice none 0 0

/-- What a cell stands for, beside tracked objects. -/
def RepC (F : Mem) (H : List O) (μ : Nat → Value) : C → Value → Prop
  | .ptr id off, v => (∃ cs, getL H id = some (.vr cs)) ∧ ∃ b, μ id = .pointer (some ⟨b, 0, none⟩) ∧ v = .pointer (some ⟨b, off, none⟩)
  | .ep id i j tot, v => v.oneCell' = true ∧ ∃ e es n g, getL H id = some (.arr e es n g) ∧ tot ≤ n ∧
      (tot = n → ∃ b cap, μ id = .slice (some ⟨b, 0, none⟩) n cap ∧ i < n ∧ v = .pointer (some ⟨b, i * es + j, none⟩))
  | .sl id es len tot x, v => v.oneCell' = true ∧ ∃ e n g, getL H id = some (.arr e es n g) ∧ tot ≤ n ∧ len ≤ tot ∧
      (tot = n → ∃ a cap, μ id = .slice a n cap ∧ v = .slice a len cap ∧ (x = true → cap = n))
  | .fn f n get, v => ∃ cs : Array Value, v = .func f #[] cs ∧ cs.size = n ∧ ∀ j, j < n → ∃ x, cs[j]? = some x ∧ RepC F H μ (get j) x
  | c, v => RepF F c v

def RepL (F : Mem) (H : List O) (μ : Nat → Value) (xs : List C) (cs : Array Value) : Prop :=
  cs.size = xs.length ∧ ∀ (j : Nat) x, getL xs j = some x → ∃ v, cs[j]? = some v ∧ RepC F H μ x v

def RepE (F : Mem) (H : List O) (μ : Nat → Value) : C ⊕ List C → Value → Prop
  | .inl x, v => RepC F H μ x v
  | .inr xs, v => ∃ cs, v = .agg cs ∧ RepL F H μ xs cs

def RepS (F : Mem) (H : List O) (μ : Nat → Value) : S → Value → Prop
  | .u, _ => True
  | .c x, v => RepC F H μ x v
  | .a xs, v => ∃ cs, v = .agg cs ∧ RepL F H μ xs cs
  | .t l, v => ∃ vs : Array Value, v = .tuple vs ∧ vs.size = l.length ∧ ∀ (j : Nat) x, getL l j = some x → ∃ u, vs[j]? = some u ∧ RepE F H μ x u
  | .lz g s, v => (g = true → RepS F H μ s v) ∧ (g = false → v = undef)

/-- From one set of tracked objects to a later one: each is still there; what has not grown lies where it lay. -/
def Ext (H : List O) (μ : Nat → Value) (H' : List O) (μ' : Nat → Value) : Prop :=
  (∀ id cs, getL H id = some (.vr cs) → (∃ cs', getL H' id = some (.vr cs')) ∧ μ' id = μ id) ∧
  (∀ id e es n g, getL H id = some (.arr e es n g) → ∃ n' g', getL H' id = some (.arr e es n' g') ∧ n ≤ n' ∧ (n' = n → μ' id = μ id))

theorem Ext.refl (H : List O) (μ : Nat → Value) : Ext H μ H μ :=
  ⟨fun _ cs h => ⟨⟨cs, h⟩, rfl⟩, fun _ _ _ n g h => ⟨n, g, h, Nat.le_refl _, fun _ => rfl⟩⟩

theorem Ext.trans {H H' H'' : List O} {μ μ' μ'' : Nat → Value} (h : Ext H μ H' μ') (k : Ext H' μ' H'' μ'') : Ext H μ H'' μ'' := by
  refine ⟨fun id cs e => ?_, fun id e es n g he => ?_⟩
  · obtain ⟨⟨cs', h1⟩, h2⟩ := h.1 id cs e
    obtain ⟨h3, h4⟩ := k.1 id cs' h1
    exact ⟨h3, h4.trans h2⟩
  · obtain ⟨n', g', h1, h2, h3⟩ := h.2 id e es n g he
    obtain ⟨n'', g'', k1, k2, k3⟩ := k.2 id e es n' g' h1
    exact ⟨n'', g'', k1, Nat.le_trans h2 k2, fun q => (k3 (by omega)).trans (h3 (by omega))⟩

theorem RepF.mono {F G : Mem} (h : F.le G) : ∀ (c : C) (v : Value), RepF F c v → RepF G c v := by
  intro c
  induction c with
  | ip n get ih =>
    intro v hv
    obtain ⟨b, off, hv, hc⟩ := hv
    refine ⟨b, off, hv, fun j hj => ?_⟩
    obtain ⟨x, hx, hr⟩ := hc j hj
    exact ⟨x, Mem.cell_le h hx, ih j x hr⟩
  | isl es n get tight ih =>
    intro v hv
    obtain ⟨a, cap, hv, h1, h2, h3, h3', h4⟩ := hv
    refine ⟨a, cap, hv, h1, h2, h3, h3', ?_⟩
    rcases h4 with h4 | ⟨b, off, ha, hc⟩
    · exact .inl h4
    · refine .inr ⟨b, off, ha, fun i hi j hj => ?_⟩
      obtain ⟨x, hx, hr⟩ := hc i hi j hj
      exact ⟨x, Mem.cell_le h hx, ih i j x hr⟩
  | fn f n get ih =>
    intro v hv
    obtain ⟨cs, hv, hs, hc⟩ := hv
    refine ⟨cs, hv, hs, fun j hj => ?_⟩
    obtain ⟨x, hx, hr⟩ := hc j hj
    exact ⟨x, hx, ih j x hr⟩
  | _ => intro v hv; exact hv

theorem RepC.mono {F G : Mem} {H H' : List O} {μ μ' : Nat → Value} (h : F.le G) (k : Ext H μ H' μ') : ∀ (c : C) (v : Value), RepC F H μ c v → RepC G H' μ' c v := by
  intro c
  induction c with
  | ptr id off =>
    intro v hv
    obtain ⟨⟨cs, h1⟩, b, h2, h3⟩ := hv
    obtain ⟨k1, k2⟩ := k.1 id cs h1
    exact ⟨k1, b, k2.trans h2, h3⟩
  | ep id i j tot =>
    intro v hv
    obtain ⟨h0, e, es, n, g, h1, h2, h3⟩ := hv
    obtain ⟨n', g', k1, k2, k3⟩ := k.2 id e es n g h1
    refine ⟨h0, e, es, n', g', k1, by omega, fun q => ?_⟩
    have hn : n' = n := by omega
    rw [k3 hn, hn]
    exact h3 (by omega)
  | sl id es len tot x =>
    intro v hv
    obtain ⟨h0, e, n, g, h1, h2, h2', h3⟩ := hv
    obtain ⟨n', g', k1, k2, k3⟩ := k.2 id e es n g h1
    refine ⟨h0, e, n', g', k1, by omega, h2', fun q => ?_⟩
    have hn : n' = n := by omega
    rw [k3 hn, hn]
    exact h3 (by omega)
  | fn f n get ih =>
    intro v hv
    obtain ⟨cs, hv, hs, hc⟩ := hv
    refine ⟨cs, hv, hs, fun j hj => ?_⟩
    obtain ⟨x, hx, hr⟩ := hc j hj
    exact ⟨x, hx, ih j x hr⟩
  | _ => intro v hv; exact RepF.mono h _ v hv

theorem RepL.mono {F G : Mem} {H H' : List O} {μ μ' : Nat → Value} (h : F.le G) (k : Ext H μ H' μ') {xs : List C} {cs : Array Value} (hl : RepL F H μ xs cs) : RepL G H' μ' xs cs :=
  ⟨hl.1, fun j x e => let ⟨v, hv, hr⟩ := hl.2 j x e; ⟨v, hv, RepC.mono h k x v hr⟩⟩

theorem RepE.mono {F G : Mem} {H H' : List O} {μ μ' : Nat → Value} (h : F.le G) (k : Ext H μ H' μ') : ∀ (x : C ⊕ List C) (v : Value), RepE F H μ x v → RepE G H' μ' x v
  | .inl x, v, hv => RepC.mono h k x v hv
  | .inr _, _, ⟨cs, hv, hl⟩ => ⟨cs, hv, hl.mono h k⟩

theorem RepS.mono {F G : Mem} {H H' : List O} {μ μ' : Nat → Value} (h : F.le G) (k : Ext H μ H' μ') : ∀ (s : S) (v : Value), RepS F H μ s v → RepS G H' μ' s v
  | .u, _, _ => trivial
  | .c x, v, hv => RepC.mono h k x v hv
  | .a _, _, ⟨cs, hv, hl⟩ => ⟨cs, hv, hl.mono h k⟩
  | .t _, _, ⟨vs, hv, hs, hl⟩ => ⟨vs, hv, hs, fun j x e => let ⟨u, hu, hr⟩ := hl j x e; ⟨u, hu, RepE.mono h k x u hr⟩⟩
  | .lz _ s, v, hv => ⟨fun hg => RepS.mono h k s v (hv.1 hg), hv.2⟩

theorem RepF.one {F : Mem} : ∀ (c : C) (v : Value), RepF F c v → v.oneCell' = true
  | .junk, _, h => h
  | .bool _, _, h => by rw [show _ = _ from h]; rfl
  | .int _ _, _, h => by rw [show _ = _ from h]; rfl
  | .str _, _, h => by rw [h.1]; rfl
  | .nilp, _, h => by rw [show _ = _ from h]; rfl
  | .ip _ _, _, ⟨_, _, h, _⟩ => by rw [h]; rfl
  | .isl .., _, ⟨_, _, h, _⟩ => by rw [h]; rfl
  | .fn .., _, ⟨_, h, _⟩ => by rw [h]; rfl
  | .nilfn, _, h => by rw [show _ = _ from h]; rfl
  | .nils, _, h => by rw [show _ = _ from h]; rfl

theorem RepC.one {F : Mem} {H : List O} {μ : Nat → Value} : ∀ (c : C) (v : Value), RepC F H μ c v → v.oneCell' = true
  | .ptr .., _, ⟨_, _, _, h⟩ => by rw [h]; rfl
  | .ep .., _, h => h.1
  | .sl .., _, h => h.1
  | .fn .., _, ⟨_, h, _⟩ => by rw [h]; rfl
  | .junk, v, h => RepF.one (F := F) .junk v h
  | .bool b, v, h => RepF.one (F := F) (.bool b) v h
  | .int k n, v, h => RepF.one (F := F) (.int k n) v h
  | .str s, v, h => RepF.one (F := F) (.str s) v h
  | .nilp, v, h => RepF.one (F := F) .nilp v h
  | .ip n g, v, h => RepF.one (F := F) (.ip n g) v h
  | .isl es n g t, v, h => RepF.one (F := F) (.isl es n g t) v h
  | .nilfn, v, h => RepF.one (F := F) .nilfn v h
  | .nils, v, h => RepF.one (F := F) .nils v h

/-- Over frozen memory alone, a cell stands for the same beside tracked objects. -/
theorem RepF.toC {F : Mem} (H : List O) (μ : Nat → Value) : ∀ (c : C) (v : Value), RepF F c v → RepC F H μ c v := by
  intro c
  induction c with
  | fn f n get ih =>
    intro v hv
    obtain ⟨cs, hv, hs, hc⟩ := hv
    refine ⟨cs, hv, hs, fun j hj => ?_⟩
    obtain ⟨x, hx, hr⟩ := hc j hj
    exact ⟨x, hx, ih j x hr⟩
  | ptr id off => intro v hv; exact hv.elim
  | ep id i j t => intro v hv; exact hv.elim
  | sl id es l t x => intro v hv; exact hv.elim
  | _ => intro v hv; exact hv

/-- What is kept as it is, whatever is done. -/
structure Keep where
  mem : Mem
  os : Os
  tape : Nat → Question → Nat
  output : Array (Nat × ByteArray)

def blk : Value → Option Nat
  | .pointer (some a) => some a.block
  | .slice (some a) _ _ => some a.block
  | _ => none

def owned (H : List O) (μ : Nat → Value) (id b : Nat) : Prop :=
  (∃ o, getL H id = some o ∧ o ≠ .dead) ∧ blk (μ id) = some b

def OSat (F : Mem) (H : List O) (μ : Nat → Value) (w : World) (id : Nat) : O → Prop
  | .vr cs => ∃ b c T, μ id = .pointer (some ⟨b, 0, none⟩) ∧ w.heap[b]? = some (.cells c T (0, 0)) ∧ RepL F H μ cs c
  | .arr e es n g => ∃ xs, w.ownsRow 0 e es (μ id) n xs ∧ n ≤ maxLen ∧ ∀ i, i < n → ∀ j, j < es → ∃ v, xs[i * es + j]? = some v ∧ RepC F H μ (g i j) v
  | .dead => True

structure HSat (K : Keep) (F : Mem) (H : List O) (μ : Nat → Value) (w : World) : Prop where
  os : w.os = K.os
  tape : w.tape = K.tape
  output : w.output = K.output
  fr : ∀ b o, F b = some o → w.heap[b]? = some o
  kp : ∀ b o, K.mem b = some o → w.heap[b]? = some o
  ob : ∀ id o, getL H id = some o → OSat F H μ w id o
  sp : ∀ id b, owned H μ id b → F b = none ∧ K.mem b = none
  ij : ∀ id id' b, owned H μ id b → owned H μ id' b → id = id'
  dj : ∀ b o, F b = some o → K.mem b = none

def TSat (F : Mem) (H : List O) (μ : Nat → Value) (ts : Ts) (tmps : Array Value) : Prop :=
  ∀ t, RepS F H μ (find t ts) (tmps.getD t undef)

theorem TSat.mono {F G : Mem} {H H' : List O} {μ μ' : Nat → Value} (h : F.le G) (k : Ext H μ H' μ') {ts : Ts} {tmps : Array Value} (ht : TSat F H μ ts tmps) : TSat G H' μ' ts tmps :=
  fun t => RepS.mono h k _ _ (ht t)

theorem TSat.put {F : Mem} {H : List O} {μ : Nat → Value} {ts : Ts} {a : Act} (ht : TSat F H μ ts a.tmps) {d : Nat} {s : S} {v : Value} (hd : d < a.tmps.size) (hs : RepS F H μ s v) :
    TSat F H μ ((d, s) :: ts) (a.put (some d) v).tmps := by
  intro t
  simp only [find, Act.put]
  cases hb : Nat.beq d t with
  | true =>
    have : d = t := Nat.eq_of_beq_eq_true hb
    subst this
    simpa [Array.getD, hd] using hs
  | false =>
    have hne : d ≠ t := by
      intro e; subst e; simp at hb
    have := ht t
    simp only [Array.getD_eq_getD_getElem?] at this ⊢
    rw [Array.getElem?_setIfInBounds_ne hne]
    exact this

/-- Something is put where nothing is known. -/
theorem TSat.put_u {F : Mem} {H : List O} {μ : Nat → Value} {ts : Ts} {a : Act} (ht : TSat F H μ ts a.tmps) {d : Nat} {v : Value} :
    TSat F H μ ((d, .u) :: ts) (a.put (some d) v).tmps := by
  intro t
  simp only [find, Act.put]
  cases hb : Nat.beq d t with
  | true => trivial
  | false =>
    have hne : d ≠ t := by
      intro e; subst e; simp at hb
    have := ht t
    simp only [Array.getD_eq_getD_getElem?] at this ⊢
    rw [Array.getElem?_setIfInBounds_ne hne]
    exact this

end Go.Am
end

section
/- THE ABSTRACT MACHINE, PART 2: types; the operations that change nothing that is tracked. -/
namespace Go.Am

inductive Z where
  | b | i (k : IntKind) | s | p | sl | f
  deriving DecidableEq

def Z.toC : Z → C
  | .b => .bool false
  | .i k => .int k 0
  | .s => .str ByteArray.empty
  | .p => .nilp
  | .sl => .nils
  | .f => .nilfn

def Z.toV : Z → Value
  | .b => .bool false
  | .i k => .int k 0
  | .s => .string ByteArray.empty
  | .p => .pointer none
  | .sl => .slice none 0 0
  | .f => .nilFunc

inductive TD where
  | bool | int (k : IntKind) | str | ptr (e : Nat) | slice (e : Nat) | strct (fs : List (Nat × Nat)) | arr (n e : Nat) | fn

structure TI where
  td : TD
  size : Nat
  bytes : Nat
  zero : List Z

abbrev Env := List (Nat × TI)

def Env.at : Env → Nat → Option TI
  | [], _ => none
  | (u, i) :: r, t => match Nat.beq u t with
    | true => some i
    | false => Env.at r t

def TI.agg (i : TI) : Bool := match i.td with
  | .strct _ | .arr _ _ => true
  | _ => false

def tdOk (P : Program) : TypeDesc → TD → Prop
  | .bool, .bool => True
  | .int k, .int k' => k = k'
  | .string, .str => True
  | .pointer e, .ptr e' => e = e'
  | .slice e, .slice e' => e = e'
  | .struct fs, .strct l => l = fs.toList.map (fun f => (f.offset, f.type)) ∧ ∀ f ∈ fs.toList, ∃ i, P.info? f.type = some i ∧ i.size ≠ 0
  | .array n e, .arr n' e' => n = n' ∧ e = e'
  | .func .., .fn => True
  | _, _ => False

structure TIok (P : Program) (t : Nat) (i : TI) : Prop where
  info : ∃ x, P.info? t = some x ∧ x.size = i.size ∧ x.bytes = i.bytes ∧ ∃ z, x.zero = some z ∧ z.cells.toList = i.zero.map Z.toV
  und : ∃ d, P.underlying t = some d ∧ tdOk P d i.td

def EnvOk (P : Program) (Γ : Env) : Prop := ∀ t i, Γ.at t = some i → TIok P t i

def zOf : Value → Option Z
  | .bool false => some .b
  | .int k n => if n = 0 then some (.i k) else none
  | .string s => if s.size = 0 then some .s else none
  | .pointer none => some .p
  | .slice none 0 0 => some .sl
  | .nilFunc => some .f
  | _ => none

theorem zOf_ok {v : Value} {z : Z} (h : zOf v = some z) : v = z.toV := by
  unfold zOf at h
  split at h <;> first | (cases h; rfl) | skip
  · split at h
    · cases h; rename_i e; subst e; rfl
    · cases h
  · split at h
    · rename_i s e
      cases h
      show Value.string s = Value.string ByteArray.empty
      congr 1
      have : s.data = #[] := by apply Array.eq_empty_of_size_eq_zero; exact e
      cases s; simp_all
    · cases h
  · cases h

def zsOf : List Value → Option (List Z)
  | [] => some []
  | v :: r => match zOf v, zsOf r with
    | some z, some zs => some (z :: zs)
    | _, _ => none

theorem zsOf_ok : ∀ (l : List Value) (zs : List Z), zsOf l = some zs → l = zs.map Z.toV
  | [], zs, h => by simp [zsOf] at h; subst h; rfl
  | v :: r, zs, h => by
    simp only [zsOf] at h
    cases h1 : zOf v with
    | none => simp [h1] at h
    | some z =>
      cases h2 : zsOf r with
      | none => simp [h1, h2] at h
      | some zs' =>
        simp only [h1, h2, Option.some.injEq] at h
        subst h
        rw [List.map_cons, ← zOf_ok h1, ← zsOf_ok r zs' h2]

def tdB (P : Program) : TypeDesc → TD → Bool
  | .bool, .bool => true
  | .int k, .int k' => decide (k = k')
  | .string, .str => true
  | .pointer e, .ptr e' => decide (e = e')
  | .slice e, .slice e' => decide (e = e')
  | .struct fs, .strct l => decide (l = fs.toList.map (fun f => (f.offset, f.type))) && fs.toList.all (fun f => match P.info? f.type with | some i => decide (i.size ≠ 0) | none => false)
  | .array n e, .arr n' e' => decide (n = n') && decide (e = e')
  | .func .., .fn => true
  | _, _ => false

theorem tdB_ok {P : Program} {d : TypeDesc} {t : TD} (h : tdB P d t = true) : tdOk P d t := by
  unfold tdB at h
  split at h
  case h_6 fs l =>
    simp only [Bool.and_eq_true, decide_eq_true_eq, List.all_eq_true] at h
    refine ⟨h.1, fun f hf => ?_⟩
    have := h.2 f hf
    cases hi : P.info? f.type with
    | none => simp [hi] at this
    | some i => exact ⟨i, rfl, by simpa [hi] using this⟩
  all_goals simp_all [tdOk]

def tiB (P : Program) (t : Nat) (i : TI) : Bool :=
  match P.info? t, P.underlying t with
  | some x, some d => decide (x.size = i.size) && decide (x.bytes = i.bytes) && (match x.zero with | some z => decide (zsOf z.cells.toList = some i.zero) | none => false) && tdB P d i.td
  | _, _ => false

theorem tiB_ok {P : Program} {t : Nat} {i : TI} (h : tiB P t i = true) : TIok P t i := by
  unfold tiB at h
  cases h1 : P.info? t with
  | none => simp [h1] at h
  | some x =>
    cases h2 : P.underlying t with
    | none => simp [h1, h2] at h
    | some d =>
      simp only [h1, h2, Bool.and_eq_true, decide_eq_true_eq] at h
      obtain ⟨⟨⟨e1, e2⟩, e3⟩, e4⟩ := h
      refine ⟨⟨x, h1, e1, e2, ?_⟩, ⟨d, h2, tdB_ok e4⟩⟩
      cases hz : x.zero with
      | none => simp [hz] at e3
      | some z =>
        simp only [hz, decide_eq_true_eq] at e3
        exact ⟨z, rfl, zsOf_ok _ _ e3⟩

def envB (P : Program) (Γ : Env) : Bool := Γ.all fun x => tiB P x.1 x.2

theorem envB_ok {P : Program} {Γ : Env} (h : envB P Γ = true) : EnvOk P Γ := by
  intro t i hi
  induction Γ with
  | nil => simp [Env.at] at hi
  | cons x r ih =>
    obtain ⟨u, j⟩ := x
    simp only [envB, List.all_cons, Bool.and_eq_true] at h
    simp only [Env.at] at hi
    cases hb : Nat.beq u t with
    | true =>
      have : u = t := Nat.eq_of_beq_eq_true hb
      subst this
      simp only [hb, Option.some.injEq] at hi
      subst hi
      exact tiB_ok h.1
    | false =>
      simp only [hb] at hi
      exact ih h.2 hi

/-- A constant. -/
def constC : Value → Option C
  | .bool b => some (.bool b)
  | .int k n => some (.int k n)
  | .string s => match Nat.ble s.size 1000000 with
    | true => some (.str s)
    | false => none
  | .pointer none => some .nilp
  | .slice none 0 0 => some .nils
  | .nilFunc => some .nilfn
  | _ => none

def constL : List Value → Option (List C)
  | [] => some []
  | v :: r => match constC v with
    | some c => match constL r with
      | some l => some (c :: l)
      | none => none
    | none => none

def constS (v : Value) : S :=
  match v with
  | .agg cs => match constL cs.toList with
    | some l => .a l
    | none => .u
  | v => match constC v with
    | some c => .c c
    | none => .u

theorem constC_ok {F : Mem} {H : List O} {μ : Nat → Value} {v : Value} {c : C} (h : constC v = some c) : RepC F H μ c v := by
  unfold constC at h
  split at h <;> first | (cases h; rfl) | skip
  · split at h
    · rename_i hb
      cases h
      refine ⟨rfl, ?_⟩
      have := Nat.le_of_ble_eq_true hb
      unfold maxLen
      omega
    · cases h
  · cases h

theorem constL_ok {F : Mem} {H : List O} {μ : Nat → Value} : ∀ {l : List Value} {cs : List C}, constL l = some cs → l.length = cs.length ∧ ∀ (j : Nat) x, getL cs j = some x → ∃ v, l[j]? = some v ∧ RepC F H μ x v
  | [], cs, h => by simp [constL] at h; subst h; simp [getL]
  | v :: r, cs, h => by
    simp only [constL] at h
    cases h1 : constC v with
    | none => simp [h1] at h
    | some c =>
      cases h2 : constL r with
      | none => simp [h1, h2] at h
      | some l =>
        simp only [h1, h2, Option.some.injEq] at h
        subst h
        obtain ⟨e1, e2⟩ := constL_ok (F := F) (H := H) (μ := μ) h2
        refine ⟨by simp [e1], fun j x hx => ?_⟩
        cases j with
        | zero => simp [getL] at hx; subst hx; exact ⟨v, by simp, constC_ok h1⟩
        | succ j => simp only [getL] at hx; simpa using e2 j x hx

theorem constS_ok {F : Mem} {H : List O} {μ : Nat → Value} (v : Value) : RepS F H μ (constS v) v := by
  have key : ∀ v : Value, RepS F H μ (match constC v with | some c => .c c | none => .u) v := by
    intro v
    cases hc : constC v with
    | none => trivial
    | some c => exact constC_ok (F := F) (H := H) (μ := μ) hc
  cases v with
  | agg cs =>
    simp only [constS]
    cases hl : constL cs.toList with
    | none => trivial
    | some l =>
      obtain ⟨e1, e2⟩ := constL_ok (F := F) (H := H) (μ := μ) hl
      exact ⟨cs, rfl, by simpa using e1, fun j x hx => by simpa using e2 j x hx⟩
  | bool b => exact key (.bool b)
  | int k n => exact key (.int k n)
  | float k n => exact key (.float k n)
  | complex k n m => exact key (.complex k n m)
  | string s => exact key (.string s)
  | pointer p => exact key (.pointer p)
  | slice p n m => exact key (.slice p n m)
  | map r => exact key (.map r)
  | chan r => exact key (.chan r)
  | func f x y => exact key (.func f x y)
  | nilFunc => exact key .nilFunc
  | iface t v => exact key (.iface t v)
  | nilIface => exact key .nilIface
  | tuple vs => exact key (.tuple vs)

def opnd (ts : Ts) : Operand → S
  | .tmp t => find t ts
  | .const v => constS v
  | .global _ => .u
  | .func f => .c (.fn (.func f) 0 fun _ => .junk)

theorem opnd_ok {F : Mem} {H : List O} {μ : Nat → Value} {ts : Ts} {a : Act} (h : TSat F H μ ts a.tmps) : ∀ x, RepS F H μ (opnd ts x) (a.eval x)
  | .tmp t => h t
  | .const v => constS_ok v
  | .global _ => trivial
  | .func f => ⟨#[], rfl, rfl, fun j hj => by omega⟩

/-- A guarded value laid bare: what must be known for it. -/
def bare : S → List Prop × S
  | .lz g s => match bare s with
    | (p, s') => ((g = true) :: p, s')
  | s => ([], s)

theorem bare_ok {F : Mem} {H : List O} {μ : Nat → Value} : ∀ {s s' : S} {p : List Prop} {v : Value}, RepS F H μ s v → bare s = (p, s') → (∀ q ∈ p, q) → RepS F H μ s' v
  | .u, _, _, _, h, e, _ => by simp only [bare, Prod.mk.injEq] at e; obtain ⟨_, rfl⟩ := e; exact h
  | .c x, _, _, _, h, e, _ => by simp only [bare, Prod.mk.injEq] at e; obtain ⟨_, rfl⟩ := e; exact h
  | .a x, _, _, _, h, e, _ => by simp only [bare, Prod.mk.injEq] at e; obtain ⟨_, rfl⟩ := e; exact h
  | .t x, _, _, _, h, e, _ => by simp only [bare, Prod.mk.injEq] at e; obtain ⟨_, rfl⟩ := e; exact h
  | .lz g s, s', p, v, h, e, hp => by
    simp only [bare] at e
    cases hs : bare s with
    | mk p' s'' =>
      simp only [hs, Prod.mk.injEq] at e
      obtain ⟨rfl, rfl⟩ := e
      have hg : g = true := hp _ (by simp)
      exact bare_ok (h.1 hg) hs (fun q hq => hp q (by simp [hq]))

def intOp (op : BinOp) (k : IntKind) (x y : Int) : Option (List Prop × C) :=
  match op with
  | .add => some ([], .int k (k.wrap (x + y)))
  | .sub => some ([], .int k (k.wrap (x - y)))
  | .mul => some ([], .int k (k.wrap (x * y)))
  | .quo => some ([y ≠ 0], .int k (k.wrap (x.tdiv y)))
  | .rem => some ([y ≠ 0], .int k (x.tmod y))
  | .and => some ([], .int k (k.wrap (BitVec.ofInt k.bits x &&& BitVec.ofInt k.bits y).toNat))
  | .or => some ([], .int k (k.wrap (BitVec.ofInt k.bits x ||| BitVec.ofInt k.bits y).toNat))
  | .xor => some ([], .int k (k.wrap (BitVec.ofInt k.bits x ^^^ BitVec.ofInt k.bits y).toNat))
  | .andNot => some ([], .int k (k.wrap (BitVec.ofInt k.bits x &&& ~~~ BitVec.ofInt k.bits y).toNat))
  | .eql => some ([], .bool (x == y))
  | .neq => some ([], .bool (x != y))
  | .lss => some ([], .bool (decide (x < y)))
  | .leq => some ([], .bool (decide (x ≤ y)))
  | .gtr => some ([], .bool (decide (x > y)))
  | .geq => some ([], .bool (decide (x ≥ y)))
  | _ => none

def shiftOp (op : BinOp) (k : IntKind) (x y : Int) : Option (List Prop × C) :=
  match op with
  | .shl => some ([0 ≤ y], .int k (k.wrap (x * 2 ^ (min y.toNat k.bits))))
  | .shr => some ([0 ≤ y], .int k (x.fdiv (2 ^ (min y.toNat k.bits))))
  | _ => none

def strOp (op : BinOp) (x y : ByteArray) : Option (List Prop × C) :=
  match op with
  | .eql => some ([], .bool (decide (x = y)))
  | .neq => some ([], .bool (!decide (x = y)))
  | .add => some ([x.size + y.size ≤ 9223372036854775807], .str (x ++ y))
  | _ => none

def boolOp (op : BinOp) (x y : Bool) : Option (List Prop × C) :=
  match op with
  | .eql => some ([], .bool (x == y))
  | .neq => some ([], .bool (!(x == y)))
  | _ => none

def isShift : BinOp → Bool
  | .shl | .shr => true
  | _ => false

def binC (op : BinOp) (x y : C) : Option (List Prop × C) :=
  match x with
  | .int k a => match y with
    | .int k' b => match isShift op with
      | true => shiftOp op k a b
      | false => match decide (k = k') with
        | true => intOp op k a b
        | false => none
    | _ => none
  | .str a => match y with
    | .str b => strOp op a b
    | _ => none
  | .bool a => match y with
    | .bool b => boolOp op a b
    | _ => none
  | _ => none

theorem bytes_beq (a b : ByteArray) : (a.toList == b.toList) = decide (a = b) := by
  have key : a.toList = b.toList ↔ a = b := by
    constructor
    · intro h
      rw [ByteArray.toList_eq, ByteArray.toList_eq] at h
      cases a; cases b; simp_all [Array.toList_inj]
    · intro h; rw [h]
  by_cases e : a = b
  · subst e; simp
  · rw [decide_eq_false e]
    rw [beq_eq_false_iff_ne]
    exact fun h => e (key.1 h)

theorem strOp_run {op : BinOp} {a b : ByteArray} {ns : List Prop} {c : C} (P : Program) (w : World) (h : strOp op a b = some (ns, c)) (hn : ∀ p ∈ ns, p) :
    ∃ v, (Op.stringOp op a b).run P w = .ok v w ∧ ∀ F, RepF F c v := by
  cases op <;> simp only [strOp, Option.some.injEq, Prod.mk.injEq, reduceCtorEq] at h
  · obtain ⟨rfl, rfl⟩ := h
    have h1 : a.size + b.size ≤ 9223372036854775807 := hn _ (by simp)
    refine ⟨.string (a ++ b), ?_, fun F => ⟨rfl, ?_⟩⟩
    · have : ¬ (((a.size + b.size : Nat) : Int) > IntKind.i64.max) := by
        have : IntKind.i64.max = 9223372036854775807 := by decide
        rw [this]; omega
      simp only [Op.stringOp, if_neg this]
      rfl
    · simp [maxLen, ByteArray.size_append]; omega
  · obtain ⟨rfl, rfl⟩ := h
    exact ⟨.bool (decide (a = b)), by rw [← bytes_beq]; rfl, fun F => rfl⟩
  · obtain ⟨rfl, rfl⟩ := h
    exact ⟨.bool (!decide (a = b)), by rw [← bytes_beq]; rfl, fun F => rfl⟩

theorem intOp_run {op : BinOp} {k : IntKind} {a b : Int} {ns : List Prop} {c : C} (P : Program) (w : World) (t : TypeId) (h : intOp op k a b = some (ns, c)) (hn : ∀ p ∈ ns, p) :
    ∃ v, (binOp op t (.int k a) (.int k b)).run P w = .ok v w ∧ ∀ F, RepF F c v := by
  cases op <;> simp only [intOp, Option.some.injEq, Prod.mk.injEq, reduceCtorEq] at h
  case quo =>
    obtain ⟨rfl, rfl⟩ := h
    have h1 : b ≠ 0 := hn _ (by simp)
    refine ⟨_, ?_, fun F => rfl⟩
    simp [binOp, Op.intDiv, h1, pure]
  case rem =>
    obtain ⟨rfl, rfl⟩ := h
    have h1 : b ≠ 0 := hn _ (by simp)
    refine ⟨_, ?_, fun F => rfl⟩
    simp [binOp, Op.intDiv, h1, pure]
  all_goals
    obtain ⟨rfl, rfl⟩ := h
    refine ⟨_, ?_, fun F => rfl⟩
    simp [binOp, Op.intArith, Op.intBits, Op.intCmp, pure]

theorem shiftOp_run {op : BinOp} {k k' : IntKind} {a b : Int} {ns : List Prop} {c : C} (P : Program) (w : World) (t : TypeId) (h : shiftOp op k a b = some (ns, c)) (hn : ∀ p ∈ ns, p) :
    ∃ v, (binOp op t (.int k a) (.int k' b)).run P w = .ok v w ∧ ∀ F, RepF F c v := by
  cases op <;> simp only [shiftOp, Option.some.injEq, Prod.mk.injEq, reduceCtorEq] at h
  all_goals
    obtain ⟨rfl, rfl⟩ := h
    have h1 : 0 ≤ b := hn _ (by simp)
    have h2 : ¬ b < 0 := by omega
    refine ⟨_, ?_, fun F => rfl⟩
    simp [binOp, Op.shift, h2, pure]

theorem boolOp_run {op : BinOp} {a b : Bool} {ns : List Prop} {c : C} {P : Program} (w : World) {t : TypeId} (ht : P.underlying t = some .bool) (h : boolOp op a b = some (ns, c)) :
    ∃ v, (binOp op t (.bool a) (.bool b)).run P w = .ok v w ∧ ∀ F, RepF F c v := by
  cases op <;> simp only [boolOp, Option.some.injEq, Prod.mk.injEq, reduceCtorEq] at h
  · obtain ⟨rfl, rfl⟩ := h
    exact ⟨_, run_eql_bool w t a b ht, fun F => rfl⟩
  · obtain ⟨rfl, rfl⟩ := h
    exact ⟨_, run_neq_bool w t a b ht, fun F => rfl⟩

/-- A binary operation. -/
theorem binC_run {op : BinOp} {x y : C} {ns : List Prop} {c : C} {P : Program} {F : Mem} {H : List O} {μ : Nat → Value} (w : World) {t : TypeId} {X Y : Operand} {u v : Value}
    (ht : (∃ a, x = .bool a) → P.underlying t = some .bool) (h : binC op x y = some (ns, c)) (hn : ∀ p ∈ ns, p) (hx : RepC F H μ x u) (hy : RepC F H μ y v) :
    ∃ r, (do eqGuard op t X Y u v; binOp op t u v : Sem Value).run P w = .ok r w ∧ RepC F H μ c r := by
  cases x with
  | int k a =>
    cases y with
    | int k' b =>
      rw [show u = _ from hx, show v = _ from hy, eqGuard_at_int]
      simp only [binC] at h
      cases hs : isShift op with
      | true =>
        simp only [hs] at h
        obtain ⟨r, h1, h2⟩ := shiftOp_run P w t (k' := k') h hn
        exact ⟨r, h1, RepF.toC H μ c r (h2 F)⟩
      | false =>
        simp only [hs] at h
        by_cases hk : k = k'
        · subst hk
          simp only [decide_true] at h
          obtain ⟨r, h1, h2⟩ := intOp_run P w t h hn
          exact ⟨r, h1, RepF.toC H μ c r (h2 F)⟩
        · simp [hk] at h
    | _ => simp [binC] at h
  | str a =>
    cases y with
    | str b =>
      rw [show u = _ from hx.1, show v = _ from hy.1, eqGuard_at_string]
      obtain ⟨r, h1, h2⟩ := strOp_run P w h hn
      refine ⟨r, ?_, RepF.toC H μ c r (h2 F)⟩
      rw [show (do pure (); binOp op t (.string a) (.string b) : Sem Value) = Op.stringOp op a b from by cases op <;> rfl]
      exact h1
    | _ => simp [binC] at h
  | bool a =>
    cases y with
    | bool b =>
      rw [show u = _ from hx, show v = _ from hy, eqGuard_at_bool]
      obtain ⟨r, h1, h2⟩ := boolOp_run w (ht ⟨a, rfl⟩) h
      exact ⟨r, h1, RepF.toC H μ c r (h2 F)⟩
    | _ => simp [binC] at h
  | _ => simp [binC] at h

end Go.Am
end

section
/- THE ABSTRACT MACHINE, PART 3: loads; the value operations, one by one. -/
namespace Go.Am

theorem bind_ok {α β : Type} {P : Program} {x : Sem α} {f : α → Sem β} {w w' : World} {a : α} (h : x.run P w = .ok a w') : (x >>= f).run P w = (f a).run P w' := by
  rw [Sem.run_bind, h]; rfl

theorem typeInfo_ok {P : Program} {t : Nat} {x : TypeInfo} (h : P.info? t = some x) (w : World) : (typeInfo t).run P w = .ok x w := by
  simp [typeInfo, h]

theorem sizeOf_ok {P : Program} {t : Nat} {i : TI} (h : TIok P t i) (w : World) : (sizeOf t).run P w = .ok i.size w := by
  obtain ⟨x, h1, h2, _⟩ := h.info
  simp [sizeOf, typeInfo, h1, h2]

theorem isAgg_ok {P : Program} {t : Nat} {i : TI} (h : TIok P t i) (w : World) : (isAgg t).run P w = .ok i.agg w := by
  obtain ⟨d, h1, h2⟩ := h.und
  unfold isAgg
  rw [bind_ok (run_underlying h1 w)]
  unfold TI.agg
  cases d <;> cases htd : i.td <;> simp [htd, tdOk] at h2 ⊢

/-- n cells from the off-th on. -/
def cut {α : Type} : List α → Nat → Nat → Option (List α)
  | _, 0, 0 => some []
  | [], 0, _ + 1 => none
  | x :: r, 0, n + 1 => match cut r 0 n with
    | some l => some (x :: l)
    | none => none
  | [], _ + 1, _ => none
  | _ :: r, k + 1, n => cut r k n

theorem cut_ok {α : Type} : ∀ (l : List α) (k n : Nat) (r : List α), cut l k n = some r → r.length = n ∧ ∀ (j : Nat) x, getL r j = some x → getL l (k + j) = some x
  | l, 0, 0, r, h => by
    have : r = [] := by cases l <;> simp [cut] at h <;> exact h
    subst this; simp [getL]
  | [], 0, n + 1, r, h => by simp [cut] at h
  | x :: l, 0, n + 1, r, h => by
    simp only [cut] at h
    cases hc : cut l 0 n with
    | none => simp [hc] at h
    | some r' =>
      simp only [hc, Option.some.injEq] at h
      subst h
      obtain ⟨h1, h2⟩ := cut_ok l 0 n r' hc
      refine ⟨by simp [h1], fun j y hy => ?_⟩
      cases j with
      | zero => simpa [getL] using hy
      | succ j =>
        simp only [getL] at hy
        have := h2 j y hy
        rw [Nat.zero_add] at this ⊢
        simpa [getL] using this
  | [], k + 1, n, r, h => by simp [cut] at h
  | x :: l, k + 1, n, r, h => by
    simp only [cut] at h
    obtain ⟨h1, h2⟩ := cut_ok l k n r h
    refine ⟨h1, fun j y hy => ?_⟩
    have := h2 j y hy
    rw [show k + 1 + j = (k + j) + 1 by omega]
    simpa [getL] using this

def gets (get : Nat → C) (off : Nat) : Nat → List C
  | 0 => []
  | n + 1 => get off :: gets get (off + 1) n

theorem gets_ok (get : Nat → C) : ∀ (n off : Nat), (gets get off n).length = n ∧ ∀ (j : Nat) x, getL (gets get off n) j = some x → j < n ∧ x = get (off + j)
  | 0, off => by simp [gets, getL]
  | n + 1, off => by
    obtain ⟨h1, h2⟩ := gets_ok get n (off + 1)
    refine ⟨by simp [gets, h1], fun j x hx => ?_⟩
    cases j with
    | zero => simp [gets, getL] at hx; simp [hx]
    | succ j =>
      simp only [gets, getL] at hx
      obtain ⟨h3, h4⟩ := h2 j x hx
      exact ⟨by omega, by rw [h4]; congr 1; omega⟩

/-- A cell, its make brought out. -/
def forceC {α : Type} (c : C) (k : C → α) : α :=
  match c with
  | .junk => k .junk
  | .bool b => k (.bool b)
  | .int q n => k (.int q n)
  | .str s => k (.str s)
  | .nilp => k .nilp
  | .ptr id off => k (.ptr id off)
  | .ep id i j tot => k (.ep id i j tot)
  | .ip n get => k (.ip n get)
  | .sl id es len tot x => k (.sl id es len tot x)
  | .isl es n get tight => k (.isl es n get tight)
  | .fn f n get => k (.fn f n get)
  | .nilfn => k .nilfn
  | .nils => k .nils

theorem forceC_eq {α : Type} (c : C) (k : C → α) : forceC c k = k c := by cases c <;> rfl

def forceL {α : Type} : List C → (List C → α) → α
  | [], k => k []
  | c :: r, k => forceC c fun c' => forceL r fun r' => k (c' :: r')

theorem forceL_eq {α : Type} : ∀ (l : List C) (k : List C → α), forceL l k = k l
  | [], _ => rfl
  | c :: r, k => by simp only [forceL, forceC_eq, forceL_eq r]

/-- A value of cells, with the make that its type has. -/
def mkS (agg : Bool) (xs : List C) : Option S :=
  match agg with
  | true => some (.a xs)
  | false => match xs with
    | [x] => some (.c x)
    | _ => none

theorem loadVar_ok {P : Program} {F : Mem} {H : List O} {μ : Nat → Value} {w : World} {t : Nat} {i : TI} {a : Addr} {xs : List C} {s : S}
    (ht : TIok P t i) (hl : xs.length = i.size) (hx : ∀ (j : Nat) x, getL xs j = some x → ∃ v, w.cell? (a.add j) = some v ∧ RepC F H μ x v) (hs : mkS i.agg xs = some s) :
    ∃ v, (loadVar t a).run P w = .ok v w ∧ RepS F H μ s v := by
  let vs : List Value := (List.range xs.length).map fun j => (w.cell? (a.add j)).getD undef
  have hvl : vs.length = xs.length := by simp [vs]
  have hv : ∀ (j : Nat) x, getL xs j = some x → ∃ v, vs[j]? = some v ∧ w.cell? (a.add j) = some v ∧ RepC F H μ x v := by
    intro j x e
    obtain ⟨v, h1, h2⟩ := hx j x e
    have hj : j < xs.length := by rw [getL_eq] at e; exact (List.getElem?_eq_some_iff.1 e).1
    exact ⟨v, by simp [vs, hj, h1], h1, h2⟩
  have hc : ∀ (j : Nat) v, vs[j]? = some v → w.cell? (a.add j) = some v := by
    intro j v e
    have hj : j < xs.length := by rw [← hvl]; exact (List.getElem?_eq_some_iff.1 e).1
    obtain ⟨v', h1, h2, _⟩ := hv j xs[j] (by rw [getL_eq]; simp [hj])
    rw [h1] at e
    cases e
    exact h2
  unfold loadVar
  rw [bind_ok (isAgg_ok ht w)]
  cases ha : i.agg with
  | true =>
    rw [ha] at hs
    simp only [mkS, Option.some.injEq] at hs
    subst hs
    refine ⟨.agg vs.toArray, ?_, vs.toArray, rfl, by simp [hvl], fun j x e => ?_⟩
    · simp only [if_true]
      rw [bind_ok (sizeOf_ok ht w), ← hl, ← hvl, bind_ok (run_loadCells_list w a vs hc)]
      rfl
    · obtain ⟨v, h1, _, h3⟩ := hv j x e
      exact ⟨v, by simpa using h1, h3⟩
  | false =>
    rw [ha] at hs
    match xs, hs, hv with
    | [x], hs, hv =>
      simp only [mkS, Option.some.injEq] at hs
      subst hs
      obtain ⟨v, _, h2, h3⟩ := hv 0 x (by simp [getL])
      refine ⟨v, ?_, h3⟩
      have h0 : a.add 0 = a := by simp [Addr.add]
      rw [h0] at h2
      simp [h2]
    | [], hs, _ => simp [mkS] at hs
    | _ :: _ :: _, hs, _ => simp [mkS] at hs

theorem add_at (b o j : Nat) : (⟨b, o, none⟩ : Addr).add j = ⟨b, o + j, none⟩ := by
  unfold Addr.add; split <;> simp_all

/-- A load through an address. -/
def loadK (i : TI) (H : List O) (p : C) : Option (List Prop × S) :=
  match p with
  | .ptr id off => match getL H id with
    | some (.vr cs) => match cut cs off i.size with
      | some xs => match mkS i.agg xs with
        | some s => some ([], s)
        | none => none
      | none => none
    | _ => none
  | .ep id k j tot => match getL H id with
    | some (.arr _ es n get) => match mkS i.agg (gets (get k) j i.size) with
      | some s => some ([tot = n, j + i.size ≤ es], s)
      | none => none
    | _ => none
  | .ip n get => forceL (gets get 0 i.size) fun xs => match mkS i.agg xs with
    | some s => some ([i.size ≤ n], s)
    | none => none
  | _ => none

theorem loadK_ok {P : Program} {K : Keep} {F : Mem} {H : List O} {μ : Nat → Value} {w : World} {t : Nat} {i : TI} {p : C} {v : Value} {ns : List Prop} {s : S}
    (ht : TIok P t i) (hw : HSat K F H μ w) (hp : RepC F H μ p v) (h : loadK i H p = some (ns, s)) (hn : ∀ q ∈ ns, q) :
    ∃ r, (Instr.loadAt t v).run P w = .ok r w ∧ RepS F H μ s r := by
  cases p with
  | ptr id off =>
    obtain ⟨⟨cs, h1⟩, b, h2, h3⟩ := hp
    subst h3
    simp only [loadK, h1] at h
    cases hc : cut cs off i.size with
    | none => simp [hc] at h
    | some xs =>
      cases hm : mkS i.agg xs with
      | none => simp [hc, hm] at h
      | some s' =>
        simp only [hc, hm, Option.some.injEq, Prod.mk.injEq] at h
        obtain ⟨_, rfl⟩ := h
        obtain ⟨e1, e2⟩ := cut_ok _ _ _ _ hc
        obtain ⟨b', c, T, k1, k2, k3⟩ := hw.ob id _ h1
        rw [h2] at k1
        cases k1
        have := loadVar_ok (P := P) (F := F) (H := H) (μ := μ) (w := w) (a := ⟨b, off, none⟩) ht e1 (fun j x e => by
          obtain ⟨v, hv, hr⟩ := k3.2 (off + j) x (e2 j x e)
          refine ⟨v, ?_, hr⟩
          rw [add_at, cell_of_row w b _ c T (0, 0) k2, hv]) hm
        obtain ⟨r, r1, r2⟩ := this
        exact ⟨r, by simpa [Instr.loadAt, Instr.sureAddr] using r1, r2⟩
  | ep id k j tot =>
    obtain ⟨_, e, es, n, g, h1, h2, h3⟩ := hp
    simp only [loadK, h1] at h
    cases hm : mkS i.agg (gets (g k) j i.size) with
    | none => simp [hm] at h
    | some s' =>
      simp only [hm, Option.some.injEq, Prod.mk.injEq] at h
      obtain ⟨rfl, rfl⟩ := h
      have hq : tot = n := hn _ (by simp)
      have hes : j + i.size ≤ es := hn _ (by simp)
      obtain ⟨b, cap, m1, m2, m3⟩ := h3 hq
      subst m3
      obtain ⟨xs, o1, o2, o3⟩ := hw.ob id _ h1
      obtain ⟨g1, g2⟩ := gets_ok (g k) i.size j
      have hcell := o1.cells (g := b) (by rw [m1]; rfl)
      have := loadVar_ok (P := P) (F := F) (H := H) (μ := μ) (w := w) (a := ⟨b, k * es + j, none⟩) ht g1 (fun l x e => by
        obtain ⟨q1, q2⟩ := g2 l x e
        obtain ⟨v, hv, hr⟩ := o3 k m2 (j + l) (by omega)
        refine ⟨v, ?_, by rw [q2]; exact hr⟩
        have := hcell (k * es + (j + l)) v hv
        rw [add_at] at this ⊢
        rw [show k * es + j + l = 0 + (k * es + (j + l)) by omega]
        exact this) hm
      obtain ⟨r, r1, r2⟩ := this
      exact ⟨r, by simpa [Instr.loadAt, Instr.sureAddr] using r1, r2⟩
  | ip n get =>
    obtain ⟨b, off, hv, hc⟩ := hp
    subst hv
    simp only [loadK, forceL_eq] at h
    cases hm : mkS i.agg (gets get 0 i.size) with
    | none => simp [hm] at h
    | some s' =>
      simp only [hm, Option.some.injEq, Prod.mk.injEq] at h
      obtain ⟨rfl, rfl⟩ := h
      have hsz : i.size ≤ n := hn _ (by simp)
      obtain ⟨g1, g2⟩ := gets_ok get i.size 0
      have := loadVar_ok (P := P) (F := F) (H := H) (μ := μ) (w := w) (a := ⟨b, off, none⟩) ht g1 (fun l x e => by
        obtain ⟨q1, q2⟩ := g2 l x e
        obtain ⟨v, hv, hr⟩ := hc l (by omega)
        refine ⟨v, ?_, by rw [q2, Nat.zero_add]; exact RepF.toC H μ _ _ hr⟩
        rw [add_at]
        unfold Mem.cell at hv
        cases hf : F b with
        | none => simp [hf] at hv
        | some o =>
          rw [hf] at hv
          cases o with
          | cells c T fz => rw [cell_of_row w b _ c T fz (hw.fr b _ hf)]; exact hv
          | _ => simp at hv) hm
      obtain ⟨r, r1, r2⟩ := this
      exact ⟨r, by simpa [Instr.loadAt, Instr.sureAddr] using r1, r2⟩
  | _ => simp [loadK] at h

def fieldOff (Γ : Env) (t f : Nat) : Option Nat :=
  match Γ.at t with
  | some i => match i.td with
    | .strct fs => match getL fs f with
      | some x => some x.1
      | none => none
    | _ => none
  | none => none

theorem fieldOff_ok {P : Program} {Γ : Env} (hΓ : EnvOk P Γ) {t f o : Nat} (h : fieldOff Γ t f = some o) :
    ∃ fs x i, P.underlying t = some (.struct fs) ∧ fs[f]? = some x ∧ x.offset = o ∧ P.info? x.type = some i ∧ i.size ≠ 0 := by
  unfold fieldOff at h
  cases h1 : Γ.at t with
  | none => simp [h1] at h
  | some i =>
    simp only [h1] at h
    obtain ⟨d, h2, h3⟩ := (hΓ t i h1).und
    cases htd : i.td with
    | strct l =>
      simp only [htd] at h h3
      cases d with
      | struct fs =>
        obtain ⟨e1, e2⟩ := h3
        cases hg : getL l f with
        | none => simp [hg] at h
        | some x =>
          simp only [hg, Option.some.injEq] at h
          rw [getL_eq, e1, List.getElem?_map] at hg
          cases hf : fs.toList[f]? with
          | none => simp [hf] at hg
          | some y =>
            simp only [hf, Option.map_some, Option.some.injEq] at hg
            subst hg
            obtain ⟨j, j1, j2⟩ := e2 y (List.mem_of_getElem? hf)
            exact ⟨fs, y, j, h2, by simpa using hf, h, j1, j2⟩
      | _ => simp [tdOk] at h3
    | _ => simp [htd] at h

theorem fieldAt_ok {P : Program} {Γ : Env} (hΓ : EnvOk P Γ) {t f o : Nat} (h : fieldOff Γ t f = some o) (a : Addr) (w : World) :
    (Instr.fieldAt t (.pointer (some a)) f).run P w = .ok (.pointer (some (a.add o))) w := by
  obtain ⟨fs, x, i, h1, h2, h3, h4, h5⟩ := fieldOff_ok hΓ h
  unfold Instr.fieldAt
  rw [bind_ok (run_underlying h1 w)]
  simp only [h2]
  have hsz : (sizeOf x.type).run P w = .ok i.size w := by simp [sizeOf, typeInfo, h4]
  simp only [Instr.sureAddr, fieldPlace]
  simp [hsz, h5, h3]

/-- What an operation yields that changes nothing that is tracked. -/
def fieldK (o : Nat) : C → Option C
  | .ptr id off => some (.ptr id (off + o))
  | .ep id i j tot => some (.ep id i (j + o) tot)
  | .ip n get => some (.ip (n - o) fun j => get (o + j))
  | _ => none

theorem fieldK_ok {P : Program} {Γ : Env} (hΓ : EnvOk P Γ) {t f o : Nat} (h : fieldOff Γ t f = some o) {F : Mem} {H : List O} {μ : Nat → Value} (w : World) {p c : C} {v : Value}
    (hp : RepC F H μ p v) (hc : fieldK o p = some c) (hep : ∀ id i j tot, p = .ep id i j tot → ∀ e es n g, getL H id = some (.arr e es n g) → tot = n) :
    ∃ r, (Instr.fieldAt t v f).run P w = .ok r w ∧ RepC F H μ c r := by
  cases p with
  | ptr id off =>
    simp only [fieldK, Option.some.injEq] at hc
    subst hc
    obtain ⟨h1, b, h2, rfl⟩ := hp
    exact ⟨_, fieldAt_ok hΓ h _ w, h1, b, h2, by rw [add_at]⟩
  | ep id i j tot =>
    simp only [fieldK, Option.some.injEq] at hc
    subst hc
    obtain ⟨h0, e, es, n, g, h1, h2, h3⟩ := hp
    obtain ⟨b, cap, m1, m2, rfl⟩ := h3 (hep id i j tot rfl e es n g h1)
    exact ⟨_, fieldAt_ok hΓ h _ w, rfl, e, es, n, g, h1, h2, fun _ => ⟨b, cap, m1, m2, by rw [add_at, Nat.add_assoc]⟩⟩
  | ip n get =>
    simp only [fieldK, Option.some.injEq] at hc
    subst hc
    obtain ⟨b, off, rfl, hcs⟩ := hp
    refine ⟨_, fieldAt_ok hΓ h _ w, b, off + o, by rw [add_at], fun j hj => ?_⟩
    obtain ⟨x, h1, h2⟩ := hcs (o + j) (by omega)
    exact ⟨x, by rw [← h1]; congr 1; omega, h2⟩
  | _ => simp [fieldK] at hc

end Go.Am
end

section
/- THE ABSTRACT MACHINE, PART 4: the operations that change nothing that is tracked, all of them. -/
namespace Go.Am

def elemOf (Γ : Env) (t : Nat) : Option (Nat × TI) :=
  match Γ.at t with
  | some i => match i.td with
    | .slice e => match Γ.at e with
      | some j => some (e, j)
      | none => none
    | _ => none
  | none => none

theorem elemOf_ok {P : Program} {Γ : Env} (hΓ : EnvOk P Γ) {t e : Nat} {j : TI} (h : elemOf Γ t = some (e, j)) : P.underlying t = some (.slice e) ∧ TIok P e j := by
  unfold elemOf at h
  cases h1 : Γ.at t with
  | none => simp [h1] at h
  | some i =>
    simp only [h1] at h
    obtain ⟨d, h2, h3⟩ := (hΓ t i h1).und
    cases htd : i.td with
    | slice e' =>
      simp only [htd] at h h3
      cases h4 : Γ.at e' with
      | none => simp [h4] at h
      | some j' =>
        simp only [h4, Option.some.injEq, Prod.mk.injEq] at h
        obtain ⟨rfl, rfl⟩ := h
        cases d with
        | slice e'' => simp only [tdOk] at h3; subst h3; exact ⟨h2, hΓ _ _ h4⟩
        | _ => simp [tdOk] at h3
    | _ => simp [htd] at h

/-- The address of an element. -/
def indexK (te : TI) (H : List O) (x : C) (i : Int) : Option (List Prop × C) :=
  match x with
  | .isl es n get _ => match Nat.beq es te.size with
    | true => some ([0 ≤ i, i < n], .ip es fun j => get i.toNat j)
    | false => none
  | .sl id es len tot _ => match Nat.beq es te.size with
    | true => match getL H id with
      | some (.arr _ _ n _) => some ([0 ≤ i, i < len, tot = n], .ep id i.toNat 0 tot)
      | _ => none
    | false => none
  | _ => none

theorem indexK_ok {P : Program} {Γ : Env} (hΓ : EnvOk P Γ) {K : Keep} {F : Mem} {H : List O} {μ : Nat → Value} {w : World} (hw : HSat K F H μ w) {t e : Nat} {te : TI} (he : elemOf Γ t = some (e, te))
    {x c : C} {k : IntKind} {i : Int} {v : Value} {ns : List Prop} (hx : RepC F H μ x v) (h : indexK te H x i = some (ns, c)) (hn : ∀ q ∈ ns, q) :
    ∃ r, (Instr.indexAt t v (.int k i)).run P w = .ok r w ∧ RepC F H μ c r := by
  obtain ⟨hu, hte⟩ := elemOf_ok hΓ he
  have run : ∀ (a : Addr) (n cap : Nat), 0 ≤ i → i < n → (Instr.indexAt t (.slice (some a) n cap) (.int k i)).run P w = .ok (.pointer (some (a.add (i.toNat * te.size)))) w := by
    intro a n cap h0 h1
    have hs := sizeOf_ok hte w
    simp [Instr.indexAt, asIntOf, run_underlying hu, h0, h1, hs]
  cases x with
  | isl es n get tight =>
    simp only [indexK] at h
    cases hb : Nat.beq es te.size with
    | false => simp [hb] at h
    | true =>
      have hes : es = te.size := Nat.eq_of_beq_eq_true hb
      simp only [hb, Option.some.injEq, Prod.mk.injEq] at h
      obtain ⟨rfl, rfl⟩ := h
      have h0 : 0 ≤ i := hn _ (by simp)
      have h1 : i < n := hn _ (by simp)
      obtain ⟨a, cap, rfl, _, _, _, _, h4⟩ := hx
      rcases h4 with h4 | ⟨b, off, rfl, hc⟩
      · omega
      · refine ⟨_, run _ n cap h0 h1, b, off + i.toNat * es, by rw [add_at, hes], fun j hj => ?_⟩
        obtain ⟨x, x1, x2⟩ := hc i.toNat (by omega) j hj
        exact ⟨x, x1, x2⟩
  | sl id es len tot xq =>
    simp only [indexK] at h
    cases hb : Nat.beq es te.size with
    | false => simp [hb] at h
    | true =>
      have hes : es = te.size := Nat.eq_of_beq_eq_true hb
      simp only [hb] at h
      obtain ⟨_, e', n, g, h1, h2, h2', h3⟩ := hx
      simp only [h1, Option.some.injEq, Prod.mk.injEq] at h
      obtain ⟨rfl, rfl⟩ := h
      have h0 : 0 ≤ i := hn _ (by simp)
      have hl : i < len := hn _ (by simp)
      have ht : tot = n := hn _ (by simp)
      obtain ⟨a, cap, m1, rfl, _⟩ := h3 ht
      obtain ⟨xs, o1, _, _⟩ := hw.ob id _ h1
      rcases o1.2 with ⟨q1, q2⟩ | ⟨b, cap', cur, q1, _⟩
      · omega
      · rw [m1] at q1
        simp only [Value.slice.injEq, true_and] at q1
        obtain ⟨rfl, rfl⟩ := q1
        refine ⟨_, run _ len cap h0 hl, rfl, e', es, n, g, h1, h2, fun _ => ⟨b, cap, m1, by omega, ?_⟩⟩
        rw [add_at, hes]; simp
  | _ => simp [indexK] at h

/-- Part of a struct. -/
def fieldV (Γ : Env) (t f : Nat) (cs : List C) : Option S :=
  match Γ.at t with
  | some i => match i.td with
    | .strct fs => match getL fs f with
      | some x => match Γ.at x.2 with
        | some j => match cut cs x.1 j.size with
          | some xs => mkS j.agg xs
          | none => none
        | none => none
      | none => none
    | _ => none
  | none => none

theorem part_ok {P : Program} {F : Mem} {H : List O} {μ : Nat → Value} {t : Nat} {i : TI} (ht : TIok P t i) {cs : List C} {vs : Array Value} {off : Nat} {xs : List C} {s : S} (w : World)
    (hl : RepL F H μ cs vs) (hc : cut cs off i.size = some xs) (hs : mkS i.agg xs = some s) : ∃ r, (part t vs off).run P w = .ok r w ∧ RepS F H μ s r := by
  obtain ⟨e1, e2⟩ := cut_ok _ _ _ _ hc
  unfold part
  rw [bind_ok (isAgg_ok ht w)]
  cases ha : i.agg with
  | true =>
    rw [ha] at hs
    simp only [mkS, Option.some.injEq] at hs
    subst hs
    simp only [if_true]
    rw [bind_ok (sizeOf_ok ht w)]
    refine ⟨_, rfl, _, rfl, ?_, fun j x hx => ?_⟩
    · have hlen : off + i.size ≤ cs.length ∨ i.size = 0 := by
        by_cases h0 : i.size = 0
        · exact .inr h0
        · left
          have := e2 (i.size - 1) (xs[i.size - 1]'(by omega)) (by rw [getL_eq]; simp)
          rw [getL_eq] at this
          have := (List.getElem?_eq_some_iff.1 this).1
          omega
      have := hl.1
      simp only [Array.size_extract]
      omega
    · have hj : j < i.size := by rw [← e1]; rw [getL_eq] at hx; exact (List.getElem?_eq_some_iff.1 hx).1
      obtain ⟨v, v1, v2⟩ := hl.2 (off + j) x (e2 j x hx)
      have hlt : off + j < vs.size := (Array.getElem?_eq_some_iff.1 v1).1
      refine ⟨v, ?_, v2⟩
      rw [Array.getElem?_extract]
      rw [if_pos (by omega)]
      exact v1
  | false =>
    rw [ha] at hs
    match xs, hs, e1, e2 with
    | [x], hs, e1, e2 =>
      simp only [mkS, Option.some.injEq] at hs
      subst hs
      obtain ⟨v, v1, v2⟩ := hl.2 (off + 0) x (e2 0 x (by simp [getL]))
      rw [Nat.add_zero] at v1
      exact ⟨v, by simp [v1], v2⟩
    | [], hs, _, _ => simp [mkS] at hs
    | _ :: _ :: _, hs, _, _ => simp [mkS] at hs

theorem fieldV_ok {P : Program} {Γ : Env} (hΓ : EnvOk P Γ) {F : Mem} {H : List O} {μ : Nat → Value} {t f : Nat} {cs : List C} {vs : Array Value} {s : S} (w : World) (hl : RepL F H μ cs vs)
    (h : fieldV Γ t f cs = some s) : ∃ r, (Instr.field t (.agg vs) f).run P w = .ok r w ∧ RepS F H μ s r := by
  unfold fieldV at h
  cases h1 : Γ.at t with
  | none => simp [h1] at h
  | some i =>
    simp only [h1] at h
    obtain ⟨d, h2, h3⟩ := (hΓ t i h1).und
    cases htd : i.td with
    | strct l =>
      simp only [htd] at h h3
      cases d with
      | struct fs =>
        obtain ⟨e1, e2⟩ := h3
        cases hg : getL l f with
        | none => simp [hg] at h
        | some x =>
          simp only [hg] at h
          cases hj : Γ.at x.2 with
          | none => simp [hj] at h
          | some j =>
            simp only [hj] at h
            cases hc : cut cs x.1 j.size with
            | none => simp [hc] at h
            | some xs =>
              simp only [hc] at h
              rw [getL_eq, e1, List.getElem?_map] at hg
              cases hf : fs.toList[f]? with
              | none => simp [hf] at hg
              | some y =>
                simp only [hf, Option.map_some, Option.some.injEq] at hg
                subst hg
                obtain ⟨r, r1, r2⟩ := part_ok (hΓ _ _ hj) w hl hc h
                refine ⟨r, ?_, r2⟩
                unfold Instr.field
                rw [bind_ok (run_underlying h2 w)]
                have : fs[f]? = some y := by simpa using hf
                simp only [this]
                rw [bind_ok (show (asAgg (.agg vs)).run P w = .ok vs w from rfl)]
                exact r1
      | _ => simp [tdOk] at h3
    | _ => simp [htd] at h

/-- Cells put in from the off-th on. -/
def splice {α : Type} : List α → Nat → List α → Option (List α)
  | l, 0, [] => some l
  | [], 0, _ :: _ => none
  | _ :: r, 0, y :: ys => match splice r 0 ys with
    | some l => some (y :: l)
    | none => none
  | [], _ + 1, _ => none
  | x :: r, k + 1, ys => match splice r k ys with
    | some l => some (x :: l)
    | none => none

theorem splice_ok {α : Type} : ∀ (l : List α) (k : Nat) (ys r : List α), splice l k ys = some r →
    r.length = l.length ∧ k + ys.length ≤ l.length ∧ ∀ (j : Nat), getL r j = if k ≤ j ∧ j < k + ys.length then getL ys (j - k) else getL l j
  | l, 0, [], r, h => by
    have : r = l := by cases l <;> simp [splice] at h <;> first | exact h | exact h.symm
    subst this
    refine ⟨rfl, by simp, fun j => ?_⟩
    rw [if_neg (by simp)]
  | [], 0, _ :: _, r, h => by simp [splice] at h
  | x :: l, 0, y :: ys, r, h => by
    simp only [splice] at h
    cases hs : splice l 0 ys with
    | none => simp [hs] at h
    | some l' =>
      simp only [hs, Option.some.injEq] at h
      subst h
      obtain ⟨h1, h2, h3⟩ := splice_ok l 0 ys l' hs
      refine ⟨by simp [h1], by simp at h2 ⊢; omega, fun j => ?_⟩
      cases j with
      | zero => simp [getL]
      | succ j =>
        simp only [getL, h3 j, List.length_cons]
        by_cases hj : j < ys.length
        · rw [if_pos (by omega), if_pos (by omega)]; simp [getL]
        · rw [if_neg (by omega), if_neg (by omega)]
  | [], k + 1, ys, r, h => by simp [splice] at h
  | x :: l, k + 1, ys, r, h => by
    simp only [splice] at h
    cases hs : splice l k ys with
    | none => simp [hs] at h
    | some l' =>
      simp only [hs, Option.some.injEq] at h
      subst h
      obtain ⟨h1, h2, h3⟩ := splice_ok l k ys l' hs
      refine ⟨by simp [h1], by simp; omega, fun j => ?_⟩
      cases j with
      | zero => simp [getL]
      | succ j =>
        simp only [getL, h3 j]
        by_cases hj : k ≤ j ∧ j < k + ys.length
        · rw [if_pos hj, if_pos (by omega)]; congr 1; omega
        · rw [if_neg hj, if_neg (by omega)]

def S.cells : S → Option (List C)
  | .c x => some [x]
  | .a xs => some xs
  | _ => none

theorem cells_ok {F : Mem} {H : List O} {μ : Nat → Value} {s : S} {v : Value} {xs : List C} (hs : RepS F H μ s v) (h : s.cells = some xs) : RepL F H μ xs v.cells := by
  cases s with
  | c x =>
    simp only [S.cells, Option.some.injEq] at h
    subst h
    have h1 := RepC.one x v hs
    have : v.cells = #[v] := by cases v <;> first | rfl | (simp [Value.oneCell'] at h1)
    rw [this]
    refine ⟨rfl, fun j y hy => ?_⟩
    cases j with
    | zero => simp [getL] at hy; subst hy; exact ⟨v, rfl, hs⟩
    | succ j => simp [getL] at hy
  | a l =>
    simp only [S.cells, Option.some.injEq] at h
    subst h
    obtain ⟨cs, rfl, hl⟩ := hs
    exact hl
  | _ => simp [S.cells] at h

theorem RepL.splice {F : Mem} {H : List O} {μ : Nat → Value} {l ys r : List C} {k : Nat} {cs vs : Array Value} (hl : RepL F H μ l cs) (hy : RepL F H μ ys vs) (h : splice l k ys = some r) :
    RepL F H μ r (vs.zipIdx.foldl (fun cs (c, j) => cs.setIfInBounds (k + j) c) cs) := by
  obtain ⟨h1, h2, h3⟩ := splice_ok l k ys r h
  have key : ∀ (us : List Value) (m : Nat) (cs : Array Value), k + m + us.length ≤ cs.size →
      ((us.zipIdx m).foldl (fun cs (c, j) => cs.setIfInBounds (k + j) c) cs).size = cs.size ∧
      ∀ q : Nat, ((us.zipIdx m).foldl (fun cs (c, j) => cs.setIfInBounds (k + j) c) cs)[q]? = if k + m ≤ q ∧ q < k + m + us.length then us[q - (k + m)]? else cs[q]? := by
    intro us
    induction us with
    | nil => intro m cs _; exact ⟨rfl, fun q => by simp; omega⟩
    | cons u us ih =>
      intro m cs hm
      simp only [List.length_cons] at hm
      rw [List.zipIdx_cons, List.foldl_cons]
      obtain ⟨i1, i2⟩ := ih (m + 1) (cs.setIfInBounds (k + m) u) (by rw [Array.size_setIfInBounds]; omega)
      refine ⟨by rw [i1]; simp, fun q => ?_⟩
      rw [i2 q]
      simp only [List.length_cons]
      by_cases c1 : k + m = q
      · subst c1
        have hlt : k + m < cs.size := by omega
        rw [if_neg (by omega), if_pos (by omega)]
        simp [hlt]
      · by_cases c2 : k + m ≤ q ∧ q < k + m + (us.length + 1)
        · rw [if_pos (by omega), if_pos c2]
          rw [show q - (k + m) = (q - (k + (m + 1))) + 1 by omega]
          simp
        · rw [if_neg (by omega), if_neg c2, Array.getElem?_setIfInBounds_ne c1]
  have hz : vs.zipIdx.foldl (fun cs (c, j) => cs.setIfInBounds (k + j) c) cs = (vs.toList.zipIdx 0).foldl (fun cs (c, j) => cs.setIfInBounds (k + j) c) cs := by
    rw [← Array.foldl_toList, Array.toList_zipIdx]
  have hsz : k + vs.size ≤ cs.size := by rw [hl.1, hy.1]; exact h2
  obtain ⟨z1, z2⟩ := key vs.toList 0 cs (by simp; exact hsz)
  rw [hz]
  refine ⟨by rw [z1, hl.1, h1], fun j x hx => ?_⟩
  rw [h3 j] at hx
  rw [z2 j]
  have hys := hy.1
  simp only [Nat.add_zero, Array.length_toList]
  by_cases c : k ≤ j ∧ j < k + ys.length
  · rw [if_pos c] at hx
    rw [if_pos (by omega)]
    obtain ⟨v, v1, v2⟩ := hy.2 _ x hx
    exact ⟨v, by simpa using v1, v2⟩
  · rw [if_neg c] at hx
    rw [if_neg (by omega)]
    exact hl.2 j x hx

end Go.Am
end

section
/- THE ABSTRACT MACHINE, PART 5: literals, slices, conversions. -/
namespace Go.Am

def zeroL (i : TI) : List C := i.zero.map Z.toC

theorem zC_ok {F : Mem} {H : List O} {μ : Nat → Value} (z : Z) : RepC F H μ z.toC z.toV := by
  cases z <;> first | rfl | skip
  · exact ⟨rfl, by unfold maxLen; exact Nat.zero_le _⟩

theorem zeroL_ok {P : Program} {F : Mem} {H : List O} {μ : Nat → Value} {t : Nat} {i : TI} (ht : TIok P t i) (w : World) :
    ∃ z, (zeroValue t).run P w = .ok z w ∧ RepL F H μ (zeroL i) z.cells ∧ (∃ x, P.info? t = some x ∧ x.zero = some z) := by
  obtain ⟨x, h1, _, _, z, h3, h4⟩ := ht.info
  refine ⟨z, by simp [zeroValue, typeInfo, h1, h3], ⟨?_, fun j c hc => ?_⟩, x, h1, h3⟩
  · rw [← Array.length_toList, h4]; simp [zeroL]
  · rw [getL_eq] at hc
    simp only [zeroL, List.getElem?_map] at hc
    cases hz : i.zero[j]? with
    | none => simp [hz] at hc
    | some y =>
      simp only [hz, Option.map_some, Option.some.injEq] at hc
      subst hc
      refine ⟨y.toV, ?_, zC_ok y⟩
      rw [← Array.getElem?_toList, h4]
      simp [hz]

/-- A struct literal's fields. -/
def buildF (Γ : Env) (fs : List (Nat × Nat)) (ts : Ts) : List (Nat × Operand) → List C → Option (List C)
  | [], cells => some cells
  | (i, x) :: r, cells => match getL fs i with
    | some f => match Γ.at f.2 with
      | some j => match (opnd ts x).cells with
        | some ys => match Nat.beq ys.length j.size with
          | true => match splice cells f.1 ys with
            | some cells' => buildF Γ fs ts r cells'
            | none => none
          | false => none
        | none => none
      | none => none
    | none => none

def buildV (Γ : Env) (ts : Ts) (t : Nat) (parts : List (Nat × Operand)) : Option S :=
  match Γ.at t with
  | some i => match i.td with
    | .strct fs => match buildF Γ fs ts parts (zeroL i) with
      | some cs => some (.a cs)
      | none => none
    | _ => none
  | none => none

theorem buildF_ok {P : Program} {Γ : Env} (hΓ : EnvOk P Γ) {F : Mem} {H : List O} {μ : Nat → Value} {ts : Ts} {a : Act} (hT : TSat F H μ ts a.tmps) (fields : List Field) (fs : List (Nat × Nat))
    (hf : fs = fields.map fun f => (f.offset, f.type)) (places : List (Nat × Nat)) (hp : fields.mapM (fun f => (P.info? f.type).map fun i => (f.offset, i.size)) = some places) :
    ∀ (parts : List (Nat × Operand)) (cells : List C) (r : List C) (vs : Array Value), buildF Γ fs ts parts cells = some r → RepL F H μ cells vs →
      ∃ us, Instr.fill (places.toArray[·]?) vs (parts.map fun x => (x.1, a.eval x.2)) = some us ∧ RepL F H μ r us := by
  have hpl : ∀ (i : Nat) (f : Nat × Nat) (j : TI), getL fs i = some f → Γ.at f.2 = some j → places[i]? = some (f.1, j.size) := by
    intro i f j h1 h2
    rw [getL_eq, hf, List.getElem?_map] at h1
    cases hy : fields[i]? with
    | none => simp [hy] at h1
    | some y =>
      simp only [hy, Option.map_some, Option.some.injEq] at h1
      subst h1
      obtain ⟨x, x1, x2, _⟩ := (hΓ _ _ h2).info
      have key : ∀ (l : List Field) (p : List (Nat × Nat)) (i : Nat), l.mapM (fun f => (P.info? f.type).map fun i => (f.offset, i.size)) = some p → l[i]? = some y → p[i]? = some (y.offset, j.size) := by
        intro l
        induction l with
        | nil => intro p i _ h; simp at h
        | cons z l ih =>
          intro p i hm hi
          simp only [List.mapM_cons, Option.bind_eq_bind, Option.pure_def] at hm
          cases hz : P.info? z.type with
          | none => simp [hz] at hm
          | some iz =>
            cases hr : l.mapM (fun f => (P.info? f.type).map fun i => (f.offset, i.size)) with
            | none => simp [hz, hr] at hm
            | some p' =>
              simp [hz, hr] at hm
              subst hm
              cases i with
              | zero =>
                simp at hi
                subst hi
                rw [x1] at hz
                cases hz
                simp [x2]
              | succ i => simp at hi ⊢; exact ih p' i hr hi
      exact key fields places i hp hy
  intro parts
  induction parts with
  | nil => intro cells r vs h hl; simp only [buildF, Option.some.injEq] at h; subst h; exact ⟨vs, rfl, hl⟩
  | cons p parts ih =>
    obtain ⟨i, x⟩ := p
    intro cells r vs h hl
    simp only [buildF] at h
    cases h1 : getL fs i with
    | none => simp [h1] at h
    | some f =>
      cases h2 : Γ.at f.2 with
      | none => simp [h1, h2] at h
      | some j =>
        cases h3 : (opnd ts x).cells with
        | none => simp [h1, h2, h3] at h
        | some ys =>
          cases h4 : Nat.beq ys.length j.size with
          | false => simp only [h1, h2, h3, h4] at h; cases h
          | true =>
            cases h5 : splice cells f.1 ys with
            | none => simp only [h1, h2, h3, h4, h5] at h; cases h
            | some cells' =>
              simp only [h1, h2, h3, h4, h5] at h
              have hys := cells_ok (opnd_ok hT x) h3
              obtain ⟨us, u1, u2⟩ := ih cells' r _ h (hl.splice hys h5)
              have hsz : (a.eval x).cells.size = j.size := by rw [hys.1]; exact Nat.eq_of_beq_eq_true h4
              have hfit := (splice_ok _ _ _ _ h5).2.1
              refine ⟨us, ?_, u2⟩
              simp only [List.map_cons, Instr.fill]
              have := hpl i f j h1 h2
              simp only [List.getElem?_toArray, this]
              rw [if_neg]
              · simpa using u1
              · have q1 := hl.1
                have q2 := hys.1
                simp [hsz]
                omega

theorem buildV_ok {P : Program} {Γ : Env} (hΓ : EnvOk P Γ) {F : Mem} {H : List O} {μ : Nat → Value} {ts : Ts} {a : Act} (hT : TSat F H μ ts a.tmps) {t : Nat} {parts : Array (Nat × Operand)} {s : S} (w : World)
    (h : buildV Γ ts t parts.toList = some s) : ∃ r, (Instr.build t (parts.map fun (i, x) => (i, a.eval x))).run P w = .ok r w ∧ RepS F H μ s r := by
  unfold buildV at h
  cases h1 : Γ.at t with
  | none => simp [h1] at h
  | some i =>
    simp only [h1] at h
    have hti := hΓ t i h1
    obtain ⟨d, h2, h3⟩ := hti.und
    cases htd : i.td with
    | strct fs =>
      simp only [htd] at h h3
      cases d with
      | struct fields =>
        obtain ⟨e1, e2⟩ := h3
        cases hb : buildF Γ fs ts parts.toList (zeroL i) with
        | none => simp [hb] at h
        | some cs =>
          simp only [hb, Option.some.injEq] at h
          subst h
          obtain ⟨z, z1, z2, x, x1, x2⟩ := zeroL_ok (F := F) (H := H) (μ := μ) hti w
          have hm : ∃ places, fields.toList.mapM (fun f => (P.info? f.type).map fun i => (f.offset, i.size)) = some places := by
            have : ∀ l : List Field, (∀ f ∈ l, ∃ i, P.info? f.type = some i ∧ i.size ≠ 0) → ∃ places, l.mapM (fun f => (P.info? f.type).map fun i => (f.offset, i.size)) = some places := by
              intro l
              induction l with
              | nil => intro _; exact ⟨[], rfl⟩
              | cons f l ih =>
                intro hl
                obtain ⟨i, i1, _⟩ := hl f (by simp)
                obtain ⟨p, hp⟩ := ih (fun g hg => hl g (by simp [hg]))
                exact ⟨(f.offset, i.size) :: p, by simp [List.mapM_cons, i1, hp]⟩
            exact this _ e2
          obtain ⟨places, hp⟩ := hm
          obtain ⟨us, u1, u2⟩ := buildF_ok hΓ hT fields.toList fs e1 places hp parts.toList (zeroL i) cs z.cells hb z2
          refine ⟨.agg us, run_build w t _ us ?_, us, rfl, u2⟩
          unfold Program.built
          simp only [x1, h2, x2, hp]
          simpa using u1
      | _ => simp [tdOk] at h3
    | _ => simp [htd] at h

def optInt (ts : Ts) : Option Operand → Option (Option Int)
  | none => some none
  | some x => match opnd ts x with
    | .c (.int _ n) => some (some n)
    | _ => none

/-- A part of a slice or of a string. -/
def sliceK (x : C) (lo hi mx : Option Int) : Option (List Prop × C) :=
  match x with
  | .isl es n get tight => match mx with
    | none => match lo with
      | none => match hi with
        | none => some ([], .isl es n get tight)
        | some h => some ([0 ≤ h, h ≤ n], .isl es h.toNat get false)
      | some l => match hi with
        | none => some ([0 ≤ l, l ≤ n], .isl es (n - l.toNat) (fun i j => get (l.toNat + i) j) false)
        | some h => some ([0 ≤ l, l ≤ h, h ≤ n], .isl es (h.toNat - l.toNat) (fun i j => get (l.toNat + i) j) false)
    | some m => match lo with
      | none => match hi with
        | none => none
        | some h => some ([0 ≤ h, h ≤ n, m = h], .isl es h.toNat get true)
      | some l => match hi with
        | none => none
        | some h => some ([0 ≤ l, l ≤ h, h ≤ n, m = h], .isl es (h.toNat - l.toNat) (fun i j => get (l.toNat + i) j) true)
  | .str s => match mx with
    | some _ => none
    | none => match lo with
      | none => match hi with
        | none => some ([], .str s)
        | some h => some ([0 ≤ h, h ≤ s.size], .str (s.extract 0 h.toNat))
      | some l => match hi with
        | none => some ([0 ≤ l, l ≤ s.size], .str (s.extract l.toNat s.size))
        | some h => some ([0 ≤ l, l ≤ h, h ≤ s.size], .str (s.extract l.toNat h.toNat))
  | _ => none

theorem isl_part {F : Mem} {es n : Nat} {get : Nat → Nat → C} {tight : Bool} {a : Option Addr} {cap : Nat} (hx : RepF F (.isl es n get tight) (.slice a n cap)) (l h m : Nat) (tight' : Bool)
    (h1 : l ≤ h) (h2 : h ≤ n) (h3 : h ≤ m) (_h4 : m ≤ cap) (ht : tight' = true → m = h) (get' : Nat → Nat → C) (hg : ∀ i j, get' i j = get (l + i) j) :
    RepF F (.isl es (h - l) get' tight') (sliced a l h m es) := by
  obtain ⟨a', cap', e, q1, q2, q3, q3', q4⟩ := hx
  cases e
  refine ⟨_, _, rfl, by omega, by omega, fun e => by have := ht e; omega, fun e => ?_, ?_⟩
  · by_cases c : m = l
    · omega
    · rw [if_neg c] at e
      cases a with
      | none => have := q3' rfl; omega
      | some a => simp at e
  by_cases h0 : h - l = 0
  · exact .inl h0
  · right
    rcases q4 with q4 | ⟨b, off, rfl, hc⟩
    · omega
    · rw [if_neg (by omega)]
      refine ⟨b, off + l * es, by simp [add_at], fun i hi j hj => ?_⟩
      obtain ⟨x, x1, x2⟩ := hc (l + i) (by omega) j hj
      refine ⟨x, ?_, by rw [hg]; exact x2⟩
      rw [← x1]; congr 1; rw [Nat.add_mul]; omega

def kindI : Option Int → Option Value → Prop
  | none, none => True
  | some n, some v => ∃ k, v = .int k n
  | _, _ => False

/-- What is sliced is of the slice's type. -/
def sliceT (P : Program) (Γ : Env) (t : Nat) : C → Prop
  | .isl es _ _ _ => ∃ e te, elemOf Γ t = some (e, te) ∧ es = te.size
  | _ => P.underlying t = some .string

theorem sliceK_ok {P : Program} {Γ : Env} (hΓ : EnvOk P Γ) {F : Mem} {H : List O} {μ : Nat → Value} (w : World) {t : Nat} {x c : C} {lo hi mx : Option Int} {vlo vhi vmx : Option Value} {v : Value} {ns : List Prop}
    (hx : RepC F H μ x v) (h : sliceK x lo hi mx = some (ns, c)) (hn : ∀ q ∈ ns, q) (hlo : kindI lo vlo) (hhi : kindI hi vhi) (hmx : kindI mx vmx)
    (ht : sliceT P Γ t x) :
    ∃ r, (Instr.sliceAt t v vlo vhi vmx).run P w = .ok r w ∧ RepC F H μ c r := by
  cases x with
  | isl es n get tight =>
    obtain ⟨e, te, he, hes⟩ := ht
    obtain ⟨hu, hte⟩ := elemOf_ok hΓ he
    have hel : P.elem t = e := by simp [Program.elem, hu]
    have hu' : P.underlying t = some (.slice (P.elem t)) := by rw [hel]; exact hu
    have hsz : (sizeOf (P.elem t)).run P w = .ok es w := by rw [hel, hes]; exact sizeOf_ok hte w
    have hx' := hx
    obtain ⟨a, cap, rfl, q1, q2, q3, q3', q4⟩ := hx'
    rw [run_sliceAt_slice w t _ _ _ _ hu']
    cases mx with
    | none =>
      cases vmx with
      | some _ => exact hmx.elim
      | none =>
      cases lo with
      | none =>
        cases vlo with
        | some _ => exact hlo.elim
        | none =>
        cases hi with
        | none =>
          cases vhi with
          | some _ => exact hhi.elim
          | none =>
          simp only [sliceK, Option.some.injEq, Prod.mk.injEq] at h
          obtain ⟨rfl, rfl⟩ := h
          rw [run_slice_all w t a n cap hu', hsz]
          refine ⟨_, rfl, RepF.toC H μ _ _ ?_⟩
          have := isl_part (F := F) hx 0 n cap tight (by omega) (by omega) q2 (by omega) q3 get (fun i j => by simp)
          simpa using this
        | some hh =>
          cases vhi with
          | none => exact hhi.elim
          | some vh =>
          obtain ⟨k, rfl⟩ := hhi
          simp only [sliceK, Option.some.injEq, Prod.mk.injEq] at h
          obtain ⟨rfl, rfl⟩ := h
          have c0 : 0 ≤ hh := hn _ (by simp)
          have c1 : hh ≤ n := hn _ (by simp)
          rw [run_slice_h w t a n cap hu' k hh c0 (by omega), hsz]
          refine ⟨_, rfl, RepF.toC H μ _ _ ?_⟩
          have := isl_part (F := F) hx 0 hh.toNat cap false (by omega) (by omega) (by omega) (by omega) (by simp) get (fun i j => by simp)
          simpa using this
      | some ll =>
        cases vlo with
        | none => exact hlo.elim
        | some vl =>
        obtain ⟨kl, rfl⟩ := hlo
        cases hi with
        | none =>
          cases vhi with
          | some _ => exact hhi.elim
          | none =>
          simp only [sliceK, Option.some.injEq, Prod.mk.injEq] at h
          obtain ⟨rfl, rfl⟩ := h
          have c0 : 0 ≤ ll := hn _ (by simp)
          have c1 : ll ≤ n := hn _ (by simp)
          rw [run_slice_l w t a n cap hu' kl ll c0 (by omega), hsz]
          refine ⟨_, rfl, RepF.toC H μ _ _ ?_⟩
          exact isl_part (F := F) hx ll.toNat n cap false (by omega) (by omega) (by omega) (by omega) (by simp) _ (fun i j => rfl)
        | some hh =>
          cases vhi with
          | none => exact hhi.elim
          | some vh =>
          obtain ⟨k, rfl⟩ := hhi
          simp only [sliceK, Option.some.injEq, Prod.mk.injEq] at h
          obtain ⟨rfl, rfl⟩ := h
          have c0 : 0 ≤ ll := hn _ (by simp)
          have c1 : ll ≤ hh := hn _ (by simp)
          have c2 : hh ≤ n := hn _ (by simp)
          rw [run_slice_lh w t a n cap hu' kl k ll hh c0 c1 (by omega), hsz]
          refine ⟨_, rfl, RepF.toC H μ _ _ ?_⟩
          exact isl_part (F := F) hx ll.toNat hh.toNat cap false (by omega) (by omega) (by omega) (by omega) (by simp) _ (fun i j => rfl)
    | some m =>
      cases vmx with
      | none => exact hmx.elim
      | some vm =>
      obtain ⟨km, rfl⟩ := hmx
      cases lo with
      | none =>
        cases vlo with
        | some _ => exact hlo.elim
        | none =>
        cases hi with
        | none => simp [sliceK] at h
        | some hh =>
          cases vhi with
          | none => exact hhi.elim
          | some vh =>
          obtain ⟨k, rfl⟩ := hhi
          simp only [sliceK, Option.some.injEq, Prod.mk.injEq] at h
          obtain ⟨rfl, rfl⟩ := h
          have c0 : 0 ≤ hh := hn _ (by simp)
          have c1 : hh ≤ n := hn _ (by simp)
          have c2 : m = hh := hn _ (by simp)
          subst c2
          rw [run_slice_hm w t a n cap hu' k km m m c0 (by omega) (by omega), hsz]
          refine ⟨_, rfl, RepF.toC H μ _ _ ?_⟩
          have := isl_part (F := F) hx 0 m.toNat m.toNat true (by omega) (by omega) (by omega) (by omega) (by simp) get (fun i j => by simp)
          simpa using this
      | some ll =>
        cases vlo with
        | none => exact hlo.elim
        | some vl =>
        obtain ⟨kl, rfl⟩ := hlo
        cases hi with
        | none => simp [sliceK] at h
        | some hh =>
          cases vhi with
          | none => exact hhi.elim
          | some vh =>
          obtain ⟨k, rfl⟩ := hhi
          simp only [sliceK, Option.some.injEq, Prod.mk.injEq] at h
          obtain ⟨rfl, rfl⟩ := h
          have c0 : 0 ≤ ll := hn _ (by simp)
          have c1 : ll ≤ hh := hn _ (by simp)
          have c2 : hh ≤ n := hn _ (by simp)
          have c3 : m = hh := hn _ (by simp)
          subst c3
          rw [run_slice_lhm w t a n cap hu' kl k km ll m m c0 c1 (by omega) (by omega), hsz]
          refine ⟨_, rfl, RepF.toC H μ _ _ ?_⟩
          exact isl_part (F := F) hx ll.toNat m.toNat m.toNat true (by omega) (by omega) (by omega) (by omega) (by simp) _ (fun i j => rfl)
  | str s =>
    have hu : P.underlying t = some .string := ht
    obtain ⟨rfl, hs⟩ := hx
    have bound : ∀ l h : Nat, (s.extract l h).size ≤ maxLen := by intro l h; simp [ByteArray.size_extract]; omega
    rw [run_sliceAt_string w t _ _ _ _ hu]
    cases mx with
    | some _ => simp [sliceK] at h
    | none =>
      cases vmx with
      | some _ => exact hmx.elim
      | none =>
      cases lo with
      | none =>
        cases vlo with
        | some _ => exact hlo.elim
        | none =>
        cases hi with
        | none =>
          cases vhi with
          | some _ => exact hhi.elim
          | none =>
          simp only [sliceK, Option.some.injEq, Prod.mk.injEq] at h
          obtain ⟨rfl, rfl⟩ := h
          refine ⟨.string (s.extract 0 s.size), by simp [Instr.slice, run_underlying hu, Instr.sliceBounds], ?_, hs⟩
          simp
        | some hh =>
          cases vhi with
          | none => exact hhi.elim
          | some vh =>
          obtain ⟨k, rfl⟩ := hhi
          simp only [sliceK, Option.some.injEq, Prod.mk.injEq] at h
          obtain ⟨rfl, rfl⟩ := h
          have c0 : 0 ≤ hh := hn _ (by simp)
          have c1 : hh ≤ s.size := hn _ (by simp)
          exact ⟨.string (s.extract 0 hh.toNat), by simp [Instr.slice, run_underlying hu, Instr.sliceBounds, run_sliceBound, c0, c1], rfl, bound _ _⟩
      | some ll =>
        cases vlo with
        | none => exact hlo.elim
        | some vl =>
        obtain ⟨kl, rfl⟩ := hlo
        cases hi with
        | none =>
          cases vhi with
          | some _ => exact hhi.elim
          | none =>
          simp only [sliceK, Option.some.injEq, Prod.mk.injEq] at h
          obtain ⟨rfl, rfl⟩ := h
          have c0 : 0 ≤ ll := hn _ (by simp)
          have c1 : ll ≤ s.size := hn _ (by simp)
          exact ⟨.string (s.extract ll.toNat s.size), by simp [Instr.slice, run_underlying hu, Instr.sliceBounds, run_sliceBound, c0, c1], rfl, bound _ _⟩
        | some hh =>
          cases vhi with
          | none => exact hhi.elim
          | some vh =>
          obtain ⟨k, rfl⟩ := hhi
          simp only [sliceK, Option.some.injEq, Prod.mk.injEq] at h
          obtain ⟨rfl, rfl⟩ := h
          have c0 : 0 ≤ ll := hn _ (by simp)
          have c1 : ll ≤ hh := hn _ (by simp)
          have c2 : hh ≤ s.size := hn _ (by simp)
          have c3 : 0 ≤ hh := by omega
          have eh : (hh.toNat : Int) = hh := Int.toNat_of_nonneg (by omega)
          exact ⟨.string (s.extract ll.toNat hh.toNat), by simp [Instr.slice, run_underlying hu, Instr.sliceBounds, run_sliceBound, c0, c1, c2, c3, eh], rfl, bound _ _⟩
  | _ => simp [sliceK] at h

def byteC : C → UInt8
  | .int _ n => UInt8.ofNat n.toNat
  | _ => 0

def bytesOf (n : Nat) (get : Nat → Nat → C) : ByteArray := ⟨((List.range n).map fun i => byteC (get i 0)).toArray⟩

end Go.Am
end

section
/- THE ABSTRACT MACHINE, PART 6: 'val': what an operation yields that changes nothing that is tracked. -/
namespace Go.Am

def lget (xs : List C) : Nat → C := fun j => match getL xs j with
  | some x => x
  | none => .junk

def opndCs (ts : Ts) : List Operand → Option (List C)
  | [] => some []
  | x :: r => match opnd ts x with
    | .c c => match opndCs ts r with
      | some l => some (c :: l)
      | none => none
    | _ => none

theorem opndCs_ok {F : Mem} {H : List O} {μ : Nat → Value} {ts : Ts} {a : Act} (hT : TSat F H μ ts a.tmps) : ∀ (xs : List Operand) (cs : List C), opndCs ts xs = some cs →
    cs.length = xs.length ∧ ∀ (j : Nat) x, getL cs j = some x → ∃ v, (xs.map a.eval)[j]? = some v ∧ RepC F H μ x v
  | [], cs, h => by simp [opndCs] at h; subst h; simp [getL]
  | x :: r, cs, h => by
    simp only [opndCs] at h
    have hx := opnd_ok hT x
    cases ho : opnd ts x with
    | c c =>
      cases hr : opndCs ts r with
      | none => simp [ho, hr] at h
      | some l =>
        simp only [ho, hr, Option.some.injEq] at h
        subst h
        obtain ⟨h1, h2⟩ := opndCs_ok hT r l hr
        rw [ho] at hx
        refine ⟨by simp [h1], fun j y hy => ?_⟩
        cases j with
        | zero => simp [getL] at hy; subst hy; exact ⟨_, by simp, hx⟩
        | succ j => simp only [getL] at hy; simpa using h2 j y hy
    | _ => simp [ho] at h

/-- The type of the operands of '==' on bools. -/
def isBoolT (Γ : Env) (t : Nat) : Bool :=
  match Γ.at t with
  | some i => match i.td with
    | .bool => true
    | _ => false
  | none => false

def isStrT (Γ : Env) (t : Nat) : Bool :=
  match Γ.at t with
  | some i => match i.td with
    | .str => true
    | _ => false
  | none => false

def isIntT (Γ : Env) (t : Nat) : Option IntKind :=
  match Γ.at t with
  | some i => match i.td with
    | .int k => some k
    | _ => none
  | none => none

theorem isBoolT_ok {P : Program} {Γ : Env} (hΓ : EnvOk P Γ) {t : Nat} (h : isBoolT Γ t = true) : P.underlying t = some .bool := by
  unfold isBoolT at h
  cases h1 : Γ.at t with
  | none => simp [h1] at h
  | some i =>
    obtain ⟨d, h2, h3⟩ := (hΓ t i h1).und
    cases htd : i.td <;> simp [h1, htd] at h
    rw [htd] at h3
    cases d <;> simp [tdOk] at h3
    exact h2

theorem isStrT_ok {P : Program} {Γ : Env} (hΓ : EnvOk P Γ) {t : Nat} (h : isStrT Γ t = true) : P.underlying t = some .string := by
  unfold isStrT at h
  cases h1 : Γ.at t with
  | none => simp [h1] at h
  | some i =>
    obtain ⟨d, h2, h3⟩ := (hΓ t i h1).und
    cases htd : i.td <;> simp [h1, htd] at h
    rw [htd] at h3
    cases d <;> simp [tdOk] at h3
    exact h2

theorem isIntT_ok {P : Program} {Γ : Env} (hΓ : EnvOk P Γ) {t : Nat} {k : IntKind} (h : isIntT Γ t = some k) : P.underlying t = some (.int k) := by
  unfold isIntT at h
  cases h1 : Γ.at t with
  | none => simp [h1] at h
  | some i =>
    obtain ⟨d, h2, h3⟩ := (hΓ t i h1).und
    cases htd : i.td <;> simp [h1, htd] at h
    rw [htd] at h3
    cases d <;> simp [tdOk] at h3
    subst h3; subst h
    exact h2

def unC (op : UnOp) (x : C) : Option C :=
  match x with
  | .bool b => match op with
    | .not => some (.bool !b)
    | _ => none
  | .int k n => match op with
    | .neg => some (.int k (k.wrap (0 - n)))
    | .xor => some (.int k (k.wrap (BitVec.ofInt k.bits (if k.signed then -1 else k.max) ^^^ BitVec.ofInt k.bits n).toNat))
    | _ => none
  | _ => none

theorem unC_ok {op : UnOp} {x c : C} {F : Mem} {H : List O} {μ : Nat → Value} {P : Program} (w : World) {v : Value} (h : unC op x = some c) (hx : RepC F H μ x v) :
    ∃ r, (Op.unary op v).run P w = .ok r w ∧ RepC F H μ c r := by
  cases x with
  | bool b =>
    rw [show v = _ from hx]
    cases op <;> simp only [unC, Option.some.injEq, reduceCtorEq] at h
    subst h
    exact ⟨_, rfl, rfl⟩
  | int k n =>
    rw [show v = _ from hx]
    cases op <;> simp only [unC, Option.some.injEq, reduceCtorEq] at h
    all_goals
      subst h
      exact ⟨_, rfl, rfl⟩
  | _ => simp [unC] at h

/-- One of two values. -/
def pickC (b : Bool) (x y : C) : Option C :=
  match x with
  | .bool u => match y with
    | .bool v => some (.bool (cond b u v))
    | _ => none
  | .int k u => match y with
    | .int k' v => match decide (k = k') with
      | true => some (.int k (cond b u v))
      | false => none
    | _ => none
  | .str u => match y with
    | .str v => some (.str (cond b u v))
    | _ => none
  | _ => none

theorem pickC_ok {b : Bool} {x y c : C} {F : Mem} {H : List O} {μ : Nat → Value} {u v : Value} (h : pickC b x y = some c) (hx : b = true → RepC F H μ x u) (hy : b = false → RepC F H μ y v) :
    RepC F H μ c (if b then u else v) := by
  cases x <;> cases y <;> simp only [pickC, Option.some.injEq, reduceCtorEq] at h
  · subst h
    cases b
    · exact hy rfl
    · exact hx rfl
  · rename_i k m k' m'
    by_cases hk : k = k'
    · subst hk
      simp only [decide_true, Option.some.injEq] at h
      subst h
      cases b
      · exact hy rfl
      · exact hx rfl
    · simp [hk] at h
  · subst h
    cases b
    · exact hy rfl
    · exact hx rfl

/-- The address of a field; an element's address must be fresh. -/
def fieldN (H : List O) : C → Option (List Prop)
  | .ep id _ _ tot => match getL H id with
    | some (.arr _ _ n _) => some [tot = n]
    | _ => none
  | _ => some []

def lenC : C → Option Nat
  | .str s => some s.size
  | .isl _ n _ _ => some n
  | .sl _ _ len _ _ => some len
  | .nils => some 0
  | _ => none

def convC (Γ : Env) (src dst : Nat) (H : List O) (x : C) : Option (List Prop × C) :=
  match x with
  | .int _ n => match isIntT Γ src with
    | some _ => match isIntT Γ dst with
      | some k' => some ([], .int k' (k'.wrap n))
      | none => none
    | none => none
  | .isl es n get _ => match elemOf Γ src with
    | some (e, _) => match isIntT Γ e with
      | some .u8 => match isStrT Γ dst with
        | true => match Nat.beq es 1 with
          | true => some ([∀ i, i < n → ∃ v, get i 0 = .int .u8 v], .str (bytesOf n get))
          | false => none
        | false => none
      | _ => none
    | none => none
  | .sl id es len tot _ => match elemOf Γ src with
    | some (e, _) => match isIntT Γ e with
      | some .u8 => match isStrT Γ dst with
        | true => match Nat.beq es 1 with
          | true => match getL H id with
            | some (.arr _ _ n get) => some ([tot = n, ∀ i, i < len → ∃ v, get i 0 = .int .u8 v], .str (bytesOf len get))
            | _ => none
          | false => none
        | false => none
      | _ => none
    | none => none
  | _ => none

def nilOk (H : List O) : C → Option (List Prop)
  | .ptr .. => some []
  | .ip .. => some []
  | .fn (.func _) _ _ => some []
  | .ep id _ _ tot => match getL H id with
    | some (.arr _ _ n _) => some [tot = n]
    | _ => none
  | _ => none

def isInt : Value → Bool
  | .int .. => true
  | _ => false

def val (Γ : Env) (ts : Ts) (H : List O) (op : Op) : Option (List Prop × S) :=
  match op with
  | .move x => some ([], opnd ts x)
  | .assign x => some ([], opnd ts x)
  | .pick c a b => match bare (opnd ts c) with
    | (pc, .c (.bool c)) => match bare (opnd ts a) with
      | (pa, .c a) => match bare (opnd ts b) with
        | (pb, .c b) => match pickC c a b with
          | some r => some (pc ++ pa.map (fun q => c = true → q) ++ pb.map (fun q => c = false → q), .c r)
          | none => none
        | _ => none
      | _ => none
    | _ => none
  | .load t a => match Γ.at t with
    | some i => match bare (opnd ts a) with
      | (p, .c a) => match loadK i H a with
        | some (q, s) => some (p ++ q, s)
        | none => none
      | _ => none
    | none => none
  | .nilCheck x => match bare (opnd ts x) with
    | (p, .c c) => match nilOk H c with
      | some q => some (p ++ q, .c c)
      | none => none
    | _ => none
  | .fieldAddr t x f => match fieldOff Γ t f with
    | some o => match bare (opnd ts x) with
      | (p, .c c) => match fieldK o c with
        | some r => match fieldN H c with
          | some q => some (p ++ q, .c r)
          | none => none
        | none => none
      | _ => none
    | none => none
  | .field t x f => match bare (opnd ts x) with
    | (p, .a cs) => match fieldV Γ t f cs with
      | some s => some (p, s)
      | none => none
    | _ => none
  | .indexAddr t x i => match elemOf Γ t with
    | some (_, te) => match bare (opnd ts x) with
      | (p, .c x) => match bare (opnd ts i) with
        | (q, .c (.int _ i)) => match indexK te H x i with
          | some (r, c) => some (p ++ q ++ r, .c c)
          | none => none
        | _ => none
      | _ => none
    | none => none
  | .index t x i => match isStrT Γ t with
    | true => match bare (opnd ts x) with
      | (p, .c (.str s)) => match bare (opnd ts i) with
        | (q, .c (.int _ i)) => some (p ++ q ++ [0 ≤ i, i < s.size], .c (.int .u8 (s.data.toList.getD i.toNat 0).toNat))
        | _ => none
      | _ => none
    | false => none
  | .binOp op t x y _ => match bare (opnd ts x) with
    | (p, .c x) => match bare (opnd ts y) with
      | (q, .c y) => match binC op x y with
        | some (r, v) => match x with
          | .bool _ => match isBoolT Γ t with
            | true => some (p ++ q ++ r, .c v)
            | false => none
          | _ => some (p ++ q ++ r, .c v)
        | none => none
      | _ => none
    | _ => none
  | .unOp op _ x => match bare (opnd ts x) with
    | (p, .c x) => match unC op x with
      | some v => some (p, .c v)
      | none => none
    | _ => none
  | .convert src dst x => match bare (opnd ts x) with
    | (p, .c x) => match convC Γ src dst H x with
      | some (q, v) => some (p ++ q, .c v)
      | none => none
    | _ => none
  | .extract x i => match opnd ts x with
    | .t l => match getL l i with
      | some (.inl c) => some ([], .c c)
      | some (.inr cs) => some ([], .a cs)
      | none => none
    | _ => none
  | .build t parts => match buildV Γ ts t parts.toList with
    | some s => some ([], s)
    | none => none
  | .makeFunc f first captured => match first.toList with
    | [] => match opndCs ts captured.toList with
      | some cs => some ([], .c (.fn f cs.length (lget cs)))
      | none => none
    | _ => none
  | .slice t x lo hi mx => match bare (opnd ts x) with
    | (p, .c x) => match optInt ts lo with
      | some lo => match optInt ts hi with
        | some hi => match optInt ts mx with
          | some mx => match sliceK x lo hi mx with
            | some (q, c) => match x with
              | .isl es _ _ _ => match elemOf Γ t with
                | some (_, te) => match Nat.beq es te.size with
                  | true => some (p ++ q, .c c)
                  | false => none
                | none => none
              | .str _ => match isStrT Γ t with
                | true => some (p ++ q, .c c)
                | false => none
              | _ => none
            | none => none
          | none => none
        | none => none
      | none => none
    | _ => none
  | .call { callee := .builtin .len, args, argTypes } => match args.toList with
    | [x] => match argTypes.toList with
      | [t] => match bare (opnd ts x) with
        | (p, .c c) => match lenC c with
          | some n => match c with
            | .str _ => match isStrT Γ t with
              | true => some (p, .c (.int .i64 n))
              | false => none
            | .sl id _ _ tot _ => match elemOf Γ t with
              | some _ => match getL H id with
                | some (.arr _ _ n' _) => some (p ++ [tot = n'], .c (.int .i64 n))
                | _ => none
              | none => none
            | _ => match elemOf Γ t with
              | some _ => some (p, .c (.int .i64 n))
              | none => none
          | none => none
        | _ => none
      | _ => none
    | _ => none
  | .call { callee := .builtin .max, args, .. } => match args.toList with
    | [x, y] => match bare (opnd ts x) with
      | (p, .c (.int k a)) => match bare (opnd ts y) with
        | (q, .c (.int _ b)) => some (p ++ q, .c (.int k (max a b)))
        | _ => none
      | _ => none
    | _ => none
  | .call { callee := .builtin .min, args, .. } => match args.toList with
    | [x, y] => match bare (opnd ts x) with
      | (p, .c (.int k a)) => match bare (opnd ts y) with
        | (q, .c (.int _ b)) => some (p ++ q, .c (.int k (min a b)))
        | _ => none
      | _ => none
    | _ => none
  | _ => none

end Go.Am
end

section
/- THE ABSTRACT MACHINE, PART 7: 'val' says what the model does. -/
namespace Go.Am

theorem val1 {P : Program} {s : Sem Value} {w w' : World} {r : Value} (h : s.run P w = .ok r w') : (do pure (Next.value (← s)) : Sem Next).run P w = .ok (.value r) w' := by
  rw [bind_ok h]; rfl

theorem all_left {p q : List Prop} (h : ∀ x ∈ p ++ q, x) : ∀ x ∈ p, x := fun x hx => h x (List.mem_append.2 (.inl hx))
theorem all_right {p q : List Prop} (h : ∀ x ∈ p ++ q, x) : ∀ x ∈ q, x := fun x hx => h x (List.mem_append.2 (.inr hx))

theorem optInt_ok {F : Mem} {H : List O} {μ : Nat → Value} {ts : Ts} {a : Act} (hT : TSat F H μ ts a.tmps) {x : Option Operand} {r : Option Int} (h : optInt ts x = some r) : kindI r (x.map a.eval) := by
  cases x with
  | none => simp only [optInt, Option.some.injEq] at h; subst h; trivial
  | some x =>
    simp only [optInt] at h
    have hx := opnd_ok hT x
    split at h
    · rename_i k n ho
      cases h
      rw [ho] at hx
      exact ⟨k, hx⟩
    · cases h

theorem bytes_run {P : Program} {src dst e : TypeId} (hs : P.underlying src = some (.slice e)) (he : P.underlying e = some (.int .u8)) (hd : P.underlying dst = some .string) (w : World) (a : Option Addr) (n cap : Nat) (get : Nat → Nat → C)
    (hg : ∀ i, i < n → ∃ v, get i 0 = .int .u8 v) (hc : n = 0 ∨ ∃ b off, a = some ⟨b, off, none⟩ ∧ ∀ i, i < n → ∃ v, get i 0 = .int .u8 v ∧ w.cell? ⟨b, off + i, none⟩ = some (.int .u8 v)) (hnil : a = none → n = 0) :
    (convert src dst (.slice a n cap)).run P w = .ok (.string (bytesOf n get)) w := by
  rw [run_convert_bytes_string w src dst e a n cap hs he hd]
  cases a with
  | none =>
    have := hnil rfl
    subst this
    simp [Conv.bytesToString, bytesOf]
    rfl
  | some a =>
    let xs : List Int := (List.range n).map fun i => match get i 0 with | .int _ v => v | _ => 0
    have hl : (loadCells a n).run P w = .ok (xs.map (Value.int .u8)).toArray w := by
      have := run_loadCells_list (P := P) w a (xs.map (Value.int .u8)) (fun j v hj => by
        have hjn : j < n := by
          have := (List.getElem?_eq_some_iff.1 hj).1
          simpa [xs] using this
        rcases hc with hc | ⟨b, off, rfl', hc⟩
        · omega
        · cases rfl'
          obtain ⟨u, u1, u2⟩ := hc j hjn
          rw [add_at, u2]
          simp [xs, hjn, u1] at hj
          rw [hj])
      simpa [xs] using this
    rw [run_bytesToString w a n cap xs hl, foldl_push_bytes]
    congr 2
    simp only [bytesOf, xs, List.map_map]
    have : ∀ l : List Nat, (∀ i ∈ l, i < n) → l.map ((fun n : Int => UInt8.ofNat n.toNat) ∘ fun i => match get i 0 with | .int _ v => v | _ => 0) = l.map fun i => byteC (get i 0) := by
      intro l hl
      apply List.map_congr_left
      intro i hi
      obtain ⟨v, hv⟩ := hg i (hl i hi)
      simp [hv, byteC]
    rw [this _ (fun i hi => List.mem_range.1 hi)]
    show (⟨#[] ++ _⟩ : ByteArray) = _
    simp

theorem convC_ok {P : Program} {Γ : Env} (hΓ : EnvOk P Γ) {K : Keep} {F : Mem} {H : List O} {μ : Nat → Value} {w : World} (hw : HSat K F H μ w) {src dst : Nat} {x c : C} {v : Value} {ns : List Prop}
    (hx : RepC F H μ x v) (h : convC Γ src dst H x = some (ns, c)) (hn : ∀ q ∈ ns, q) : ∃ r, (convert src dst v).run P w = .ok r w ∧ RepC F H μ c r := by
  have bsz : ∀ n get, n ≤ maxLen → (bytesOf n get).size ≤ maxLen := by intro n get h; simpa [bytesOf, ByteArray.size] using h
  cases x with
  | int k n =>
    rw [show v = _ from hx]
    simp only [convC] at h
    cases h1 : isIntT Γ src with
    | none => simp [h1] at h
    | some k1 =>
      cases h2 : isIntT Γ dst with
      | none => simp [h1, h2] at h
      | some k2 =>
        simp only [h1, h2, Option.some.injEq, Prod.mk.injEq] at h
        obtain ⟨rfl, rfl⟩ := h
        refine ⟨.int k2 (k2.wrap n), ?_, rfl⟩
        unfold convert
        rw [bind_ok (run_underlying (isIntT_ok hΓ h1) w), bind_ok (run_underlying (isIntT_ok hΓ h2) w)]
        rfl
  | isl es n get tight =>
    obtain ⟨a, cap, rfl, q1, q2, q3, q3', q4⟩ := hx
    simp only [convC] at h
    cases h1 : elemOf Γ src with
    | none => simp [h1] at h
    | some p =>
      obtain ⟨e, te⟩ := p
      obtain ⟨u1, u2⟩ := elemOf_ok hΓ h1
      simp only [h1] at h
      split at h
      · rename_i hk
        cases h3 : isStrT Γ dst with
        | false => simp [h3] at h
        | true =>
          simp only [h3] at h
          split at h
          · rename_i hb
            simp only [Option.some.injEq, Prod.mk.injEq] at h
            obtain ⟨rfl, rfl⟩ := h
            have hg : ∀ i, i < n → ∃ v, get i 0 = .int .u8 v := hn _ (by simp)
            refine ⟨_, bytes_run u1 (isIntT_ok hΓ hk) (isStrT_ok hΓ h3) w a n cap get hg ?_ ?_, rfl, bsz _ _ q1⟩
            · rcases q4 with q4 | ⟨b, off, rfl, hc⟩
              · exact .inl q4
              · have hes : es = 1 := Nat.eq_of_beq_eq_true hb
                subst hes
                refine .inr ⟨b, off, rfl, fun i hi => ?_⟩
                obtain ⟨u, hu⟩ := hg i hi
                obtain ⟨y, y1, y2⟩ := hc i hi 0 (by omega)
                rw [hu] at y2
                refine ⟨u, hu, ?_⟩
                rw [show y = _ from y2] at y1
                unfold Mem.cell at y1
                cases hf : F b with
                | none => simp [hf] at y1
                | some o =>
                  rw [hf] at y1
                  cases o with
                  | cells c T fz => rw [cell_of_row w b _ c T fz (hw.fr b _ hf)]; simpa using y1
                  | _ => simp at y1
            · intro ha
              rcases q4 with q4 | ⟨b, off, rfl, hc⟩
              · exact q4
              · cases ha
          · cases h
      · cases h
  | sl id es len tot xq =>
    obtain ⟨_, e', n, g, h1', h2', h3', h4'⟩ := hx
    simp only [convC] at h
    cases h1 : elemOf Γ src with
    | none => simp [h1] at h
    | some p =>
      obtain ⟨e, te⟩ := p
      obtain ⟨u1, u2⟩ := elemOf_ok hΓ h1
      simp only [h1] at h
      split at h
      · rename_i hk
        cases h3 : isStrT Γ dst with
        | false => simp [h3] at h
        | true =>
          simp only [h3] at h
          split at h
          · rename_i hb
            simp only [h1', Option.some.injEq, Prod.mk.injEq] at h
            obtain ⟨rfl, rfl⟩ := h
            have hes : es = 1 := Nat.eq_of_beq_eq_true hb
            subst hes
            have ht : tot = n := hn _ (by simp)
            have hg : ∀ i, i < len → ∃ v, g i 0 = .int .u8 v := hn _ (by simp)
            obtain ⟨a, cap, m1, rfl, _⟩ := h4' ht
            obtain ⟨xs, o1, o2, o3⟩ := hw.ob id _ h1'
            refine ⟨_, bytes_run u1 (isIntT_ok hΓ hk) (isStrT_ok hΓ h3) w a len cap g hg ?_ ?_, rfl, bsz _ _ (by omega)⟩
            · rcases o1.2 with ⟨q1, q2⟩ | ⟨b, cap', cur, q1, _⟩
              · exact .inl (by omega)
              · rw [m1] at q1
                simp only [Value.slice.injEq, true_and] at q1
                obtain ⟨rfl, rfl⟩ := q1
                refine .inr ⟨b, 0, rfl, fun i hi => ?_⟩
                obtain ⟨u, hu⟩ := hg i hi
                obtain ⟨y, y1, y2⟩ := o3 i (by omega) 0 (by omega)
                rw [hu] at y2
                refine ⟨u, hu, ?_⟩
                rw [show y = _ from y2] at y1
                have := o1.cells (g := b) (by rw [m1]; rfl) _ _ y1
                rw [add_at] at this
                simpa using this
            · intro ha
              subst ha
              rcases o1.2 with ⟨q1, q2⟩ | ⟨b, cap', cur, q1, _⟩
              · omega
              · rw [m1] at q1; simp at q1
          · cases h
      · cases h
  | _ => simp [convC] at h

theorem nilOk_ok {P : Program} {F : Mem} {H : List O} {μ : Nat → Value} (w : World) {c : C} {v : Value} {ns : List Prop} (hc : RepC F H μ c v) (h : nilOk H c = some ns) (hn : ∀ q ∈ ns, q) (ρ : Operand → Value) (o : Oper) {x : Operand} (ho : o.op = .nilCheck x) (hx : ρ x = v) :
    (execOp ρ o).run P w = .ok (.value v) w := by
  unfold execOp
  rw [ho]
  simp only [hx]
  cases c with
  | ptr id off => obtain ⟨_, b, _, rfl⟩ := hc; rfl
  | ip n get => obtain ⟨b, off, rfl, _⟩ := hc; rfl
  | fn f n get =>
    obtain ⟨cs, rfl, _⟩ := hc
    cases f <;> simp [nilOk] at h
    rfl
  | ep id i j tot =>
    obtain ⟨_, e, es, n, g, h1, h2, h3⟩ := hc
    simp only [nilOk, h1, Option.some.injEq] at h
    subst h
    obtain ⟨b, cap, _, _, rfl⟩ := h3 (hn _ (by simp))
    rfl
  | _ => simp [nilOk] at h

theorem val_ok {P : Program} {Γ : Env} (hΓ : EnvOk P Γ) {K : Keep} {F : Mem} {H : List O} {μ : Nat → Value} {w : World} (hw : HSat K F H μ w) {ts : Ts} {a : Act} (hT : TSat F H μ ts a.tmps) (o : Oper) {ns : List Prop} {s : S}
    (h : val Γ ts H o.op = some (ns, s)) (hn : ∀ q ∈ ns, q) : ∃ r, (execOp a.eval o).run P w = .ok (.value r) w ∧ RepS F H μ s r := by
  have O := opnd_ok hT
  have B : ∀ {x : Operand} {p : List Prop} {s' : S}, bare (opnd ts x) = (p, s') → (∀ q ∈ p, q) → RepS F H μ s' (a.eval x) := fun hb hp => bare_ok (O _) hb hp
  unfold val at h
  split at h
  · -- move
    rename_i x ho
    cases h
    exact ⟨_, by unfold execOp; rw [ho]; rfl, O x⟩
  · -- assign
    rename_i x ho
    cases h
    exact ⟨_, by unfold execOp; rw [ho]; rfl, O x⟩
  · -- pick
    rename_i c x y ho
    split at h
    · rename_i pc b hb1
      split at h
      · rename_i pa u hb2
        split at h
        · rename_i pb v hb3
          split at h
          · rename_i r hr
            cases h
            have hc : a.eval c = .bool b := B hb1 (fun q hq => hn q (by simp [hq]))
            have := pickC_ok (F := F) (H := H) (μ := μ) hr (fun e => B hb2 (fun q hq => hn (b = true → q) (by
                simp only [List.mem_append, List.mem_map]; exact .inl (.inr ⟨q, hq, rfl⟩)) e)) (fun e => B hb3 (fun q hq => hn (b = false → q) (by
                simp only [List.mem_append, List.mem_map]; exact .inr ⟨q, hq, rfl⟩) e))
            refine ⟨_, ?_, this⟩
            unfold execOp
            rw [ho]
            simp only [hc, asBool]
            cases b <;> rfl
          · cases h
        · cases h
      · cases h
    · cases h
  · -- load
    rename_i t x ho
    split at h
    · rename_i i hi
      split at h
      · rename_i p c hb
        split at h
        · rename_i q s' hl
          cases h
          obtain ⟨r, r1, r2⟩ := loadK_ok (P := P) (hΓ t i hi) hw (B hb (all_left hn)) hl (all_right hn)
          exact ⟨r, by unfold execOp; rw [ho]; exact val1 r1, r2⟩
        · cases h
      · cases h
    · cases h
  · -- nilCheck
    rename_i x ho
    split at h
    · rename_i p c hb
      split at h
      · rename_i q hq
        cases h
        have hc := B hb (all_left hn)
        exact ⟨a.eval x, nilOk_ok w hc hq (all_right hn) a.eval o ho rfl, hc⟩
      · cases h
    · cases h
  · -- fieldAddr
    rename_i t x f ho
    split at h
    · rename_i off hf
      split at h
      · rename_i p c hb
        split at h
        · rename_i r hr
          split at h
          · rename_i q hq
            cases h
            obtain ⟨v, v1, v2⟩ := fieldK_ok (P := P) hΓ hf w (B hb (all_left hn)) hr (by
              intro id i j tot e e' es n g hg
              subst e
              simp only [fieldN, hg, Option.some.injEq] at hq
              subst hq
              exact all_right hn _ (by simp))
            exact ⟨v, by unfold execOp; rw [ho]; exact val1 v1, v2⟩
          · cases h
        · cases h
      · cases h
    · cases h
  · -- field
    rename_i t x f ho
    split at h
    · rename_i p cs hb
      split at h
      · rename_i s' hf
        cases h
        obtain ⟨vs, v1, v2⟩ := B hb hn
        obtain ⟨r, r1, r2⟩ := fieldV_ok (P := P) hΓ w v2 hf
        exact ⟨r, by unfold execOp; rw [ho]; simp only [v1]; exact val1 r1, r2⟩
      · cases h
    · cases h
  · -- indexAddr
    rename_i t x i ho
    split at h
    · rename_i e te he
      split at h
      · rename_i p x' hb1
        split at h
        · rename_i q k i' hb2
          split at h
          · rename_i r c hc
            cases h
            have hi : a.eval i = .int k i' := B hb2 (all_right (all_left hn))
            obtain ⟨v, v1, v2⟩ := indexK_ok (P := P) hΓ hw he (k := k) (B hb1 (all_left (all_left hn))) hc (all_right hn)
            exact ⟨v, by unfold execOp; rw [ho]; simp only [hi]; exact val1 v1, v2⟩
          · cases h
        · cases h
      · cases h
    · cases h
  · -- index
    rename_i t x i ho
    split at h
    · rename_i ht
      split at h
      · rename_i p s' hb1
        split at h
        · rename_i q k i' hb2
          cases h
          have hi : a.eval i = .int k i' := B hb2 (all_right (all_left hn))
          have hx := B hb1 (all_left (all_left hn))
          have h0 : 0 ≤ i' := all_right hn _ (by simp)
          have h1 : i' < s'.size := all_right hn _ (by simp)
          have hlt : i'.toNat < s'.size := by omega
          refine ⟨.int .u8 (s'[i'.toNat]).toNat, ?_, ?_⟩
          · unfold execOp
            rw [ho]
            simp only [hi, hx.1]
            apply val1
            simp [Instr.index, asIntOf, run_underlying (isStrT_ok hΓ ht), h0, hlt]
          · show Value.int .u8 _ = Value.int .u8 _
            congr 3
            simp [List.getD, ByteArray.getElem_eq_getElem_data, hlt]
        · cases h
      · cases h
    · cases h
  · -- binOp
    rename_i op t x y yt ho
    split at h
    · rename_i p x' hb1
      split at h
      · rename_i q y' hb2
        split at h
        · rename_i r v hv
          have key : ∀ (hns : ns = p ++ q ++ r) (hs : s = .c v) (ht : (∃ b, x' = .bool b) → P.underlying t = some .bool), ∃ r, (execOp a.eval o).run P w = .ok (.value r) w ∧ RepS F H μ s r := by
            intro hns hs ht
            subst hns
            subst hs
            obtain ⟨u, u1, u2⟩ := binC_run (P := P) (F := F) (H := H) (μ := μ) w (t := t) (X := x) (Y := y) ht hv (all_right hn) (B hb1 (all_left (all_left hn))) (B hb2 (all_right (all_left hn)))
            exact ⟨u, by unfold execOp; rw [ho]; exact val1 u1, u2⟩
          split at h
          · split at h
            · rename_i hbt
              cases h
              exact key rfl rfl (fun _ => isBoolT_ok hΓ hbt)
            · cases h
          · rename_i hx'
            cases h
            exact key rfl rfl (fun ⟨b, e⟩ => absurd e (hx' b))
        · cases h
      · cases h
    · cases h
  · -- unOp
    rename_i op t x ho
    split at h
    · rename_i p x' hb1
      split at h
      · rename_i v hv
        cases h
        obtain ⟨u, u1, u2⟩ := unC_ok (P := P) w hv (B hb1 hn)
        exact ⟨u, by unfold execOp; rw [ho]; exact val1 u1, u2⟩
      · cases h
    · cases h
  · -- convert
    rename_i src dst x ho
    split at h
    · rename_i p x' hb1
      split at h
      · rename_i q v hv
        cases h
        obtain ⟨u, u1, u2⟩ := convC_ok (P := P) hΓ hw (B hb1 (all_left hn)) hv (all_right hn)
        exact ⟨u, by unfold execOp; rw [ho]; exact val1 u1, u2⟩
      · cases h
    · cases h
  · -- extract
    rename_i x i ho
    split at h
    · rename_i l hb
      have hx := O x
      rw [hb] at hx
      obtain ⟨vs, v1, v2, v3⟩ := hx
      split at h
      · rename_i c hc
        cases h
        obtain ⟨u, u1, u2⟩ := v3 i _ hc
        exact ⟨u, by unfold execOp; rw [ho]; simp only [v1]; apply val1; simp [Instr.extract, u1], u2⟩
      · rename_i cs hc
        cases h
        obtain ⟨u, u1, u2⟩ := v3 i _ hc
        exact ⟨u, by unfold execOp; rw [ho]; simp only [v1]; apply val1; simp [Instr.extract, u1], u2⟩
      · cases h
    · cases h
  · -- build
    rename_i t parts ho
    split at h
    · rename_i s' hs
      cases h
      obtain ⟨u, u1, u2⟩ := buildV_ok (P := P) hΓ hT w hs
      exact ⟨u, by unfold execOp; rw [ho]; exact val1 u1, u2⟩
    · cases h
  · -- makeFunc
    rename_i f first captured ho
    split at h
    · rename_i hf
      split at h
      · rename_i cs hc
        cases h
        obtain ⟨c1, c2⟩ := opndCs_ok hT _ _ hc
        have hfe : first = #[] := by simpa using hf
        refine ⟨.func f #[] (captured.map a.eval), ?_, captured.map a.eval, rfl, by simpa using c1.symm, fun j hj => ?_⟩
        · unfold execOp
          rw [ho, hfe]
          apply val1
          simp [Instr.makeFunc]
        · obtain ⟨u, u1, u2⟩ := c2 j cs[j] (by rw [getL_eq]; simp [hj])
          refine ⟨u, by simpa using u1, ?_⟩
          simp only [lget, getL_eq]
          simpa [hj] using u2
      · cases h
    · cases h
  · -- slice
    rename_i t x lo hi mx ho
    split at h
    · rename_i p x' hb
      split at h
      · rename_i lo' hlo
        split at h
        · rename_i hi' hhi
          split at h
          · rename_i mx' hmx
            split at h
            · rename_i q c hc
              have key : sliceT P Γ t x' → (∀ y ∈ p ++ q, y) → ∃ r, (execOp a.eval o).run P w = .ok (.value r) w ∧ RepS F H μ (.c c) r := by
                intro ht hn'
                obtain ⟨u, u1, u2⟩ := sliceK_ok (P := P) hΓ w (B hb (all_left hn')) hc (all_right hn') (optInt_ok hT hlo) (optInt_ok hT hhi) (optInt_ok hT hmx) ht
                exact ⟨u, by unfold execOp; rw [ho]; exact val1 u1, u2⟩
              cases x' with
              | isl es n g tt =>
                simp only at h
                cases he : elemOf Γ t with
                | none => simp [he] at h
                | some pr =>
                  simp only [he] at h
                  cases hes : Nat.beq es pr.2.size with
                  | false => simp [hes] at h
                  | true =>
                    simp only [hes, Option.some.injEq, Prod.mk.injEq] at h
                    obtain ⟨rfl, rfl⟩ := h
                    exact key ⟨pr.1, pr.2, he, Nat.eq_of_beq_eq_true hes⟩ hn
              | str s' =>
                simp only at h
                cases hst : isStrT Γ t with
                | false => simp [hst] at h
                | true =>
                  simp only [hst, Option.some.injEq, Prod.mk.injEq] at h
                  obtain ⟨rfl, rfl⟩ := h
                  exact key (isStrT_ok hΓ hst) hn
              | _ => simp at h
            · cases h
          · cases h
        · cases h
      · cases h
    · cases h
  · -- len
    rename_i args argTypes ho
    split at h
    · rename_i x hargs
      split at h
      · rename_i t htypes
        have ha : args = #[x] := by apply Array.toList_inj.1; simpa using hargs
        have hty : argTypes = #[t] := by apply Array.toList_inj.1; simpa using htypes
        subst ha
        subst hty
        split at h
        · rename_i p c hb
          split at h
          · rename_i n hlen
            have run : ∀ v, (Builtin.len_ #[t] o.type #[a.eval x]).run P w = .ok v w → (execOp a.eval o).run P w = .ok (.value v) w := by
              intro v hv
              have e : (#[x] : Array Operand).map a.eval = #[a.eval x] := by simp
              unfold execOp
              rw [ho]
              show (do let d ← resolve a.eval _ o.type; invoke d.target d.args : Sem Next).run P w = _
              simp only [resolve, invoke, builtin, e]
              exact val1 hv
            split at h
            · rename_i s'
              split at h
              · rename_i hst
                cases h
                have hx := B hb hn
                cases hlen
                refine ⟨_, run (goInt s'.size) ?_, rfl⟩
                rw [hx.1]
                simp [Builtin.len_, run_underlying (isStrT_ok hΓ hst)]
              · cases h
            · rename_i id es len tot xq
              split at h
              · rename_i pr he
                split at h
                · rename_i e' es' n' g hg
                  cases h
                  obtain ⟨_, e2, n2, g2, h1, h2, h3, h4⟩ := B hb (all_left hn)
                  rw [hg] at h1
                  cases h1
                  obtain ⟨aa, cap, m1, m2, _⟩ := h4 (all_right hn _ (by simp))
                  cases hlen
                  refine ⟨_, run (goInt n) ?_, rfl⟩
                  rw [m2]
                  obtain ⟨u1, _⟩ := elemOf_ok (P := P) hΓ (show elemOf Γ t = some (pr.1, pr.2) from he)
                  simp [Builtin.len_, run_underlying u1]
                · cases h
              · cases h
            · rename_i hne1 hne2
              split at h
              · rename_i pr he
                cases h
                have hx := B hb hn
                cases c with
                | isl es n' get tight =>
                  cases hlen
                  obtain ⟨aa, cap, e1, _⟩ := hx
                  refine ⟨_, run (goInt n) ?_, rfl⟩
                  rw [e1]
                  obtain ⟨u1, _⟩ := elemOf_ok (P := P) hΓ (show elemOf Γ t = some (pr.1, pr.2) from he)
                  simp [Builtin.len_, run_underlying u1]
                | nils =>
                  cases hlen
                  refine ⟨_, run (goInt 0) ?_, rfl⟩
                  rw [show a.eval x = _ from hx]
                  obtain ⟨u1, _⟩ := elemOf_ok (P := P) hΓ (show elemOf Γ t = some (pr.1, pr.2) from he)
                  simp [Builtin.len_, run_underlying u1]
                | str s' => exact absurd rfl (hne1 s')
                | sl id es len tot xq => exact absurd rfl (hne2 id es len tot xq)
                | _ => simp [lenC] at hlen
              · cases h
          · cases h
        · cases h
      · cases h
    · cases h
  · -- max
    rename_i args argTypes ho
    split at h
    · rename_i x y hargs
      have ha : args = #[x, y] := by apply Array.toList_inj.1; simpa using hargs
      subst ha
      split at h
      · rename_i p k u hb1
        split at h
        · rename_i q k' v hb2
          cases h
          have h1 : a.eval x = .int k u := B hb1 (all_left hn)
          have h2 : a.eval y = .int k' v := B hb2 (all_right hn)
          refine ⟨.int k (if v > u then v else u), ?_, ?_⟩
          · unfold execOp
            rw [ho]
            have e : (#[x, y] : Array Operand).map a.eval = #[.int k u, .int k' v] := by simp [h1, h2]
            show (do let d ← resolve a.eval _ o.type; invoke d.target d.args : Sem Next).run P w = _
            simp only [resolve, invoke, builtin, e]
            refine val1 (s := Builtin.max_ _ _ _) ?_
            simp [Builtin.max_, Builtin.max2]
          · show Value.int k _ = Value.int k _
            congr 1
            omega
        · cases h
      · cases h
    · cases h
  · -- min
    rename_i args argTypes ho
    split at h
    · rename_i x y hargs
      have ha : args = #[x, y] := by apply Array.toList_inj.1; simpa using hargs
      subst ha
      split at h
      · rename_i p k u hb1
        split at h
        · rename_i q k' v hb2
          cases h
          have h1 : a.eval x = .int k u := B hb1 (all_left hn)
          have h2 : a.eval y = .int k' v := B hb2 (all_right hn)
          refine ⟨.int k (if v < u then v else u), ?_, ?_⟩
          · unfold execOp
            rw [ho]
            have e : (#[x, y] : Array Operand).map a.eval = #[.int k u, .int k' v] := by simp [h1, h2]
            show (do let d ← resolve a.eval _ o.type; invoke d.target d.args : Sem Next).run P w = _
            simp only [resolve, invoke, builtin, e]
            refine val1 (s := Builtin.min_ _ _ _) ?_
            simp [Builtin.min_, Builtin.min2]
          · show Value.int k _ = Value.int k _
            congr 1
            omega
        · cases h
      · cases h
    · cases h
  · cases h

end Go.Am
end

section
/- THE ABSTRACT MACHINE, PART 8: what is tracked, when it changes. -/
namespace Go.Am

def upd (μ : Nat → Value) (id : Nat) (v : Value) : Nat → Value := fun i => if i = id then v else μ i

theorem OSat.other {F : Mem} {H H' : List O} {μ μ' : Nat → Value} {w w' : World} {i : Nat} {o : O} (h : OSat F H μ w i o) (hE : Ext H μ H' μ') (hμ : μ' i = μ i)
    (hk : ∀ b, b < w.heap.size → blk (μ i) = some b → w'.heap[b]? = w.heap[b]?) : OSat F H' μ' w' i o := by
  cases o with
  | vr cs =>
    obtain ⟨b, c, T, h1, h2, h3⟩ := h
    have hb : b < w.heap.size := (Array.getElem?_eq_some_iff.1 h2).1
    exact ⟨b, c, T, hμ.trans h1, by rw [hk b hb (by rw [h1]; rfl)]; exact h2, h3.mono (Mem.le_refl F) hE⟩
  | arr e es n g =>
    obtain ⟨xs, h1, h2, h3⟩ := h
    refine ⟨xs, ?_, h2, fun k hk' j hj => ?_⟩
    · rw [hμ]
      refine ⟨h1.1, ?_⟩
      rcases h1.2 with h | ⟨b, cap, cur, q1, q2, q3, rest⟩
      · exact .inl h
      · have hb : b < w.heap.size := (Array.getElem?_eq_some_iff.1 q3).1
        exact .inr ⟨b, cap, cur, q1, q2, by rw [hk b hb (by rw [q1]; rfl)]; exact q3, rest⟩
    · obtain ⟨v, v1, v2⟩ := h3 k hk' j hj
      exact ⟨v, v1, RepC.mono (Mem.le_refl F) hE _ _ v2⟩
  | dead => trivial

/-- One object is new, or has changed. -/
theorem HSat.step {K : Keep} {F : Mem} {H H' : List O} {μ : Nat → Value} {w w' : World} (hw : HSat K F H μ w) (id : Nat) (o' : O) (v' : Value) (hid : getL H' id = some o')
    (hoth : ∀ i, i ≠ id → getL H' i = getL H i) (hE : Ext H μ H' (upd μ id v')) {row : Option Nat} (hg : w.grownBy w' row) (hrow : ∀ k, row = some k → owned H μ id k)
    (hv : ∀ b, blk v' = some b → owned H μ id b ∨ w.heap.size ≤ b) (ho : OSat F H' (upd μ id v') w' id o') : HSat K F H' (upd μ id v') w' := by
  have keep : ∀ b o, w.heap[b]? = some o → row ≠ some b → w'.heap[b]? = some o := by
    intro b o hb hr
    rw [hg.block b (Array.getElem?_eq_some_iff.1 hb).1 (fun e => hr e.symm)]
    exact hb
  have own : ∀ i b, owned H' (upd μ id v') i b → (i = id ∧ (owned H μ id b ∨ w.heap.size ≤ b)) ∨ (i ≠ id ∧ owned H μ i b) := by
    intro i b ⟨⟨o, o1, o2⟩, hb⟩
    by_cases e : i = id
    · subst e
      left
      refine ⟨rfl, hv b ?_⟩
      simpa [upd] using hb
    · right
      rw [hoth i e] at o1
      refine ⟨e, ⟨o, o1, o2⟩, ?_⟩
      simpa [upd, e] using hb
  have lt : ∀ i b, owned H μ i b → b < w.heap.size := by
    intro i b ⟨⟨o, o1, o2⟩, hb⟩
    have := hw.ob i o o1
    cases o with
    | vr cs =>
      obtain ⟨b', c, T, h1, h2, _⟩ := this
      rw [h1] at hb
      cases hb
      exact (Array.getElem?_eq_some_iff.1 h2).1
    | arr e es n g =>
      obtain ⟨xs, h1, _, _⟩ := this
      rcases h1.2 with ⟨q, _⟩ | ⟨g', cap, cur, q, _, q3, _⟩
      · rw [q] at hb; cases hb
      · rw [q] at hb; cases hb
        exact (Array.getElem?_eq_some_iff.1 q3).1
    | dead => exact absurd rfl o2
  refine ⟨hg.os.trans hw.os, hg.tape.trans hw.tape, hg.output.trans hw.output, fun b o hb => ?_, fun b o hb => ?_, fun i o hi => ?_, fun i b hb => ?_, fun i j b hi hj => ?_, hw.dj⟩
  · refine keep b o (hw.fr b o hb) (fun e => ?_)
    have := (hw.sp id b (hrow b e)).1
    rw [this] at hb; cases hb
  · refine keep b o (hw.kp b o hb) (fun e => ?_)
    have := (hw.sp id b (hrow b e)).2
    rw [this] at hb; cases hb
  · by_cases e : i = id
    · subst e
      rw [hid] at hi
      cases hi
      exact ho
    · have hi' := hi
      rw [hoth i e] at hi'
      by_cases hd : o = .dead
      · subst hd; trivial
      · refine (hw.ob i o hi').other hE (by simp [upd, e]) (fun b hb hblk => hg.block b hb (fun q => ?_))
        exact e (hw.ij i id b ⟨⟨o, hi', hd⟩, hblk⟩ (hrow b q.symm))
  · rcases own i b hb with ⟨_, h | h⟩ | ⟨_, h⟩
    · exact hw.sp id b h
    · refine ⟨?_, ?_⟩
      · cases hf : F b with
        | none => rfl
        | some o => have := (Array.getElem?_eq_some_iff.1 (hw.fr b o hf)).1; omega
      · cases hf : K.mem b with
        | none => rfl
        | some o => have := (Array.getElem?_eq_some_iff.1 (hw.kp b o hf)).1; omega
    · exact hw.sp i b h
  · rcases own i b hi with ⟨ei, h | h⟩ | ⟨ei, h⟩ <;> rcases own j b hj with ⟨ej, k | k⟩ | ⟨ej, k⟩
    · rw [ei, ej]
    · rw [ei, ej]
    · rw [ei]; exact (hw.ij id j b h k)
    · rw [ei, ej]
    · rw [ei, ej]
    · have := lt j b k; omega
    · rw [ej]; exact (hw.ij i id b h k)
    · have := lt i b h; omega
    · exact hw.ij i j b h k

theorem getL_append_lt {α : Type} (l : List α) (x : α) (i : Nat) (h : i ≠ l.length) : getL (l ++ [x]) i = getL l i := by
  rw [getL_eq, getL_eq]
  by_cases hi : i < l.length
  · rw [List.getElem?_append_left hi]
  · rw [List.getElem?_append_right (by omega), List.getElem?_eq_none (by omega : l.length ≤ i)]
    exact List.getElem?_eq_none (by simp; omega)

theorem getL_append_eq {α : Type} (l : List α) (x : α) : getL (l ++ [x]) l.length = some x := by
  rw [getL_eq]; simp

theorem getL_lt {α : Type} {l : List α} {i : Nat} {x : α} (h : getL l i = some x) : i < l.length := by
  rw [getL_eq] at h; exact (List.getElem?_eq_some_iff.1 h).1

theorem Ext.push (H : List O) (μ : Nat → Value) (o : O) (v : Value) : Ext H μ (H ++ [o]) (upd μ H.length v) := by
  refine ⟨fun id cs h => ?_, fun id e es n g h => ?_⟩
  · have := getL_lt h
    exact ⟨⟨cs, by rw [getL_append_lt _ _ _ (by omega)]; exact h⟩, by simp [upd]; omega⟩
  · have := getL_lt h
    exact ⟨n, g, by rw [getL_append_lt _ _ _ (by omega)]; exact h, Nat.le_refl _, fun _ => by simp [upd]; omega⟩

/-- A new object. -/
theorem HSat.push {K : Keep} {F : Mem} {H : List O} {μ : Nat → Value} {w w' : World} (hw : HSat K F H μ w) (o : O) (v : Value) (hg : w.grownBy w' none)
    (hv : ∀ b, blk v = some b → w.heap.size ≤ b) (ho : OSat F (H ++ [o]) (upd μ H.length v) w' H.length o) : HSat K F (H ++ [o]) (upd μ H.length v) w' :=
  hw.step H.length o v (getL_append_eq H o) (fun i hi => getL_append_lt H o i hi) (Ext.push H μ o v) hg (fun k e => by cases e) (fun b hb => .inr (hv b hb)) ho

theorem getL_set {H H' : List O} {id : Nat} {o' : O} (h : setL H id o' = some H') : getL H' id = some o' ∧ ∀ i, i ≠ id → getL H' i = getL H i := by
  obtain ⟨h1, h2⟩ := setL_eq _ _ _ _ h
  subst h2
  refine ⟨by rw [getL_eq]; simp [h1], fun i hi => ?_⟩
  rw [getL_eq, getL_eq, List.getElem?_set_ne (Ne.symm hi)]

theorem upd_self (μ : Nat → Value) (id : Nat) : upd μ id (μ id) = μ := by
  funext i; by_cases e : i = id <;> simp [upd, e]

/-- A variable of zeros, or of given cells. -/
theorem newVar_ok {P : Program} {K : Keep} {F : Mem} {H : List O} {μ : Nat → Value} {w : World} (hw : HSat K F H μ w) (t : TypeId) (v : Value) {cs : List C} (hl : RepL F H μ cs v.cells) :
    ∃ r w' v', (do pure (Value.pointer (some (← newVar t v))) : Sem Value).run P w = .ok r w' ∧ HSat K F (H ++ [.vr cs]) (upd μ H.length v') w' ∧ Ext H μ (H ++ [.vr cs]) (upd μ H.length v') ∧
      RepC F (H ++ [.vr cs]) (upd μ H.length v') (.ptr H.length 0) r := by
  refine ⟨.pointer (some ⟨w.heap.size, 0, none⟩), w.alloc (.cells v.cells t), .pointer (some ⟨w.heap.size, 0, none⟩), ?_, ?_, Ext.push _ _ _ _, ?_⟩
  · simp [newVar, newRow, newObj, Sem.run]
  · refine hw.push _ _ (World.grownBy_alloc w _ none) (fun b hb => by cases hb; exact Nat.le_refl _) ?_
    exact ⟨w.heap.size, v.cells, t, by simp [upd], heap_alloc_new w _, hl.mono (Mem.le_refl F) (Ext.push _ _ _ _)⟩
  · exact ⟨⟨cs, getL_append_eq _ _⟩, w.heap.size, by simp [upd], rfl⟩

/-- What an operation yields that changes what is tracked. -/
def updG (g : Nat → Nat → C) (k j : Nat) (ys : List C) : Nat → Nat → C := fun i l =>
  if i = k ∧ j ≤ l ∧ l < j + ys.length then lget ys (l - j) else g i l

def appG (g : Nat → Nat → C) (n : Nat) (g' : Nat → Nat → C) : Nat → Nat → C := fun i j => if i < n then g i j else g' (i - n) j

def copyG (g : Nat → Nat → C) (m : Nat) (g' : Nat → Nat → C) : Nat → Nat → C := fun i j => if i < m then g' i j else g i j

def zeroG (xs : List C) : Nat → Nat → C := fun _ j => lget xs j

def flatG (es : Nat) (xs : List C) : Nat → Nat → C := fun i j => lget xs (i * es + j)

def storeK (H : List O) (p : C) (ys : List C) : Option (List Prop × List O) :=
  match p with
  | .ptr id off => match getL H id with
    | some (.vr cs) => match splice cs off ys with
      | some cs' => match setL H id (.vr cs') with
        | some H' => some ([], H')
        | none => none
      | none => none
    | _ => none
  | .ep id k j tot => match getL H id with
    | some (.arr e es n g) => match setL H id (.arr e es n (updG g k j ys)) with
      | some H' => some ([tot = n, j + ys.length ≤ es], H')
      | none => none
    | _ => none
  | _ => none

theorem ext_same {H H' : List O} {μ : Nat → Value} (h : ∀ id o, getL H id = some o → match o with
    | .vr _ => ∃ cs', getL H' id = some (.vr cs')
    | .arr e es n _ => ∃ g', getL H' id = some (.arr e es n g')
    | .dead => True) : Ext H μ H' μ :=
  ⟨fun id _ hc => ⟨h id _ hc, rfl⟩, fun id _ _ n _ hc => let ⟨g', hg⟩ := h id _ hc; ⟨n, g', hg, Nat.le_refl _, fun _ => rfl⟩⟩

theorem setRow_grown (w : World) (g : Nat) (cs : Array Value) : w.grownBy (w.setRow g cs) (some g) :=
  ⟨rfl, rfl, rfl, by simp, fun k _ hk => setRow_other w g k _ (fun e => hk (by rw [e]))⟩

theorem list_mid {α : Type} (l vs : List α) (o : Nat) (h : o + vs.length ≤ l.length) (j : Nat) :
    (l.take o ++ vs ++ l.drop (o + vs.length))[j]? = if o ≤ j ∧ j < o + vs.length then vs[j - o]? else l[j]? := by
  simp only [List.append_assoc, List.getElem?_append, List.length_take, List.getElem?_take, List.getElem?_drop]
  have hm : min o l.length = o := by omega
  rw [hm]
  by_cases c1 : j < o
  · rw [if_pos c1, if_pos c1, if_neg (by omega)]
  · rw [if_neg c1]
    by_cases c2 : j - o < vs.length
    · rw [if_pos c2, if_pos (by omega)]
    · rw [if_neg c2, if_neg (by omega)]
      congr 1; omega

theorem storeVar_ok {P : Program} {t : Nat} {i : TI} (ht : TIok P t i) {v : Value} (hsz : v.cells.size = i.size) (h1 : ∀ x ∈ v.cells.toList, x.oneCell' = true) {g o : Nat} {cur : Array Value} {T : TypeId} {w : World}
    (hg : w.heap[g]? = some (.cells cur T (0, 0))) (hfit : o + v.cells.size ≤ cur.size) :
    (Instr.storeAt t (.pointer (some ⟨g, o, none⟩)) v).run P w = .ok () (w.setRow g (cur.toList.take o ++ v.cells.toList ++ cur.toList.drop (o + v.cells.size)).toArray) := by
  have hs := sizeOf_ok ht w
  have := run_storeCells_at P g o T v.cells.toList 0 cur w hg (by simpa using hfit) h1
  simp only [Instr.storeAt, Instr.sureAddr]
  show (do let a ← (pure (⟨g, o, none⟩ : Addr) : Sem Addr); storeVar t a v : Sem Unit).run P w = _
  rw [bind_ok (show (pure (⟨g, o, none⟩ : Addr) : Sem Addr).run P w = .ok _ w from rfl)]
  unfold storeVar
  rw [bind_ok hs]
  simp only [hsz, ne_eq, not_true, if_false]
  simpa [hsz] using this

theorem storeK_ok {P : Program} {K : Keep} {F : Mem} {H H' : List O} {μ : Nat → Value} {w : World} (hw : HSat K F H μ w) {t : Nat} {i : TI} (ht : TIok P t i) {p : C} {pv v : Value} {ys : List C} {ns : List Prop}
    (hp : RepC F H μ p pv) (hy : RepL F H μ ys v.cells) (hl : ys.length = i.size) (h : storeK H p ys = some (ns, H')) (hn : ∀ q ∈ ns, q) :
    ∃ w', (Instr.storeAt t pv v).run P w = .ok () w' ∧ HSat K F H' μ w' ∧ Ext H μ H' μ := by
  have hsz : v.cells.size = i.size := by rw [hy.1]; exact hl
  have h1 : ∀ x ∈ v.cells.toList, x.oneCell' = true := by
    intro x hx
    obtain ⟨j, hj, hjx⟩ := List.mem_iff_getElem.1 hx
    have hj' : j < ys.length := by rw [← hy.1]; simpa using hj
    obtain ⟨u, u1, u2⟩ := hy.2 j ys[j] (by rw [getL_eq]; simp [hj'])
    have : u = x := by
      rw [← Array.getElem?_toList] at u1
      rw [List.getElem?_eq_getElem hj] at u1
      cases u1
      exact hjx
    subst this
    exact RepC.one _ _ u2
  cases p with
  | ptr id off =>
    obtain ⟨⟨cs, g1⟩, b, g2, rfl⟩ := hp
    simp only [storeK, g1] at h
    cases hs : splice cs off ys with
    | none => simp [hs] at h
    | some cs' =>
      cases hset : setL H id (.vr cs') with
      | none => simp [hs, hset] at h
      | some H'' =>
        simp only [hs, hset, Option.some.injEq, Prod.mk.injEq] at h
        obtain ⟨_, rfl⟩ := h
        obtain ⟨s1, s2, s3⟩ := splice_ok _ _ _ _ hs
        obtain ⟨e1, e2⟩ := getL_set hset
        obtain ⟨b', c, T, k1, k2, k3⟩ := hw.ob id _ g1
        rw [g2] at k1
        cases k1
        have hfit : off + v.cells.size ≤ c.size := by rw [hsz, ← hl, k3.1]; exact s2
        have hE : Ext H μ H'' μ := ext_same (fun id' o ho => by
          by_cases e : id' = id
          · subst e
            rw [g1] at ho
            cases ho
            exact ⟨cs', e1⟩
          · rw [← e2 id' e] at ho
            cases o with
            | vr c' => exact ⟨c', ho⟩
            | arr e es n g => exact ⟨g, ho⟩
            | dead => trivial)
        refine ⟨_, storeVar_ok (P := P) ht hsz h1 k2 hfit, ?_, hE⟩
        have hE' := hE
        rw [← upd_self μ id] at hE' ⊢
        have := hw.step id (.vr cs') (μ id) (w' := w.setRow b (c.toList.take off ++ v.cells.toList ++ c.toList.drop (off + v.cells.size)).toArray) e1 e2 (by rw [upd_self]; exact hE) (setRow_grown w b _)
          (fun k e => by cases e; exact ⟨⟨_, g1, by simp⟩, by rw [g2]; rfl⟩) (fun k e => .inl ⟨⟨_, g1, by simp⟩, e⟩) ?_
        · simpa [upd_self] using this
        · refine ⟨b, _, T, by simp [upd, g2], setRow_heap w b c _ T (0, 0) k2, ?_, fun j x hx => ?_⟩
          · have := k3.1
            simp only [List.size_toArray, List.length_append, List.length_take, List.length_drop, Array.length_toList]
            omega
          · rw [s3 j] at hx
            have hm := list_mid c.toList v.cells.toList off (by simpa using hfit) j
            simp only [Array.length_toList] at hm
            simp only [List.getElem?_toArray, hm]
            rw [upd_self]
            by_cases cc : off ≤ j ∧ j < off + ys.length
            · rw [if_pos cc] at hx
              rw [if_pos (by omega)]
              obtain ⟨u, u1, u2⟩ := hy.2 _ x hx
              exact ⟨u, by simpa using u1, RepC.mono (Mem.le_refl F) hE _ _ u2⟩
            · rw [if_neg cc] at hx
              rw [if_neg (by omega)]
              obtain ⟨u, u1, u2⟩ := k3.2 _ x hx
              exact ⟨u, by simpa using u1, RepC.mono (Mem.le_refl F) hE _ _ u2⟩
  | ep id k j tot =>
    obtain ⟨_, e, es, n, g, g1, g2, g3⟩ := hp
    simp only [storeK, g1] at h
    cases hset : setL H id (.arr e es n (updG g k j ys)) with
    | none => simp [hset] at h
    | some H'' =>
      simp only [hset, Option.some.injEq, Prod.mk.injEq] at h
      obtain ⟨rfl, rfl⟩ := h
      obtain ⟨e1, e2⟩ := getL_set hset
      have hq : tot = n := hn _ (by simp)
      have hes : j + ys.length ≤ es := hn _ (by simp)
      obtain ⟨b, cap, m1, m2, rfl⟩ := g3 hq
      obtain ⟨xs, o1, o2, o3⟩ := hw.ob id _ g1
      rcases o1.2 with ⟨q1, _⟩ | ⟨b', cap', cur, q1, q2, q3, q4, q5, q6, q7⟩
      · rw [m1] at q1; simp at q1
      · rw [m1] at q1
        simp only [Value.slice.injEq, Option.some.injEq, Addr.mk.injEq, and_true, true_and] at q1
        obtain ⟨rfl, rfl⟩ := q1
        have hE : Ext H μ H'' μ := ext_same (fun id' o ho => by
          by_cases ee : id' = id
          · subst ee
            rw [g1] at ho
            cases ho
            exact ⟨_, e1⟩
          · rw [← e2 id' ee] at ho
            cases o with
            | vr c' => exact ⟨c', ho⟩
            | arr e es n g => exact ⟨g, ho⟩
            | dead => trivial)
        have hkn : k * es + es ≤ n * es := by rw [← Nat.succ_mul]; exact Nat.mul_le_mul_right es m2
        have hnc : n * es ≤ cap * es := Nat.mul_le_mul_right es q4
        have hfit : (k * es + j) + v.cells.size ≤ cur.size := by rw [hsz, ← hl, q6]; omega
        refine ⟨_, storeVar_ok (P := P) ht hsz h1 q3 hfit, ?_, hE⟩
        have := hw.step id (.arr e es n (updG g k j ys)) (μ id) (w' := w.setRow b (cur.toList.take (k * es + j) ++ v.cells.toList ++ cur.toList.drop (k * es + j + v.cells.size)).toArray) e1 e2 (by rw [upd_self]; exact hE) (setRow_grown w b _)
          (fun k' ee => by cases ee; exact ⟨⟨_, g1, by simp⟩, by rw [m1]; rfl⟩) (fun k' ee => .inl ⟨⟨_, g1, by simp⟩, ee⟩) ?_
        · simpa [upd_self] using this
        · have hm := fun q => list_mid cur.toList v.cells.toList (k * es + j) (by simpa using hfit) q
          simp only [Array.length_toList] at hm
          refine ⟨((cur.toList.take (k * es + j) ++ v.cells.toList ++ cur.toList.drop (k * es + j + v.cells.size))).take (n * es), ⟨?_, .inr ⟨b, cap, _, by simp [upd, m1], Nat.zero_le _, setRow_heap w b cur _ e (0, 0) q3, q4, q5, ?_, by simp⟩⟩, o2, fun i' hi' l hl' => ?_⟩
          · have h0 : (cur.toList.take (k * es + j) ++ v.cells.toList ++ cur.toList.drop (k * es + j + v.cells.size)).length = cur.size := by
              simp only [List.length_append, List.length_take, List.length_drop, Array.length_toList]; omega
            rw [List.length_take, h0, q6]; omega
          · simp only [List.size_toArray, List.length_append, List.length_take, List.length_drop, Array.length_toList]
            omega
          · rw [upd_self]
            have hi2 : i' * es + es ≤ n * es := by rw [← Nat.succ_mul]; exact Nat.mul_le_mul_right es hi'
            rw [List.getElem?_take, if_pos (by omega), hm]
            simp only [updG]
            have hys := hy.1
            by_cases cc : i' = k ∧ j ≤ l ∧ l < j + ys.length
            · obtain ⟨rfl, c2, c3⟩ := cc
              rw [if_pos (by omega), if_pos ⟨rfl, c2, c3⟩]
              have hlt : l - j < ys.length := by omega
              obtain ⟨u, u1, u2⟩ := hy.2 (l - j) ys[l - j] (by rw [getL_eq]; simp [hlt])
              refine ⟨u, ?_, ?_⟩
              · rw [show i' * es + l - (i' * es + j) = l - j by omega]; simpa using u1
              · simp only [lget, getL_eq]
                rw [List.getElem?_eq_getElem hlt]
                exact RepC.mono (Mem.le_refl F) hE _ _ u2
            · rw [if_neg cc]
              have hne : ¬ (k * es + j ≤ i' * es + l ∧ i' * es + l < k * es + j + v.cells.size) := by
                intro ⟨a1, a2⟩
                rw [hsz, ← hl] at a2
                rcases Nat.lt_trichotomy i' k with c | c | c
                · have : i' * es + es ≤ k * es := by rw [← Nat.succ_mul]; exact Nat.mul_le_mul_right es c
                  omega
                · subst c; exact cc ⟨rfl, by omega, by omega⟩
                · have : k * es + es ≤ i' * es := by rw [← Nat.succ_mul]; exact Nat.mul_le_mul_right es c
                  omega
              rw [if_neg hne]
              obtain ⟨u, u1, u2⟩ := o3 i' hi' l hl'
              refine ⟨u, ?_, RepC.mono (Mem.le_refl F) hE _ _ u2⟩
              rw [← q7, List.getElem?_take, if_pos (by omega)] at u1
              exact u1
  | _ => simp [storeK] at h

end Go.Am
end

section
/- THE ABSTRACT MACHINE, PART 9: make, append, copy, slice literals. -/
namespace Go.Am

/-- What is read in an append or a copy: what is needed, how many elements, which. -/
def srcK (es : Nat) (H : List O) (y : C) : Option (List Prop × Nat × (Nat → Nat → C)) :=
  match y with
  | .nils => some ([], 0, fun _ _ => .junk)
  | .isl es' m g _ => match Nat.beq es' es with
    | true => some ([], m, g)
    | false => none
  | .sl id es' len tot _ => match Nat.beq es' es with
    | true => match getL H id with
      | some (.arr _ _ n g) => some ([tot = n], len, g)
      | _ => none
    | false => none
  | _ => none

structure Src (F : Mem) (H : List O) (μ : Nat → Value) (w : World) (es m : Nat) (g : Nat → Nat → C) (v : Value) (news : List Value) : Prop where
  le : m ≤ maxLen
  len : news.length = m * es
  val : (v = .slice none 0 0 ∧ m = 0) ∨ ∃ a c, v = .slice (some a) m c ∧ ∀ (j : Nat) u, news[j]? = some u → w.cell? (a.add j) = some u
  rep : ∀ i, i < m → ∀ j, j < es → ∃ u, news[i * es + j]? = some u ∧ RepC F H μ (g i j) u

theorem Src.one {F : Mem} {H : List O} {μ : Nat → Value} {w : World} {es m : Nat} {g : Nat → Nat → C} {v : Value} {news : List Value} (h : Src F H μ w es m g v news) : ∀ u ∈ news, u.oneCell' = true := by
  intro u hu
  obtain ⟨q, hq, e⟩ := List.mem_iff_getElem.1 hu
  rw [h.len] at hq
  have hes : 0 < es := by
    rcases Nat.eq_zero_or_pos es with z | z
    · subst z; simp at hq
    · exact z
  have h1 : q / es < m := (Nat.div_lt_iff_lt_mul hes).2 hq
  obtain ⟨u', u1, u2⟩ := h.rep (q / es) h1 (q % es) (Nat.mod_lt _ hes)
  rw [Nat.div_add_mod' q es] at u1
  rw [List.getElem?_eq_getElem (by rw [h.len]; exact hq), e] at u1
  cases u1
  exact RepC.one _ _ u2

theorem Src.first {F : Mem} {H : List O} {μ : Nat → Value} {w : World} {es m : Nat} {g : Nat → Nat → C} {v : Value} {news : List Value} (h : Src F H μ w es m g v news) (P : Program) (w' : World) (hw : ∀ a, w'.cell? a = w.cell? a)
    (k : Nat) (hk : k ≤ m) : (Builtin.firstCells es k v).run P w' = .ok (news.take (k * es)).toArray w' := by
  rcases h.val with ⟨rfl, rfl⟩ | ⟨a, c, rfl, hc⟩
  · have : k = 0 := by omega
    subst this
    have : news = [] := List.eq_nil_of_length_eq_zero (by rw [h.len]; simp)
    subst this
    simp [Builtin.firstCells]
  · have hlen : (news.take (k * es)).length = k * es := by
      rw [List.length_take, h.len]; exact Nat.min_eq_left (Nat.mul_le_mul_right es hk)
    exact run_firstCells_some w' es k a m c _ hlen (fun j u hu => by
      rw [hw]
      refine hc j u ?_
      rw [List.getElem?_take] at hu
      split at hu
      · exact hu
      · cases hu)

theorem srcK_ok {K : Keep} {F : Mem} {H : List O} {μ : Nat → Value} {w : World} (hw : HSat K F H μ w) {es : Nat} {y : C} {v : Value} {ns : List Prop} {m : Nat} {g : Nat → Nat → C}
    (hy : RepC F H μ y v) (h : srcK es H y = some (ns, m, g)) (hn : ∀ q ∈ ns, q) : ∃ news, Src F H μ w es m g v news := by
  cases y with
  | nils =>
    simp only [srcK, Option.some.injEq, Prod.mk.injEq] at h
    obtain ⟨_, rfl, rfl⟩ := h
    exact ⟨[], Nat.zero_le _, by simp, .inl ⟨hy, rfl⟩, fun i hi => by omega⟩
  | isl es' n get tight =>
    simp only [srcK] at h
    cases hb : Nat.beq es' es with
    | false => simp [hb] at h
    | true =>
      have : es' = es := Nat.eq_of_beq_eq_true hb
      subst this
      simp only [hb, Option.some.injEq, Prod.mk.injEq] at h
      obtain ⟨_, rfl, rfl⟩ := h
      obtain ⟨a, cap, rfl, q1, q2, q3, q3', q4⟩ := hy
      by_cases hn0 : n = 0
      · subst hn0
        cases a with
        | none => exact ⟨[], Nat.zero_le _, by simp, .inl ⟨by rw [q3' rfl], rfl⟩, fun i hi => by omega⟩
        | some a => exact ⟨[], Nat.zero_le _, by simp, .inr ⟨a, cap, rfl, fun j u hu => by simp at hu⟩, fun i hi => by omega⟩
      · rcases q4 with q4 | ⟨b, off, rfl, hc⟩
        · exact absurd q4 hn0
        · refine ⟨(List.range (n * es')).map fun q => (w.cell? ⟨b, off + q, none⟩).getD undef, q1, by simp, .inr ⟨⟨b, off, none⟩, cap, rfl, fun j u hu => ?_⟩, fun i hi j hj => ?_⟩
          · have hj : j < n * es' := by have := (List.getElem?_eq_some_iff.1 hu).1; simpa using this
            have hes : 0 < es' := by
              rcases Nat.eq_zero_or_pos es' with z | z
              · subst z; simp at hj
              · exact z
            obtain ⟨x, x1, _⟩ := hc (j / es') ((Nat.div_lt_iff_lt_mul hes).2 hj) (j % es') (Nat.mod_lt _ hes)
            rw [Nat.add_assoc, Nat.div_add_mod' j es'] at x1
            have hcell : w.cell? ⟨b, off + j, none⟩ = some x := by
              unfold Mem.cell at x1
              cases hf : F b with
              | none => simp [hf] at x1
              | some o =>
                rw [hf] at x1
                cases o with
                | cells c T fz => rw [cell_of_row w b _ c T fz (hw.fr b _ hf)]; exact x1
                | _ => simp at x1
            simp [hj, hcell] at hu
            rw [add_at, hcell, hu]
          · obtain ⟨x, x1, x2⟩ := hc i hi j hj
            have hlt : i * es' + j < n * es' := by
              have : i * es' + es' ≤ n * es' := by rw [← Nat.succ_mul]; exact Nat.mul_le_mul_right es' hi
              omega
            have hcell : w.cell? ⟨b, off + (i * es' + j), none⟩ = some x := by
              rw [Nat.add_assoc] at x1
              unfold Mem.cell at x1
              cases hf : F b with
              | none => simp [hf] at x1
              | some o =>
                rw [hf] at x1
                cases o with
                | cells c T fz => rw [cell_of_row w b _ c T fz (hw.fr b _ hf)]; exact x1
                | _ => simp at x1
            exact ⟨x, by simp [hlt, hcell], RepF.toC H μ _ _ x2⟩
  | sl id es' len tot xq =>
    simp only [srcK] at h
    cases hb : Nat.beq es' es with
    | false => simp [hb] at h
    | true =>
      have : es' = es := Nat.eq_of_beq_eq_true hb
      subst this
      obtain ⟨_, e, n, g', h1, h2, h3, h4⟩ := hy
      simp only [hb, h1, Option.some.injEq, Prod.mk.injEq] at h
      obtain ⟨rfl, rfl, rfl⟩ := h
      have ht : tot = n := hn _ (by simp)
      obtain ⟨a, cap, m1, rfl, _⟩ := h4 ht
      obtain ⟨xs, o1, o2, o3⟩ := hw.ob id _ h1
      have hln : len * es' ≤ n * es' := Nat.mul_le_mul_right es' (by omega)
      refine ⟨xs.take (len * es'), by omega, by rw [List.length_take, o1.1]; omega, ?_, fun i hi j hj => ?_⟩
      · rcases o1.2 with ⟨q1, q2⟩ | ⟨b, cap', cur, q1, _⟩
        · rw [m1] at q1
          simp only [Value.slice.injEq] at q1
          obtain ⟨rfl, _, rfl⟩ := q1
          have : len = 0 := by omega
          subst this
          exact .inl ⟨rfl, rfl⟩
        · rw [m1] at q1
          simp only [Value.slice.injEq, true_and] at q1
          obtain ⟨rfl, rfl⟩ := q1
          refine .inr ⟨⟨b, 0, none⟩, cap, rfl, fun j u hu => ?_⟩
          have := o1.cells (g := b) (by rw [m1]; rfl) j u (by
            rw [List.getElem?_take] at hu
            split at hu
            · exact hu
            · cases hu)
          exact this
      · obtain ⟨u, u1, u2⟩ := o3 i (by omega) j hj
        refine ⟨u, ?_, u2⟩
        have : i * es' + es' ≤ len * es' := by rw [← Nat.succ_mul]; exact Nat.mul_le_mul_right es' hi
        rw [List.getElem?_take, if_pos (by omega)]
        exact u1
  | _ => simp [srcK] at h

/-- append. -/
def appK (e : Nat) (te : TI) (H : List O) (x y : C) : Option (List Prop × C × List O) :=
  match srcK te.size H y with
  | some (ns, m, g2) => match x with
    | .nils => some (ns ++ [m * te.bytes ≤ 140737488355328], .sl H.length te.size m m false, H ++ [.arr e te.size m g2])
    | .isl es n g tight => match Nat.beq es te.size with
      | true => some (ns ++ [tight = true, 1 ≤ m, n + m ≤ 9223372036854775807, (n + m) * te.bytes ≤ 140737488355328], .sl H.length te.size (n + m) (n + m) false, H ++ [.arr e te.size (n + m) (appG g n g2)])
      | false => none
    | .sl id es len tot _ => match Nat.beq es te.size with
      | true => match getL H id with
        | some (.arr e' _ n g) => match Nat.beq e' e with
          | true => match setL H id (.arr e te.size (n + m) (appG g n g2)) with
            | some H' => some (ns ++ [tot = n, len = n, n + m ≤ 9223372036854775807, (n + m) * te.bytes ≤ 140737488355328], .sl id te.size (n + m) (n + m) false, H')
            | none => none
          | false => none
        | _ => none
      | false => none
    | _ => none
  | none => none

theorem zsize {P : Program} {t : Nat} {i : TI} (ht : TIok P t i) : ∃ x z, P.info? t = some x ∧ x.size = i.size ∧ x.bytes = i.bytes ∧ x.zero = some z ∧ z.cells.size = i.zero.length := by
  obtain ⟨x, h1, h2, h3, z, h4, h5⟩ := ht.info
  exact ⟨x, z, h1, h2, h3, h4, by rw [← Array.length_toList, h5]; simp⟩

theorem getD_list {α : Type} (l : List α) (i : Nat) (h : i < l.length) : l[i]? = some l[i] := List.getElem?_eq_getElem h

theorem run_append_new {P : Program} {w : World} {t ty e : TypeId} {x : TypeInfo} {z : Value} (ht : P.underlying t = some (.slice e)) (hi : P.info? e = some x) (hz : x.zero = some z) (base : Option Addr) (n cap m : Nat) (v : Value) (hv : ∃ a c, v = .slice a m c)
    (old news : List Value) (ho : (Builtin.firstCells x.size n (.slice base n cap)).run P w.drew = .ok old.toArray w.drew) (hnw : (Builtin.firstCells x.size m v).run P w.drew = .ok news.toArray w.drew)
    (hgrow : cap < n + m) (h63 : n + m ≤ 9223372036854775807) (hb : (n + m) * x.bytes ≤ 140737488355328) :
    (Builtin.append_ #[t, t] ty #[.slice base n cap, v]).run P w =
      .ok (.slice (some ⟨w.heap.size, 0, none⟩) (n + m) (grownCap w (n + m) cap e)) (w.drew.alloc (.cells (old.toArray ++ news.toArray ++ Builtin.zeroCells z.cells (grownCap w (n + m) cap e - (n + m))) e)) := by
  obtain ⟨a, c, rfl⟩ := hv
  have hne : ¬ (n + m ≤ cap) := by omega
  have hq : Builtin.nextslicecap (n + m) cap * x.bytes ≤ 281474976710656 := by
    have h1 := nextslicecap_le hgrow
    have h2 : Builtin.nextslicecap (n + m) cap * x.bytes ≤ 2 * (n + m) * x.bytes := Nat.mul_le_mul_right _ h1
    rw [Nat.mul_assoc] at h2
    omega
  have h48' : ¬ (281474976710656 < Builtin.nextslicecap (n + m) cap * x.bytes) := by omega
  have h63'' : ¬ (9223372036854775807 < (n : Int) + (m : Int)) := by omega
  simp [Builtin.append_, run_underlying ht, sizeOf, typeInfo, zeroValue, hi, hz, Builtin.lenOf, hne, h63'', h48', ho, hnw, Question.forced, newRow, grownCap]
  congr 2
  rw [← Array.append_assoc]
  simp

set_option maxHeartbeats 2000000 in
theorem appK_ok {P : Program} {K : Keep} {F : Mem} {H H' : List O} {μ : Nat → Value} {w : World} (hw : HSat K F H μ w) {t e ty : Nat} {te : TI} (hu : P.underlying t = some (.slice e)) (hte : TIok P e te) (hzl : te.zero.length = te.size) (hpos : 0 < te.size)
    {x y c : C} {u v : Value} {ns : List Prop} (hx : RepC F H μ x u) (hy : RepC F H μ y v) (h : appK e te H x y = some (ns, c, H')) (hn : ∀ q ∈ ns, q) :
    ∃ r w' μ', (Builtin.append_ #[t, t] ty #[u, v]).run P w = .ok r w' ∧ HSat K F H' μ' w' ∧ Ext H μ H' μ' ∧ RepC F H' μ' c r := by
  unfold appK at h
  cases hsrc : srcK te.size H y with
  | none => simp [hsrc] at h
  | some p =>
    obtain ⟨ns', m, g2⟩ := p
    simp only [hsrc] at h
    obtain ⟨xi, z, i1, i2, i3, i4, i5⟩ := zsize hte
    have hzs : z.cells.size = te.size := by rw [i5, hzl]
    -- what an append to something of the call's own gives
    have own : ∀ (id n : Nat) (g : Nat → Nat → C) (old : List Value) (vv : Value) (H'' : List O), w.ownsRow 0 e te.size vv n old → n ≤ maxLen →
        (∀ i, i < n → ∀ j, j < te.size → ∃ u, old[i * te.size + j]? = some u ∧ RepC F H μ (g i j) u) → n + m ≤ 9223372036854775807 → (n + m) * te.bytes ≤ 140737488355328 →
        (∀ q ∈ ns', q) → getL H'' id = some (.arr e te.size (n + m) (appG g n g2)) → (∀ i, i ≠ id → getL H'' i = getL H i) →
        (∀ v', (m = 0 → v' = vv) → Ext H μ H'' (upd μ id v')) → (∀ k, vv.ownBlock = some k → owned H μ id k) →
        ∃ r w' μ', (Builtin.append_ #[t, t] ty #[vv, v]).run P w = .ok r w' ∧ HSat K F H'' μ' w' ∧ Ext H μ H'' μ' ∧ RepC F H'' μ' (.sl id te.size (n + m) (n + m) false) r := by
      intro id n g old vv H'' hown hnm hrep h63 hby hns hid hoth hE hob
      obtain ⟨news, hs⟩ := srcK_ok hw hy hsrc hns
      have key : ∃ v' w', (Builtin.append_ #[t, t] ty #[vv, v]).run P w = .ok v' w' ∧ w'.ownsRow 0 e te.size v' (n + m) (old ++ news) ∧ w.grownBy w' vv.ownBlock ∧ (m = 0 → v' = vv) ∧ (∀ b, blk v' = some b → vv.ownBlock = some b ∨ w.heap.size ≤ b) := by
        rcases hs.val with ⟨rfl, rfl⟩ | ⟨a, cc, rfl, hc⟩
        · have hnew : news = [] := List.eq_nil_of_length_eq_zero (by rw [hs.len]; simp)
          subst hnew
          refine ⟨vv, w, ?_, by simpa using hown, ⟨rfl, rfl, rfl, Nat.le_refl _, fun _ _ _ => rfl⟩, fun _ => rfl, fun b hb => .inl ?_⟩
          · exact run_append_owned_none (P := P) (w := w) 0 t ty e xi te.size hu i1 vv n old hown
          · rcases hown.2 with ⟨rfl, _⟩ | ⟨_, _, _, rfl, _⟩
            · cases hb
            · exact hb
        · obtain ⟨v', w', r1, r2, r3, r4⟩ := run_append_own (P := P) w 0 t ty e xi z te.size te.bytes hu i1 i4 i2 i3 hzs hpos vv n old hown a m cc news hs.len hc hs.one (by unfold maxLen; omega) (by omega) (Nat.zero_le _)
          refine ⟨v', w', r1, r2, r3, ?_, ?_⟩
          · intro hm
            subst hm
            rcases hown.2 with ⟨rfl, rfl⟩ | ⟨b, cap, cur, rfl, _, q3, q4, q5, q6, q7⟩
            · exact r4.2 ⟨rfl, rfl⟩
            · have : (Builtin.append_ #[t, t] ty #[.slice (some ⟨b, 0, none⟩) n cap, .slice (some a) 0 cc]).run P w = .ok (.slice (some ⟨b, 0, none⟩) (n + 0) cap) (w.setRow b (cur.toList.take (n * xi.size) ++ news ++ cur.toList.drop (n * xi.size + news.length)).toArray) :=
                run_append_room (P := P) w t ty e xi hu i1 b n cap cur q3 a 0 cc news (by rw [hs.len, i2]) hc hs.one (by omega) (by
                  rw [hs.len, i2, q6]
                  have := Nat.mul_le_mul_right te.size q4
                  omega)
              rw [this] at r1
              cases r1
              rfl
          · intro b hb
            rcases hown.2 with ⟨rfl, rfl⟩ | ⟨b', cap, cur, rfl, _, q3, q4, q5, q6, q7⟩
            · by_cases hm : m = 0
              · have := r4.2 ⟨rfl, hm⟩
                rw [this] at hb; cases hb
              · right
                have := run_append_nil (P := P) w t ty e xi z hu i1 i4 a m cc news (by rw [hs.len, i2]) hc (by omega) (by omega) (by rw [i3]; rw [Nat.zero_add] at hby; omega)
                rw [this] at r1
                cases r1
                cases hb
                exact Nat.le_refl _
            · by_cases hroom : n + m ≤ cap
              · left
                have : (Builtin.append_ #[t, t] ty #[.slice (some ⟨b', 0, none⟩) n cap, .slice (some a) m cc]).run P w = .ok (.slice (some ⟨b', 0, none⟩) (n + m) cap) (w.setRow b' (cur.toList.take (n * xi.size) ++ news ++ cur.toList.drop (n * xi.size + news.length)).toArray) :=
                  run_append_room (P := P) w t ty e xi hu i1 b' n cap cur q3 a m cc news (by rw [hs.len, i2]) hc hs.one hroom (by
                    rw [hs.len, i2, q6, ← Nat.add_mul]
                    exact Nat.mul_le_mul_right te.size hroom)
                rw [this] at r1
                cases r1
                cases hb
                rfl
              · right
                have hf1 : (Builtin.firstCells xi.size n (.slice (some ⟨b', 0, none⟩) n cap)).run P w.drew = .ok old.toArray w.drew := by
                  refine run_firstCells_some w.drew xi.size n ⟨b', 0, none⟩ n cap old (by rw [hown.1, i2]) (fun j u hu => ?_)
                  exact hown.cells (g := b') rfl j u hu
                have hf2 : (Builtin.firstCells xi.size m (.slice (some a) m cc)).run P w.drew = .ok news.toArray w.drew :=
                  run_firstCells_some w.drew xi.size m a m cc news (by rw [hs.len, i2]) (fun j u hu => hc j u hu)
                have := run_append_new (P := P) (w := w) (ty := ty) hu i1 i4 (some ⟨b', 0, none⟩) n cap m (.slice (some a) m cc) ⟨_, _, rfl⟩ old news hf1 hf2 (by omega) (by omega) (by rw [i3]; exact hby)
                rw [this] at r1
                cases r1
                cases hb
                exact Nat.le_refl _
      obtain ⟨v', w', r1, r2, r3, r4, r5⟩ := key
      have hE' := hE v' r4
      have hsat := hw.step id _ v' hid hoth hE' r3 hob (fun b hb => (r5 b hb).imp (hob b) fun q => q) (show OSat F H'' (upd μ id v') w' id (.arr e te.size (n + m) (appG g n g2)) from by
        refine ⟨old ++ news, by simp only [upd, if_true]; exact r2, by unfold maxLen; omega, fun i hi j hj => ?_⟩
        by_cases c : i < n
        · obtain ⟨u, u1, u2⟩ := hrep i c j hj
          have : i * te.size + te.size ≤ n * te.size := by rw [← Nat.succ_mul]; exact Nat.mul_le_mul_right _ c
          refine ⟨u, ?_, by simp only [appG, if_pos c]; exact RepC.mono (Mem.le_refl F) hE' _ _ u2⟩
          rw [List.getElem?_append_left (by rw [hown.1]; omega)]
          exact u1
        · obtain ⟨u, u1, u2⟩ := hs.rep (i - n) (by omega) j hj
          refine ⟨u, ?_, by simp only [appG, if_neg c]; exact RepC.mono (Mem.le_refl F) hE' _ _ u2⟩
          have : n * te.size ≤ i * te.size := Nat.mul_le_mul_right _ (by omega)
          rw [List.getElem?_append_right (by rw [hown.1]; omega), hown.1]
          rw [show i * te.size + j - n * te.size = (i - n) * te.size + j by rw [Nat.sub_mul]; omega]
          exact u1)
      refine ⟨v', w', _, r1, hsat, hE', ?_, e, n + m, _, hid, Nat.le_refl _, Nat.le_refl _, fun _ => ?_⟩
      · rcases r2.2 with ⟨rfl, _⟩ | ⟨_, _, _, rfl, _⟩ <;> rfl
      · rcases r2.2 with ⟨rfl, q⟩ | ⟨b, cap, _, rfl, _⟩
        · exact ⟨none, 0, by simp [upd, q], by simp [q], fun e => by cases e⟩
        · exact ⟨some ⟨b, 0, none⟩, cap, by simp [upd], rfl, fun e => by cases e⟩
    cases x with
    | nils =>
      simp only [Option.some.injEq, Prod.mk.injEq] at h
      obtain ⟨rfl, rfl, rfl⟩ := h
      rw [show u = _ from hx]
      obtain ⟨news, hs⟩ := srcK_ok hw hy hsrc (all_left hn)
      have hm := hs.le
      have hg2 : appG (fun _ _ => C.junk) 0 g2 = g2 := by funext i j; simp [appG]
      have := own H.length 0 (fun _ _ => .junk) [] (.slice none 0 0) (H ++ [.arr e te.size m g2]) (World.ownsRow_nil w 0 e te.size) (Nat.zero_le _) (fun i hi => by omega) (by unfold maxLen at hm; omega) (by rw [Nat.zero_add]; exact all_right hn _ (by simp)) (all_left hn)
        (by rw [Nat.zero_add, hg2]; exact getL_append_eq _ _) (fun i hi => getL_append_lt _ _ _ hi) (fun v' _ => Ext.push H μ _ v') (fun k hk => by cases hk)
      simpa using this
    | isl es n g tight =>
      simp only at h
      cases hb : Nat.beq es te.size with
      | false => simp [hb] at h
      | true =>
        have : es = te.size := Nat.eq_of_beq_eq_true hb
        subst this
        simp only [hb, Option.some.injEq, Prod.mk.injEq] at h
        obtain ⟨rfl, rfl, rfl⟩ := h
        have c1 : tight = true := all_right hn _ (by simp)
        have c2 : 1 ≤ m := all_right hn _ (by simp)
        have c3 : n + m ≤ 9223372036854775807 := all_right hn _ (by simp)
        have c4 : (n + m) * te.bytes ≤ 140737488355328 := all_right hn _ (by simp)
        obtain ⟨news, hs⟩ := srcK_ok hw hy hsrc (all_left hn)
        obtain ⟨olds, hos⟩ := srcK_ok hw (y := .isl te.size n g tight) (es := te.size) (ns := []) (m := n) (g := g) hx (by simp [srcK]) (by simp)
        obtain ⟨a, cap, rfl, q1, q2, q3, q3', q4⟩ := hx
        have hcap := q3 c1
        subst hcap
        have hf1 := hos.first P w.drew (fun _ => rfl) cap (Nat.le_refl _)
        have hf2 := hs.first P w.drew (fun _ => rfl) m (Nat.le_refl _)
        rw [List.take_of_length_le (by rw [hos.len]; exact Nat.le_refl _)] at hf1
        rw [List.take_of_length_le (by rw [hs.len]; exact Nat.le_refl _)] at hf2
        have hv : ∃ a c, v = .slice a m c := by
          rcases hs.val with ⟨rfl, rfl⟩ | ⟨a, c, rfl, _⟩
          · exact ⟨none, 0, rfl⟩
          · exact ⟨_, _, rfl⟩
        have run := run_append_new (P := P) (w := w) (ty := ty) hu i1 i4 a cap cap m v hv olds news (by rw [i2]; exact hf1) (by rw [i2]; exact hf2) (by omega) c3 (by rw [i3]; exact c4)
        have hge := grownCap_ge w (cap + m) cap e
        have hcm : grownCap w (cap + m) cap e ≤ maxLen := grownCap_le_maxLen w (cap + m) cap e (by unfold maxLen; omega)
        have hE := Ext.push H μ (.arr e te.size (cap + m) (appG g cap g2)) (.slice (some ⟨w.heap.size, 0, none⟩) (cap + m) (grownCap w (cap + m) cap e))
        refine ⟨_, _, _, run, hw.push _ _ ⟨rfl, rfl, rfl, by simp, fun k hk _ => heap_alloc_old w.drew _ k hk⟩ (fun b hb => by cases hb; exact Nat.le_refl _) ?_, hE, rfl, e, cap + m, _, getL_append_eq _ _, Nat.le_refl _, Nat.le_refl _, fun _ => ⟨_, _, by simp [upd], rfl, fun e => by cases e⟩⟩
        refine ⟨olds ++ news, ⟨by rw [List.length_append, hos.len, hs.len, Nat.add_mul], .inr ⟨w.heap.size, grownCap w (cap + m) cap e, _, by simp [upd], Nat.zero_le _, heap_alloc_new w.drew _, hge, hcm, ?_, ?_⟩⟩, by unfold maxLen; omega, fun i hi j hj => ?_⟩
        · simp only [Array.size_append, List.size_toArray, size_zeroCells, hzs, hos.len, hs.len, ← Nat.add_mul]
          congr 1
          omega
        · simp only [Array.toList_append, List.append_assoc]
          rw [← List.append_assoc]
          exact List.take_left' (by rw [List.length_append, hos.len, hs.len, Nat.add_mul])
        · by_cases c : i < cap
          · obtain ⟨u, u1, u2⟩ := hos.rep i c j hj
            have : i * te.size + te.size ≤ cap * te.size := by rw [← Nat.succ_mul]; exact Nat.mul_le_mul_right _ c
            refine ⟨u, ?_, by simp only [appG, if_pos c]; exact RepC.mono (Mem.le_refl F) hE _ _ u2⟩
            rw [List.getElem?_append_left (by rw [hos.len]; omega)]
            exact u1
          · obtain ⟨u, u1, u2⟩ := hs.rep (i - cap) (by omega) j hj
            refine ⟨u, ?_, by simp only [appG, if_neg c]; exact RepC.mono (Mem.le_refl F) hE _ _ u2⟩
            have : cap * te.size ≤ i * te.size := Nat.mul_le_mul_right _ (by omega)
            rw [List.getElem?_append_right (by rw [hos.len]; omega), hos.len]
            rw [show i * te.size + j - cap * te.size = (i - cap) * te.size + j by rw [Nat.sub_mul]; omega]
            exact u1
    | sl id es len tot xq =>
      simp only at h
      cases hb : Nat.beq es te.size with
      | false => simp [hb] at h
      | true =>
        have : es = te.size := Nat.eq_of_beq_eq_true hb
        subst this
        obtain ⟨_, e', n, g, h1, h2, h3, h4⟩ := hx
        simp only [hb, h1] at h
        cases hbe : Nat.beq e' e with
        | false => simp [hbe] at h
        | true =>
          have : e' = e := Nat.eq_of_beq_eq_true hbe
          subst this
          cases hset : setL H id (.arr e' te.size (n + m) (appG g n g2)) with
          | none => simp [hset] at h
          | some H'' =>
            simp only [hbe, hset, Option.some.injEq, Prod.mk.injEq] at h
            obtain ⟨rfl, rfl, rfl⟩ := h
            have c1 : tot = n := all_right hn _ (by simp)
            have c2 : len = n := all_right hn _ (by simp)
            have c3 : n + m ≤ 9223372036854775807 := all_right hn _ (by simp)
            have c4 : (n + m) * te.bytes ≤ 140737488355328 := all_right hn _ (by simp)
            obtain ⟨a, cap, m1, rfl, _⟩ := h4 c1
            subst c2
            obtain ⟨xs, o1, o2, o3⟩ := hw.ob id _ h1
            obtain ⟨e1, e2⟩ := getL_set hset
            rw [← m1]
            refine own id len g xs (μ id) H'' o1 o2 o3 c3 c4 (all_left hn) e1 e2 ?_ ?_
            · intro v' hv'
              refine ⟨fun id' cs hc => ?_, fun id' e0 es0 n0 g0 hc => ?_⟩
              · have hne : id' ≠ id := fun ee => by subst ee; rw [h1] at hc; cases hc
                exact ⟨⟨cs, by rw [e2 id' hne]; exact hc⟩, by simp [upd, hne]⟩
              · by_cases ee : id' = id
                · subst ee
                  rw [h1] at hc
                  cases hc
                  exact ⟨_, _, e1, by omega, fun q => by simp only [upd, if_true]; exact hv' (by omega)⟩
                · exact ⟨n0, g0, by rw [e2 id' ee]; exact hc, Nat.le_refl _, fun _ => by simp [upd, ee]⟩
            · intro k hk
              refine ⟨⟨_, h1, by simp⟩, ?_⟩
              rw [m1] at hk ⊢
              cases a with
              | none => cases hk
              | some a => exact hk
    | _ => simp at h

end Go.Am
end

section
/- THE ABSTRACT MACHINE, PART 10: make, copy, slice literals. -/
namespace Go.Am

def makeK (e : Nat) (te : TI) (H : List O) (l c : Int) (x : Bool) : List Prop × C × List O :=
  ([0 ≤ l, l ≤ c, c * te.bytes ≤ 140737488355328, c ≤ 9223372036854775807, x = true → l = c], .sl H.length te.size l.toNat l.toNat x, H ++ [.arr e te.size l.toNat (zeroG (zeroL te))])

theorem mod_lt_self {es : Nat} (i j : Nat) (hj : j < es) : (i * es + j) % es = j := by
  rw [Nat.add_comm, Nat.mul_comm, Nat.add_mul_mod_self_left]; exact Nat.mod_eq_of_lt hj

theorem makeK_ok {P : Program} {K : Keep} {F : Mem} {H : List O} {μ : Nat → Value} {w : World} (hw : HSat K F H μ w) {t e : Nat} {te : TI} (hu : P.underlying t = some (.slice e)) (hte : TIok P e te) (hzl : te.zero.length = te.size)
    {l c : Int} {xq : Bool} {kl kc : IntKind} (hn : ∀ q ∈ (makeK e te H l c xq).1, q) :
    ∃ r w' μ', (Instr.makeSlice t (.int kl l) (.int kc c)).run P w = .ok r w' ∧ HSat K F (makeK e te H l c xq).2.2 μ' w' ∧ Ext H μ (makeK e te H l c xq).2.2 μ' ∧ RepC F (makeK e te H l c xq).2.2 μ' (makeK e te H l c xq).2.1 r := by
  have c0 : 0 ≤ l := hn _ (by simp [makeK])
  have c1 : l ≤ c := hn _ (by simp [makeK])
  have c2 : c * te.bytes ≤ 140737488355328 := hn _ (by simp [makeK])
  have c3 : c ≤ 9223372036854775807 := hn _ (by simp [makeK])
  have c4 : xq = true → l = c := hn (xq = true → l = c) (by simp only [makeK, List.mem_cons]; simp)
  obtain ⟨z, _, z2, x, x1, x2⟩ := zeroL_ok (P := P) (F := F) (H := H) (μ := μ) hte w
  obtain ⟨x', i1, i2, i3, _⟩ := hte.info
  rw [x1] at i1
  cases i1
  have hzs : z.cells.size = te.size := by rw [z2.1]; simp [zeroL, hzl]
  have run := run_make (P := P) w t e x z hu x1 x2 kl kc l c c0 c1 (by rw [i3]; rw [Int.mul_comm]; omega) c3
  have hE := Ext.push H μ (.arr e te.size l.toNat (zeroG (zeroL te))) (.slice (some ⟨w.heap.size, 0, none⟩) l.toNat c.toNat)
  refine ⟨_, _, upd μ H.length (.slice (some ⟨w.heap.size, 0, none⟩) l.toNat c.toNat), run, hw.push _ _ (World.grownBy_alloc w _ none) (fun b hb => by cases hb; exact Nat.le_refl _) ?_, hE, rfl, e, l.toNat, _, getL_append_eq _ _, Nat.le_refl _, Nat.le_refl _, fun _ => ⟨_, _, by simp [upd], rfl, fun e => by rw [c4 e]⟩⟩
  have hlc : l.toNat ≤ c.toNat := by omega
  have hmul : l.toNat * te.size ≤ c.toNat * te.size := Nat.mul_le_mul_right _ hlc
  refine ⟨(madeCells z.cells (c.toNat * x.size)).toList.take (l.toNat * te.size), ⟨?_, .inr ⟨w.heap.size, c.toNat, madeCells z.cells (c.toNat * x.size), by simp [upd], Nat.zero_le _, heap_alloc_new w _, hlc, by unfold maxLen; omega, by rw [size_madeCells, i2], rfl⟩⟩, by unfold maxLen; omega, fun i hi j hj => ?_⟩
  · rw [List.length_take, Array.length_toList, size_madeCells, i2]; omega
  · have hlt : i * te.size + te.size ≤ l.toNat * te.size := by rw [← Nat.succ_mul]; exact Nat.mul_le_mul_right _ hi
    have hj' : j < (zeroL te).length := by simp [zeroL, hzl, hj]
    obtain ⟨u, u1, u2⟩ := z2.2 j (zeroL te)[j] (by rw [getL_eq]; simp [hj'])
    refine ⟨u, ?_, ?_⟩
    · rw [List.getElem?_take, if_pos (by omega)]
      simp only [madeCells, i2]
      have hq : i * te.size + j < c.toNat * te.size := by omega
      rw [Array.getElem?_toList, Array.getElem?_map, Array.getElem?_range, if_pos hq]
      simp only [Option.map_some, hzs, mod_lt_self i j hj]
      have hjz : j < z.cells.size := by omega
      rw [getElem!_pos z.cells j hjz]
      rw [Array.getElem?_eq_getElem hjz] at u1
      exact u1
    · simp only [zeroG, lget, getL_eq]
      rw [List.getElem?_eq_getElem hj']
      exact RepC.mono (Mem.le_refl F) hE _ _ u2

/-- copy. -/
def copyK (te : TI) (H : List O) (x y : C) : Option (List Prop × C × List O) :=
  match srcK te.size H y with
  | some (ns, m, g2) => match x with
    | .sl id es len tot _ => match Nat.beq es te.size with
      | true => match getL H id with
        | some (.arr e _ n g) => match setL H id (.arr e te.size n (copyG g (min m len) g2)) with
          | some H' => some (ns ++ [tot = n], .int .i64 (min m len : Nat), H')
          | none => none
        | _ => none
      | false => none
    | _ => none
  | none => none

theorem copyK_ok {P : Program} {K : Keep} {F : Mem} {H H' : List O} {μ : Nat → Value} {w : World} (hw : HSat K F H μ w) {t t2 e ty : Nat} {te : TI} (hu : P.underlying t = some (.slice e)) (hte : TIok P e te)
    {x y c : C} {u v : Value} {ns : List Prop} (hx : RepC F H μ x u) (hy : RepC F H μ y v) (h : copyK te H x y = some (ns, c, H')) (hn : ∀ q ∈ ns, q) :
    ∃ r w', (Builtin.copy_ #[t, t2] ty #[u, v]).run P w = .ok r w' ∧ HSat K F H' μ w' ∧ Ext H μ H' μ ∧ RepC F H' μ c r := by
  unfold copyK at h
  cases hsrc : srcK te.size H y with
  | none => simp [hsrc] at h
  | some p =>
    obtain ⟨ns', m, g2⟩ := p
    simp only [hsrc] at h
    cases x with
    | sl id es len tot xq =>
      simp only at h
      cases hb : Nat.beq es te.size with
      | false => simp [hb] at h
      | true =>
        have : es = te.size := Nat.eq_of_beq_eq_true hb
        subst this
        obtain ⟨_, e', n, g, h1, h2, h3, h4⟩ := hx
        simp only [hb, h1] at h
        cases hset : setL H id (.arr e' te.size n (copyG g (min m len) g2)) with
        | none => simp [hset] at h
        | some H'' =>
          simp only [hset, Option.some.injEq, Prod.mk.injEq] at h
          obtain ⟨rfl, rfl, rfl⟩ := h
          have c1 : tot = n := all_right hn _ (by simp)
          obtain ⟨news, hs⟩ := srcK_ok hw hy hsrc (all_left hn)
          obtain ⟨a, cap, m1, rfl, _⟩ := h4 c1
          obtain ⟨e1, e2⟩ := getL_set hset
          obtain ⟨xs, o1, o2, o3⟩ := hw.ob id _ h1
          have hE : Ext H μ H'' μ := ext_same (fun id' o ho => by
            by_cases ee : id' = id
            · subst ee
              rw [h1] at ho
              cases ho
              exact ⟨_, e1⟩
            · rw [← e2 id' ee] at ho
              cases o with
              | vr c' => exact ⟨c', ho⟩
              | arr e es n g => exact ⟨g, ho⟩
              | dead => trivial)
          have hf := hs.first P w (fun _ => rfl) (min m len) (Nat.min_le_left _ _)
          have hsz := sizeOf_ok hte w
          have hlen : (Builtin.lenOf v).run P w = .ok m w := by
            rcases hs.val with ⟨rfl, rfl⟩ | ⟨a, c, rfl, _⟩ <;> simp [Builtin.lenOf]
          have hmin : Nat.min m len = min m len := rfl
          have hcl : (news.take (min m len * te.size)).length = min m len * te.size := by
            rw [List.length_take, hs.len]; exact Nat.min_eq_left (Nat.mul_le_mul_right _ (Nat.min_le_left _ _))
          rcases o1.2 with ⟨q1, q2⟩ | ⟨b, cap', cur, q1, q2, q3, q4, q5, q6, q7⟩
          · rw [m1] at q1
            simp only [Value.slice.injEq] at q1
            obtain ⟨rfl, _, rfl⟩ := q1
            have hl0 : len = 0 := by omega
            subst hl0
            refine ⟨goInt (min m 0 : Nat), w, ?_, ?_, hE, rfl⟩
            · have hf0 := hs.first P w (fun _ => rfl) 0 (Nat.zero_le _)
              simp at hf0
              simp [Builtin.copy_, run_underlying hu, hlen, hsz, hf0]
            · have := hw.step id _ (μ id) (w' := w) (row := none) e1 e2 (by rw [upd_self]; exact hE) ⟨rfl, rfl, rfl, Nat.le_refl _, fun _ _ _ => rfl⟩ (fun k hk => by cases hk) (fun k ee => .inl ⟨⟨_, h1, by simp⟩, ee⟩) (by
                rw [upd_self]
                exact ⟨xs, o1, o2, fun i hi => by omega⟩)
              simpa [upd_self] using this
          · rw [m1] at q1
            simp only [Value.slice.injEq, true_and] at q1
            obtain ⟨rfl, rfl⟩ := q1
            have hle : min m len * te.size ≤ n * te.size := Nat.mul_le_mul_right _ (by omega)
            have hnc : n * te.size ≤ cap * te.size := Nat.mul_le_mul_right _ q4
            have hfit : 0 + (news.take (min m len * te.size)).length ≤ cur.size := by rw [hcl, q6]; omega
            have hone : ∀ v ∈ news.take (min m len * te.size), v.oneCell' = true := fun v hv => hs.one v (List.mem_of_mem_take hv)
            have hst := run_storeCells_at P b 0 e' (news.take (min m len * te.size)) 0 cur w q3 (by simpa using hfit) hone
            refine ⟨goInt (min m len : Nat), w.setRow b (cur.toList.take 0 ++ news.take (min m len * te.size) ++ cur.toList.drop (0 + (news.take (min m len * te.size)).length)).toArray, ?_, ?_, hE, rfl⟩
            · have hst' := hst
              simp only [Nat.add_zero] at hst'
              simp [Builtin.copy_, run_underlying hu, hlen, hsz, hmin, hf, hst']
            · have := hw.step id (.arr e' te.size n (copyG g (min m len) g2)) (μ id) (w' := w.setRow b (cur.toList.take 0 ++ news.take (min m len * te.size) ++ cur.toList.drop (0 + (news.take (min m len * te.size)).length)).toArray) e1 e2 (by rw [upd_self]; exact hE) (setRow_grown w b _)
                (fun k' ee => by cases ee; exact ⟨⟨_, h1, by simp⟩, by rw [m1]; rfl⟩) (fun k' ee => .inl ⟨⟨_, h1, by simp⟩, ee⟩) ?_
              · simpa [upd_self] using this
              · have hm := fun q => list_mid cur.toList (news.take (min m len * te.size)) 0 (by simpa using hfit) q
                refine ⟨(cur.toList.take 0 ++ news.take (min m len * te.size) ++ cur.toList.drop (0 + (news.take (min m len * te.size)).length)).take (n * te.size), ⟨?_, .inr ⟨b, cap, _, by simp [upd, m1], Nat.zero_le _, setRow_heap w b cur _ e' (0, 0) q3, q4, q5, ?_, by simp⟩⟩, o2, fun i hi j hj => ?_⟩
                · rw [List.length_take]
                  simp only [List.length_append, List.length_take, List.length_drop, Array.length_toList] at hfit ⊢
                  omega
                · simp only [List.size_toArray, List.length_append, List.length_take, List.length_drop, Array.length_toList] at hfit ⊢
                  omega
                · rw [upd_self]
                  have hi2 : i * te.size + te.size ≤ n * te.size := by rw [← Nat.succ_mul]; exact Nat.mul_le_mul_right _ hi
                  rw [List.getElem?_take, if_pos (by omega), hm]
                  simp only [copyG]
                  by_cases cc : i < min m len
                  · have hi3 : i * te.size + te.size ≤ min m len * te.size := by rw [← Nat.succ_mul]; exact Nat.mul_le_mul_right _ cc
                    rw [if_pos (by rw [hcl]; omega), if_pos cc]
                    obtain ⟨u, u1, u2⟩ := hs.rep i (by omega) j hj
                    refine ⟨u, ?_, RepC.mono (Mem.le_refl F) hE _ _ u2⟩
                    rw [Nat.sub_zero, List.getElem?_take, if_pos (by omega)]
                    exact u1
                  · have hi3 : min m len * te.size ≤ i * te.size := Nat.mul_le_mul_right _ (by omega)
                    rw [if_neg (by rw [hcl]; omega), if_neg cc]
                    obtain ⟨u, u1, u2⟩ := o3 i hi j hj
                    refine ⟨u, ?_, RepC.mono (Mem.le_refl F) hE _ _ u2⟩
                    rw [← q7, List.getElem?_take, if_pos (by omega)] at u1
                    exact u1
    | _ => simp at h

/-- A slice literal's elements. -/
def buildP (es : Nat) (ts : Ts) : List (Nat × Operand) → List C → Option (List C)
  | [], cells => some cells
  | (i, x) :: r, cells => match (opnd ts x).cells with
    | some ys => match Nat.beq ys.length es with
      | true => match splice cells (i * es) ys with
        | some cells' => buildP es ts r cells'
        | none => none
      | false => none
    | none => none

def repL : Nat → List C → List C
  | 0, _ => []
  | n + 1, l => l ++ repL n l

def buildSK (e : Nat) (te : TI) (ts : Ts) (H : List O) (len : Nat) (parts : List (Nat × Operand)) : Option (C × List O) :=
  match Nat.ble (len * te.size) 1000 && Nat.ble len 1000 with
  | true => match buildP te.size ts parts (repL len (zeroL te)) with
    | some cs => some (.sl H.length te.size len len true, H ++ [.arr e te.size len (flatG te.size cs)])
    | none => none
  | false => none

theorem repL_len (l : List C) : ∀ n, (repL n l).length = n * l.length
  | 0 => by simp [repL]
  | n + 1 => by simp [repL, repL_len l n, Nat.succ_mul, Nat.add_comm]

theorem repL_get (l : List C) : ∀ (n q : Nat) (x : C), getL (repL n l) q = some x → 0 < l.length ∧ getL l (q % l.length) = some x
  | 0, q, x, h => by simp [repL, getL] at h
  | n + 1, q, x, h => by
    rw [repL, getL_eq] at h
    by_cases c : q < l.length
    · rw [List.getElem?_append_left c] at h
      exact ⟨by omega, by rw [getL_eq, Nat.mod_eq_of_lt c]; exact h⟩
    · rw [List.getElem?_append_right (by omega), ← getL_eq] at h
      obtain ⟨h1, h2⟩ := repL_get l n _ x h
      refine ⟨h1, ?_⟩
      rw [Nat.mod_eq_sub_mod (by omega)]
      exact h2

theorem buildSK_ok {P : Program} {K : Keep} {F : Mem} {H H' : List O} {μ : Nat → Value} {w : World} (hw : HSat K F H μ w) {ts : Ts} {a : Act} (hT : TSat F H μ ts a.tmps) {t e : Nat} {te : TI} (hu : P.underlying t = some (.slice e)) (hte : TIok P e te)
    (hzl : te.zero.length = te.size) {len : Nat} {parts : Array (Nat × Operand)} {c : C} (h : buildSK e te ts H len parts.toList = some (c, H')) :
    ∃ r w' μ', (Instr.buildSlice t len (parts.map fun (i, x) => (i, a.eval x))).run P w = .ok r w' ∧ HSat K F H' μ' w' ∧ Ext H μ H' μ' ∧ RepC F H' μ' c r := by
  unfold buildSK at h
  cases hb : Nat.ble (len * te.size) 1000 && Nat.ble len 1000 with
  | false => simp [hb] at h
  | true =>
    simp only [hb] at h
    rw [Bool.and_eq_true] at hb
    have hle := Nat.le_of_ble_eq_true hb.1
    have hle2 := Nat.le_of_ble_eq_true hb.2
    cases hp : buildP te.size ts parts.toList (repL len (zeroL te)) with
    | none => simp [hp] at h
    | some cs =>
      simp only [hp, Option.some.injEq, Prod.mk.injEq] at h
      obtain ⟨rfl, rfl⟩ := h
      obtain ⟨z, z1, z2, x, x1, x2⟩ := zeroL_ok (P := P) (F := F) (H := H) (μ := μ) hte w
      have hzs : z.cells.size = te.size := by rw [z2.1]; simp [zeroL, hzl]
      have hzl' : (zeroL te).length = te.size := by simp [zeroL, hzl]
      have hsz := sizeOf_ok hte w
      let zero : Array Value := if len * te.size = 0 then #[] else z.cells
      let start : Array Value := (Array.range (len * te.size)).map (zero[· % zero.size]!)
      have hstart : RepL F H μ (repL len (zeroL te)) start := by
        refine ⟨by simp [start, repL_len, hzl'], fun q y hq => ?_⟩
        have hlt := getL_lt hq
        rw [repL_len, hzl'] at hlt
        obtain ⟨h1, h2⟩ := repL_get _ _ _ _ hq
        rw [hzl'] at h1 h2
        obtain ⟨u, u1, u2⟩ := z2.2 _ y h2
        refine ⟨u, ?_, u2⟩
        have hz0 : zero = z.cells := by simp only [zero]; rw [if_neg (by omega)]
        simp only [start, hz0, hzs]
        rw [Array.getElem?_map, Array.getElem?_range, if_pos hlt]
        simp only [Option.map_some]
        have hjz : q % te.size < z.cells.size := by rw [hzs]; exact Nat.mod_lt _ h1
        rw [getElem!_pos z.cells _ hjz]
        rw [Array.getElem?_eq_getElem hjz] at u1
        exact u1
      have fill : ∀ (ps : List (Nat × Operand)) (cells r : List C) (vs : Array Value), buildP te.size ts ps cells = some r → RepL F H μ cells vs →
          ∃ us, Instr.fill (fun i => some (i * te.size, te.size)) vs (ps.map fun x => (x.1, a.eval x.2)) = some us ∧ RepL F H μ r us := by
        intro ps
        induction ps with
        | nil => intro cells r vs h hl; simp only [buildP, Option.some.injEq] at h; subst h; exact ⟨vs, rfl, hl⟩
        | cons p ps ih =>
          obtain ⟨i, x⟩ := p
          intro cells r vs h hl
          simp only [buildP] at h
          cases h3 : (opnd ts x).cells with
          | none => simp [h3] at h
          | some ys =>
            cases h4 : Nat.beq ys.length te.size with
            | false => simp only [h3, h4] at h; cases h
            | true =>
              cases h5 : Am.splice cells (i * te.size) ys with
              | none => simp only [h3, h4, h5] at h; cases h
              | some cells' =>
                simp only [h3, h4, h5] at h
                have hys := cells_ok (opnd_ok hT x) h3
                obtain ⟨us, u1, u2⟩ := ih cells' r _ h (hl.splice hys h5)
                have hsz' : (a.eval x).cells.size = te.size := by rw [hys.1]; exact Nat.eq_of_beq_eq_true h4
                have hfit := (splice_ok _ _ _ _ h5).2.1
                refine ⟨us, ?_, u2⟩
                simp only [List.map_cons, Instr.fill]
                rw [if_neg]
                · exact u1
                · have q1 := hl.1
                  have q2 := hys.1
                  simp [hsz']
                  omega
      obtain ⟨us, u1, u2⟩ := fill parts.toList _ cs start hp hstart
      have hcl : cs.length = len * te.size := by
        have : ∀ (ps : List (Nat × Operand)) (cells r : List C), buildP te.size ts ps cells = some r → r.length = cells.length := by
          intro ps
          induction ps with
          | nil => intro cells r h; simp only [buildP, Option.some.injEq] at h; rw [h]
          | cons p ps ih =>
            obtain ⟨i, x⟩ := p
            intro cells r h
            simp only [buildP] at h
            split at h
            · split at h
              · split at h
                · rename_i h5
                  rw [ih _ _ h, (splice_ok _ _ _ _ h5).1]
                · cases h
              · cases h
            · cases h
        rw [this _ _ _ hp, repL_len, hzl']
      have hE := Ext.push H μ (.arr e te.size len (flatG te.size cs)) (.slice (some ⟨w.heap.size, 0, none⟩) len len)
      have hmax : len ≤ maxLen := by
        unfold maxLen; omega
      refine ⟨.slice (some ⟨w.heap.size, 0, none⟩) len len, w.alloc (.cells us e), upd μ H.length (.slice (some ⟨w.heap.size, 0, none⟩) len len), ?_, hw.push _ _ (World.grownBy_alloc w _ none) (fun b hb => by cases hb; exact Nat.le_refl _) ?_, hE, rfl, e, len, _, getL_append_eq _ _, Nat.le_refl _, Nat.le_refl _, fun _ => ⟨_, _, by simp [upd], rfl, fun _ => rfl⟩⟩
      · have hfill : Instr.fill (fun i => some (i * te.size, te.size)) ((Array.range (len * te.size)).map (zero[· % zero.size]!)) (parts.map fun (i, x) => (i, a.eval x)).toList = some us := by
          simpa using u1
        unfold Instr.buildSlice
        rw [bind_ok (run_underlying hu w)]
        simp only
        rw [bind_ok hsz]
        rw [if_neg (by omega)]
        by_cases c : len * te.size = 0
        · have hz0 : zero = #[] := by simp only [zero, if_pos c]
          rw [hz0] at hfill
          simp only [if_pos c]
          rw [bind_ok (show (pure #[] : Sem (Array Value)).run P w = .ok _ w from rfl)]
          simp only [hfill]
          simp [newRow, newObj, Sem.run]
        · have hz0 : zero = z.cells := by simp only [zero, if_neg c]
          rw [hz0] at hfill
          simp only [if_neg c]
          rw [bind_ok z1]
          rw [bind_ok (show (pure z.cells : Sem (Array Value)).run P w = .ok _ w from rfl)]
          simp only [hfill]
          simp [newRow, newObj, Sem.run]
      · refine ⟨us.toList, ⟨by rw [Array.length_toList, u2.1, hcl], .inr ⟨w.heap.size, len, us, by simp [upd], Nat.zero_le _, heap_alloc_new w _, Nat.le_refl _, hmax, by rw [u2.1, hcl], ?_⟩⟩, hmax, fun i hi j hj => ?_⟩
        · rw [List.take_of_length_le]; rw [Array.length_toList, u2.1, hcl]; exact Nat.le_refl _
        · have hlt : i * te.size + te.size ≤ len * te.size := by rw [← Nat.succ_mul]; exact Nat.mul_le_mul_right _ hi
          have hq : i * te.size + j < cs.length := by rw [hcl]; omega
          obtain ⟨u, v1, v2⟩ := u2.2 (i * te.size + j) cs[i * te.size + j] (by rw [getL_eq]; simp [hq])
          refine ⟨u, by simpa using v1, ?_⟩
          simp only [flatG, lget, getL_eq]
          rw [List.getElem?_eq_getElem hq]
          exact RepC.mono (Mem.le_refl F) hE _ _ v2

end Go.Am
end

section
/- THE ABSTRACT MACHINE, PART 11: the operations that change what is tracked, all of them. -/
namespace Go.Am

def goodT (te : TI) : Bool := Nat.beq te.zero.length te.size && Nat.blt 0 te.size

theorem goodT_ok {te : TI} (h : goodT te = true) : te.zero.length = te.size ∧ 0 < te.size := by
  unfold goodT at h
  rw [Bool.and_eq_true] at h
  exact ⟨Nat.eq_of_beq_eq_true h.1, Nat.le_of_ble_eq_true h.2⟩

/-- The same operand twice. -/
def sameOp : Operand → Operand → Bool
  | .tmp a, .tmp b => Nat.beq a b
  | .const (.int _ a), .const (.int _ b) => decide (a = b)
  | _, _ => false

def eff (Γ : Env) (ts : Ts) (H : List O) (op : Op) : Option (List Prop × S × List O) :=
  match op with
  | .alloc t => match Γ.at t with
    | some i => forceL (zeroL i) fun cs => some ([], .c (.ptr H.length 0), H ++ [.vr cs])
    | none => none
  | .box _ x => match bare (opnd ts x) with
    | (p, s) => match s.cells with
      | some cs => some (p, .c (.ptr H.length 0), H ++ [.vr cs])
      | none => none
  | .store t a x => match Γ.at t with
    | some i => match bare (opnd ts a) with
      | (p, .c a) => match bare (opnd ts x) with
        | (q, s) => match s.cells with
          | some ys => match Nat.beq ys.length i.size with
            | true => match storeK H a ys with
              | some (r, H') => some (p ++ q ++ r, .u, H')
              | none => none
            | false => none
          | none => none
      | _ => none
    | none => none
  | .makeSlice t l c => match elemOf Γ t with
    | some (e, te) => match goodT te with
      | true => match bare (opnd ts l) with
        | (p, .c (.int _ l')) => match bare (opnd ts c) with
          | (q, .c (.int _ c')) => match makeK e te H l' c' (sameOp l c) with
            | (r, c, H') => some (p ++ q ++ r, .c c, H')
          | _ => none
        | _ => none
      | false => none
    | none => none
  | .buildSlice t len parts => match elemOf Γ t with
    | some (e, te) => match goodT te with
      | true => match buildSK e te ts H len parts.toList with
        | some (c, H') => some ([], .c c, H')
        | none => none
      | false => none
    | none => none
  | .call { callee := .builtin .append, args, argTypes } => match args.toList with
    | [x, y] => match argTypes.toList with
      | [t, t'] => match Nat.beq t t' with
        | true => match elemOf Γ t with
          | some (e, te) => match goodT te with
            | true => match bare (opnd ts x) with
              | (p, .c x) => match bare (opnd ts y) with
                | (q, .c y) => match appK e te H x y with
                  | some (r, c, H') => some (p ++ q ++ r, .c c, H')
                  | none => none
                | _ => none
              | _ => none
            | false => none
          | none => none
        | false => none
      | _ => none
    | _ => none
  | .call { callee := .builtin .copy, args, argTypes } => match args.toList with
    | [x, y] => match argTypes.toList with
      | [t, _] => match elemOf Γ t with
        | some (_, te) => match bare (opnd ts x) with
          | (p, .c x) => match bare (opnd ts y) with
            | (q, .c y) => match copyK te H x y with
              | some (r, c, H') => some (p ++ q ++ r, .c c, H')
              | none => none
            | _ => none
          | _ => none
        | none => none
      | _ => none
    | _ => none
  | _ => none

def nextVal : Next → Value
  | .value v => v
  | _ => undef

theorem eff_ok {P : Program} {Γ : Env} (hΓ : EnvOk P Γ) {K : Keep} {F : Mem} {H H' : List O} {μ : Nat → Value} {w : World} (hw : HSat K F H μ w) {ts : Ts} {a : Act} (hT : TSat F H μ ts a.tmps) (o : Oper) {ns : List Prop} {s : S}
    (h : eff Γ ts H o.op = some (ns, s, H')) (hn : ∀ q ∈ ns, q) :
    ∃ nx w' μ', (execOp a.eval o).run P w = .ok nx w' ∧ (nx = .skip ∨ ∃ v, nx = .value v) ∧ HSat K F H' μ' w' ∧ Ext H μ H' μ' ∧ RepS F H' μ' s (nextVal nx) := by
  have O := opnd_ok hT
  have B : ∀ {x : Operand} {p : List Prop} {s' : S}, bare (opnd ts x) = (p, s') → (∀ q ∈ p, q) → RepS F H μ s' (a.eval x) := fun hb hp => bare_ok (O _) hb hp
  unfold eff at h
  split at h
  · -- alloc
    rename_i t ho
    split at h
    · rename_i i hi
      rw [forceL_eq] at h
      cases h
      obtain ⟨z, z1, z2, _⟩ := zeroL_ok (P := P) (F := F) (H := H) (μ := μ) (hΓ t i hi) w
      obtain ⟨r, w', v', r1, r2, r3, r4⟩ := newVar_ok (P := P) hw t z z2
      refine ⟨.value r, w', _, ?_, .inr ⟨r, rfl⟩, r2, r3, r4⟩
      unfold execOp
      rw [ho]
      apply val1
      show (do let zero ← zeroValue t; pure (Value.pointer (some (← newVar t zero))) : Sem Value).run P w = _
      rw [bind_ok z1]
      exact r1
    · cases h
  · -- box
    rename_i t x ho
    split at h
    rename_i p s' hb
    split at h
    · rename_i cs hc
      cases h
      have hx := B hb hn
      obtain ⟨r, w', v', r1, r2, r3, r4⟩ := newVar_ok (P := P) hw t (a.eval x) (cells_ok hx hc)
      exact ⟨.value r, w', _, by unfold execOp; rw [ho]; exact val1 r1, .inr ⟨r, rfl⟩, r2, r3, r4⟩
    · cases h
  · -- store
    rename_i t ad x ho
    split at h
    · rename_i i hi
      split at h
      · rename_i p c hb1
        split at h
        rename_i q s' hb2
        split at h
        · rename_i ys hys
          split at h
          · rename_i hl
            split at h
            · rename_i r H'' hs
              cases h
              obtain ⟨w', r1, r2, r3⟩ := storeK_ok (P := P) hw (hΓ t i hi) (B hb1 (all_left (all_left hn))) (cells_ok (B hb2 (all_right (all_left hn))) hys) (Nat.eq_of_beq_eq_true hl) hs (all_right hn)
              refine ⟨.skip, w', μ, ?_, .inl rfl, r2, r3, trivial⟩
              unfold execOp
              rw [ho]
              simp only
              rw [bind_ok r1]
              rfl
            · cases h
          · cases h
        · cases h
      · cases h
    · cases h
  · -- makeSlice
    rename_i t l c ho
    split at h
    · rename_i e te he
      split at h
      · rename_i hg
        split at h
        · rename_i p kl l' hb1
          split at h
          · rename_i q kc c' hb2
            obtain ⟨hu, hte⟩ := elemOf_ok (P := P) hΓ he
            have h1 : a.eval l = .int kl l' := B hb1 (by
              cases h
              exact all_left (all_left hn))
            have h2 : a.eval c = .int kc c' := B hb2 (by
              cases h
              exact all_right (all_left hn))
            simp only [Option.some.injEq, Prod.mk.injEq] at h
            obtain ⟨rfl, rfl, rfl⟩ := h
            obtain ⟨r, w', μ', r1, r2, r3, r4⟩ := makeK_ok (P := P) hw hu hte (goodT_ok hg).1 (l := l') (c := c') (xq := sameOp l c) (kl := kl) (kc := kc) (all_right hn)
            exact ⟨.value r, w', μ', by unfold execOp; rw [ho]; simp only [h1, h2]; exact val1 r1, .inr ⟨r, rfl⟩, r2, r3, r4⟩
          · cases h
        · cases h
      · cases h
    · cases h
  · -- buildSlice
    rename_i t len parts ho
    split at h
    · rename_i e te he
      split at h
      · rename_i hg
        split at h
        · rename_i c H'' hb
          cases h
          obtain ⟨hu, hte⟩ := elemOf_ok (P := P) hΓ he
          obtain ⟨r, w', μ', r1, r2, r3, r4⟩ := buildSK_ok (P := P) hw hT hu hte (goodT_ok hg).1 hb
          exact ⟨.value r, w', μ', by unfold execOp; rw [ho]; exact val1 r1, .inr ⟨r, rfl⟩, r2, r3, r4⟩
        · cases h
      · cases h
    · cases h
  · -- append
    rename_i args argTypes ho
    split at h
    · rename_i x y hargs
      split at h
      · rename_i t t' htypes
        have ha : args = #[x, y] := by apply Array.toList_inj.1; simpa using hargs
        have hty : argTypes = #[t, t'] := by apply Array.toList_inj.1; simpa using htypes
        subst ha
        subst hty
        split at h
        · rename_i htt
          have : t = t' := Nat.eq_of_beq_eq_true htt
          subst this
          split at h
          · rename_i e te he
            split at h
            · rename_i hg
              split at h
              · rename_i p x' hb1
                split at h
                · rename_i q y' hb2
                  split at h
                  · rename_i r c H'' happ
                    cases h
                    obtain ⟨hu, hte⟩ := elemOf_ok (P := P) hΓ he
                    obtain ⟨v, w', μ', r1, r2, r3, r4⟩ := appK_ok (P := P) (ty := o.type) hw hu hte (goodT_ok hg).1 (goodT_ok hg).2 (B hb1 (all_left (all_left hn))) (B hb2 (all_right (all_left hn))) happ (all_right hn)
                    refine ⟨.value v, w', μ', ?_, .inr ⟨v, rfl⟩, r2, r3, r4⟩
                    have e : (#[x, y] : Array Operand).map a.eval = #[a.eval x, a.eval y] := by simp
                    unfold execOp
                    rw [ho]
                    show (do let d ← resolve a.eval _ o.type; invoke d.target d.args : Sem Next).run P w = _
                    simp only [resolve, invoke, builtin, e]
                    exact val1 r1
                  · cases h
                · cases h
              · cases h
            · cases h
          · cases h
        · cases h
      · cases h
    · cases h
  · -- copy
    rename_i args argTypes ho
    split at h
    · rename_i x y hargs
      split at h
      · rename_i t t' htypes
        have ha : args = #[x, y] := by apply Array.toList_inj.1; simpa using hargs
        have hty : argTypes = #[t, t'] := by apply Array.toList_inj.1; simpa using htypes
        subst ha
        subst hty
        split at h
        · rename_i e te he
          split at h
          · rename_i p x' hb1
            split at h
            · rename_i q y' hb2
              split at h
              · rename_i r c H'' hcp
                cases h
                obtain ⟨hu, hte⟩ := elemOf_ok (P := P) hΓ he
                obtain ⟨v, w', r1, r2, r3, r4⟩ := copyK_ok (P := P) (t2 := t') (ty := o.type) hw hu hte (B hb1 (all_left (all_left hn))) (B hb2 (all_right (all_left hn))) hcp (all_right hn)
                refine ⟨.value v, w', μ, ?_, .inr ⟨v, rfl⟩, r2, r3, r4⟩
                have e : (#[x, y] : Array Operand).map a.eval = #[a.eval x, a.eval y] := by simp
                unfold execOp
                rw [ho]
                show (do let d ← resolve a.eval _ o.type; invoke d.target d.args : Sem Next).run P w = _
                simp only [resolve, invoke, builtin, e]
                exact val1 r1
              · cases h
            · cases h
          · cases h
        · cases h
      · cases h
    · cases h
  · cases h

/-- What is known of a length. -/
def facts (ts : Ts) (op : Op) : List Prop :=
  match op with
  | .call { callee := .builtin .len, args, .. } => match args.toList with
    | [x] => match opnd ts x with
      | .c (.isl _ n _ _) => [n ≤ 9223372036854775807]
      | .c (.str s) => [s.size ≤ 9223372036854775807]
      | _ => []
    | _ => []
  | _ => []

theorem facts_ok {F : Mem} {H : List O} {μ : Nat → Value} {ts : Ts} {a : Act} (hT : TSat F H μ ts a.tmps) (op : Op) : ∀ q ∈ facts ts op, q := by
  intro q hq
  unfold facts at hq
  split at hq
  · split at hq
    · rename_i x _
      have hx := opnd_ok hT x
      split at hq
      · rename_i ho
        rw [ho] at hx
        obtain ⟨_, _, _, h1, _⟩ := hx
        rw [List.mem_singleton] at hq
        subst hq
        exact h1
      · rename_i ho
        rw [ho] at hx
        rw [List.mem_singleton] at hq
        subst hq
        exact hx.2
      · simp at hq
    · simp at hq
  · simp at hq

/-- A call of a function of the program: what is needed, the function, its arguments. -/
def argsK (ts : Ts) : List Operand → Option (List Prop × List S)
  | [] => some ([], [])
  | x :: r => match bare (opnd ts x) with
    | (p, s) => match argsK ts r with
      | some (q, l) => some (p ++ q, s :: l)
      | none => none

def capS (get : Nat → C) (off : Nat) : Nat → List S
  | 0 => []
  | n + 1 => .c (get off) :: capS get (off + 1) n

def callOf (ts : Ts) (op : Op) : Option (List Prop × FuncId × List S) :=
  match op with
  | .call { callee := .value f, args, .. } => match bare (opnd ts f) with
    | (p, .c (.fn (.func f) n get)) => match argsK ts args.toList with
      | some (q, l) => some (p ++ q, f, l ++ capS get 0 n)
      | none => none
    | _ => none
  | _ => none

def isCall : Op → Bool
  | .call { callee := .value _, .. } => true
  | _ => false

def RepA (F : Mem) (H : List O) (μ : Nat → Value) (args : List S) (vs : Array Value) : Prop :=
  vs.size = args.length ∧ ∀ (j : Nat) s, getL args j = some s → ∃ v, vs[j]? = some v ∧ RepS F H μ s v

theorem argsK_ok {F : Mem} {H : List O} {μ : Nat → Value} {ts : Ts} {a : Act} (hT : TSat F H μ ts a.tmps) : ∀ (xs : List Operand) (q : List Prop) (l : List S), argsK ts xs = some (q, l) → (∀ p ∈ q, p) →
    l.length = xs.length ∧ ∀ (j : Nat) s, getL l j = some s → ∃ v, (xs.map a.eval)[j]? = some v ∧ RepS F H μ s v
  | [], q, l, h, _ => by simp only [argsK, Option.some.injEq, Prod.mk.injEq] at h; obtain ⟨_, rfl⟩ := h; simp [getL]
  | x :: r, q, l, h, hq => by
    simp only [argsK] at h
    cases hb : bare (opnd ts x) with
    | mk p s =>
      cases hr : argsK ts r with
      | none => simp [hr] at h
      | some y =>
        obtain ⟨q', l'⟩ := y
        simp only [hb, hr, Option.some.injEq, Prod.mk.injEq] at h
        obtain ⟨rfl, rfl⟩ := h
        obtain ⟨h1, h2⟩ := argsK_ok hT r q' l' hr (all_right hq)
        refine ⟨by simp [h1], fun j s' hs => ?_⟩
        cases j with
        | zero => simp [getL] at hs; subst hs; exact ⟨_, by simp, bare_ok (opnd_ok hT x) hb (all_left hq)⟩
        | succ j => simp only [getL] at hs; simpa using h2 j s' hs

theorem capS_get (get : Nat → C) : ∀ (n off : Nat), (capS get off n).length = n ∧ ∀ (j : Nat) s, getL (capS get off n) j = some s → j < n ∧ s = .c (get (off + j))
  | 0, off => by simp [capS, getL]
  | n + 1, off => by
    obtain ⟨h1, h2⟩ := capS_get get n (off + 1)
    refine ⟨by simp [capS, h1], fun j s hs => ?_⟩
    cases j with
    | zero => simp [capS, getL] at hs; simp [hs]
    | succ j =>
      simp only [capS, getL] at hs
      obtain ⟨h3, h4⟩ := h2 j s hs
      exact ⟨by omega, by rw [h4]; congr 2; omega⟩

theorem callOf_ok {P : Program} {F : Mem} {H : List O} {μ : Nat → Value} {ts : Ts} {a : Act} (hT : TSat F H μ ts a.tmps) (o : Oper) {q : List Prop} {f : FuncId} {l : List S} (h : callOf ts o.op = some (q, f, l)) (hq : ∀ p ∈ q, p)
    {fn : Func} (hf : P.funcs[f]? = some fn) (hb : fn.body.isSome = true) (hname : (fn.name == "runtime.NumGoroutine") = false) (w : World) :
    ∃ vs, (execOp a.eval o).run P w = .ok (.enter f vs) w ∧ RepA F H μ l vs := by
  unfold callOf at h
  split at h
  · rename_i cal args argTypes ho
    split at h
    · rename_i p f' n get hb1
      split at h
      · rename_i q' l' ha
        cases h
        obtain ⟨cs, c1, c2, c3⟩ := bare_ok (opnd_ok hT _) hb1 (all_left hq)
        obtain ⟨a1, a2⟩ := argsK_ok hT _ _ _ ha (all_right hq)
        obtain ⟨k1, k2⟩ := capS_get get n 0
        refine ⟨args.map a.eval ++ cs, ?_, ?_, fun j s hs => ?_⟩
        · unfold execOp
          rw [ho]
          show (do let d ← resolve a.eval _ o.type; invoke d.target d.args : Sem Next).run P w = _
          simp only [resolve, c1, Deferred.ofValue]
          rw [bind_ok (show (pure _ : Sem Deferred).run P w = .ok _ w from rfl)]
          simp only [invoke, Array.empty_append]
          unfold callFunc
          rw [bind_ok (show program.run P w = .ok P w from rfl)]
          simp only [hf, hname]
          have : fn.body.isNone = false := by cases hfb : fn.body <;> simp_all
          simp only [this]
          rfl
        · simp [a1, k1, c2]
        · rw [getL_eq] at hs
          by_cases c : j < l'.length
          · rw [List.getElem?_append_left c, ← getL_eq] at hs
            obtain ⟨v, v1, v2⟩ := a2 j s hs
            refine ⟨v, ?_, v2⟩
            rw [Array.getElem?_append_left (by simpa [a1] using c)]
            simpa using v1
          · rw [List.getElem?_append_right (by omega), ← getL_eq] at hs
            obtain ⟨h3, h4⟩ := k2 _ s hs
            obtain ⟨v, v1, v2⟩ := c3 _ h3
            subst h4
            refine ⟨v, ?_, ?_⟩
            · rw [Array.getElem?_append_right (by simp [a1] at c ⊢; omega)]
              rw [← v1]
              congr 1
              simp [a1]
            · rw [Nat.zero_add]; exact v2
      · cases h
    · cases h
  · cases h

end Go.Am
end
