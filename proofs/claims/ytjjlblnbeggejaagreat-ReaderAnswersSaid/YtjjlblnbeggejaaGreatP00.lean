/- Contracts, lemmas; no condition. -/
import Derived.Tactics
import Derived.Orders
import Derived.Laws.AppendOwn
import Derived.Laws.OwnMore
import Derived.Laws.MakeOwn
import Derived.Laws.CopyRow
import Derived.Laws.Rows
import Derived.RowKit3
import Derived.Laws.Small
import Derived.MapKept
import Derived.DeepKeys
import Derived.Laws.Entries
import Derived.Laws.Strings
set_option linter.all false
section
namespace Go.Am
variable {v : Value} {w w' : World} {xs : List Value} {l : List (Option IntKind)} {k : Nat} {μ : Nat → Value} {d : TypeDesc} {P : Program} {fs : Array Field} {op : BinOp} {ns : List Prop}
theorem Qxt : type_of% @if_pos := @if_pos
theorem Qxu : type_of% @if_neg := @if_neg
theorem Qxv : type_of% @Option.some.injEq := @Option.some.injEq
theorem Qxw : type_of% @decide_eq_true_eq := @decide_eq_true_eq
theorem Qxx : type_of% @Nat.zero_le := @Nat.zero_le
theorem Qxy : type_of% @Int.toNat_natCast := @Int.toNat_natCast
theorem Qxz : type_of% @decide_eq_true := @decide_eq_true
theorem QxA : type_of% @Bool.and_eq_true := @Bool.and_eq_true
theorem QxB : type_of% @Nat.le_refl := @Nat.le_refl
theorem QxC : type_of% @Decidable.byContradiction := @Decidable.byContradiction
theorem QxD : type_of% @Nat.eq_of_beq_eq_true := @Nat.eq_of_beq_eq_true
theorem QxE : type_of% @decide_eq_false := @decide_eq_false
theorem QxF : type_of% @Nat.mul_le_mul_right := @Nat.mul_le_mul_right
theorem QxG : type_of% @Bool.eq_false_iff := @Bool.eq_false_iff
theorem QxH : type_of% @Array.getElem?_eq_some_iff := @Array.getElem?_eq_some_iff
theorem QxI : type_of% @Prod.mk.injEq := @Prod.mk.injEq
theorem QxJ : type_of% @Nat.le_of_ble_eq_true := @Nat.le_of_ble_eq_true
theorem QxK : type_of% @congrArg := @congrArg
theorem QxL : type_of% @List.length_append := @List.length_append
theorem QxM : type_of% @decide_eq_false_iff_not := @decide_eq_false_iff_not
theorem QxN : type_of% @Nat.not_lt_zero := @Nat.not_lt_zero
theorem QxO : type_of% @List.length_take := @List.length_take
theorem QxP : type_of% @List.getElem_of_mem := @List.getElem_of_mem
theorem QxQ : type_of% @Array.getD_eq_getD_getElem? := @Array.getD_eq_getD_getElem?
theorem QxR : type_of% @List.length_cons := @List.length_cons
theorem QxS : type_of% @List.getElem?_append_left := @List.getElem?_append_left
theorem QxT : type_of% @List.length_set := @List.length_set
theorem QxU : type_of% @List.getElem?_eq_some_iff := @List.getElem?_eq_some_iff
theorem QxV : type_of% @Array.toList_inj := @Array.toList_inj
theorem QxW : type_of% @Bool.eq_iff_iff := @Bool.eq_iff_iff
theorem QxX : type_of% @Nat.zero_add := @Nat.zero_add
theorem QxY : type_of% @List.getElem?_append_right := @List.getElem?_append_right
theorem QxZ : type_of% @ByteArray.size_append := @ByteArray.size_append
theorem Qx0 : type_of% @List.getElem_mem := @List.getElem_mem
theorem Qx1 : type_of% @Array.getElem?_eq_none := @Array.getElem?_eq_none
theorem Qx2 : type_of% @List.all_eq_true := @List.all_eq_true
theorem Qx3 : type_of% @Nat.eq_zero_or_pos := @Nat.eq_zero_or_pos
theorem Qx4 : type_of% @of_decide_eq_true := @of_decide_eq_true
theorem Qx5 : type_of% @List.length_nil := @List.length_nil
theorem Qx6 : type_of% @List.length_replicate := @List.length_replicate
theorem Qx7 : type_of% @Array.length_toList := @Array.length_toList
theorem Qx8 : type_of% @List.mem_of_getElem? := @List.mem_of_getElem?
theorem Qx9 : type_of% @Array.getElem?_eq_getElem := @Array.getElem?_eq_getElem
theorem Qya : type_of% @Array.getElem?_setIfInBounds_ne := @Array.getElem?_setIfInBounds_ne
theorem Qyb : type_of% @List.getElem?_take_of_lt := @List.getElem?_take_of_lt
theorem Qyc : type_of% @List.mem_append := @List.mem_append
theorem Qyd : type_of% @Option.map_some := @Option.map_some
theorem Qye : type_of% @List.getElem?_take := @List.getElem?_take
theorem Qyf : type_of% @List.mem_cons := @List.mem_cons
theorem Qyg : type_of% @List.eq_nil_of_length_eq_zero := @List.eq_nil_of_length_eq_zero
theorem Qyh : type_of% @Nat.add_mul := @Nat.add_mul
theorem Qyi : type_of% @List.mem_cons_of_mem := @List.mem_cons_of_mem
theorem Qyj : type_of% @List.mem_map := @List.mem_map
theorem Qyk : type_of% @List.pairwise_iff_getElem := @List.pairwise_iff_getElem
theorem Qyl : type_of% @List.getElem?_eq_getElem := @List.getElem?_eq_getElem
theorem Qym : type_of% @List.getElem?_set_ne := @List.getElem?_set_ne
theorem Qyn : type_of% @List.length_drop := @List.length_drop
theorem Qyo : type_of% @if_true := @if_true
theorem Qyp : type_of% @Bool.not_eq_true' := @Bool.not_eq_true'
theorem Qyq : type_of% @Bool.and_false := @Bool.and_false
theorem Qyr : type_of% @Array.getElem?_append_left := @Array.getElem?_append_left
theorem Qys : type_of% @List.mem_cons_self := @List.mem_cons_self
theorem Qyt : type_of% @Array.getElem?_toList := @Array.getElem?_toList
theorem Qyu : type_of% @Nat.succ_mul := @Nat.succ_mul
theorem Qyv : type_of% @Option.some.inj := @Option.some.inj
theorem Qyw : type_of% @Bool.false_and := @Bool.false_and
theorem Qyx : type_of% @List.getElem?_map := @List.getElem?_map
theorem Qyy : type_of% @List.mem_singleton := @List.mem_singleton
theorem Qyz : type_of% @List.map_cons := @List.map_cons
theorem QyA : type_of% @Bool.or_eq_true := @Bool.or_eq_true
theorem QyB : type_of% @Nat.le_of_not_lt := @Nat.le_of_not_lt
theorem QyC : type_of% @BitVec.toNat_ofInt := @BitVec.toNat_ofInt
theorem QyD : type_of% @Int.le_refl := @Int.le_refl
theorem QyE : type_of% @List.getElem?_drop := @List.getElem?_drop
theorem QyF : type_of% @List.getElem?_cons_zero := @List.getElem?_cons_zero
theorem QyG : type_of% @List.take_succ_eq_append_getElem := @List.take_succ_eq_append_getElem
theorem QyH : type_of% @List.append_assoc := @List.append_assoc
theorem QyI : type_of% @List.size_toArray := @List.size_toArray
theorem QyJ : type_of% @List.mem_map_of_mem := @List.mem_map_of_mem
theorem QyK : type_of% @Classical.byContradiction := @Classical.byContradiction
theorem QyL : type_of% @Ne.symm := @Ne.symm
theorem QyM : type_of% @Array.ext_getElem? := @Array.ext_getElem?
theorem QyN : type_of% @List.any_eq_true := @List.any_eq_true
theorem QyO : type_of% @Array.toList_append := @Array.toList_append
theorem QyP : type_of% @ByteArray.size_extract := @ByteArray.size_extract
theorem QyQ : type_of% @List.take_of_length_le := @List.take_of_length_le
theorem QyR : type_of% @ByteArray.append_assoc := @ByteArray.append_assoc
theorem QyS : type_of% @Int.tdiv_eq_ediv_of_nonneg := @Int.tdiv_eq_ediv_of_nonneg
theorem QyT : type_of% @Nat.mod_two_eq_zero_or_one := @Nat.mod_two_eq_zero_or_one
theorem QyU : type_of% @List.getElem?_toArray := @List.getElem?_toArray
theorem QyV : type_of% @List.getElem?_eq_none := @List.getElem?_eq_none
theorem QyW : type_of% @Array.getElem?_modify := @Array.getElem?_modify
theorem QyX : type_of% @Bool.and_eq_false_iff := @Bool.and_eq_false_iff
theorem QyY : type_of% @ByteArray.data_append := @ByteArray.data_append
theorem QyZ : type_of% @Nat.min_eq_left := @Nat.min_eq_left
theorem Qy0 : type_of% @Array.getElem_mem_toList := @Array.getElem_mem_toList
theorem Qy1 : type_of% @List.append_nil := @List.append_nil
theorem Qy2 : type_of% @bne_iff_ne := @bne_iff_ne
theorem Qy3 : type_of% @Bool.false_eq_true := @Bool.false_eq_true
theorem Qy4 : type_of% @List.nodup_cons := @List.nodup_cons
theorem Qy5 : type_of% @Bool.cond_false_right := @Bool.cond_false_right
theorem Qy6 : type_of% @List.Pairwise.sublist := @List.Pairwise.sublist
theorem Qy7 : type_of% @List.length_map := @List.length_map
theorem Qy8 : type_of% @Int.fdiv_eq_ediv_of_nonneg := @Int.fdiv_eq_ediv_of_nonneg
theorem Qy9 : type_of% @List.mem_of_mem_take := @List.mem_of_mem_take
theorem Qza : type_of% @Nat.le_trans := @Nat.le_trans
theorem Qzb : type_of% @Nat.add_zero := @Nat.add_zero
theorem Qzc : type_of% @List.take_length := @List.take_length
theorem Qzd : type_of% @List.getElem_map := @List.getElem_map
theorem Qze : type_of% @beq_eq_false_iff_ne := @beq_eq_false_iff_ne
theorem Qzf : type_of% @List.all_cons := @List.all_cons
theorem om {p : Prop} (h : p := by omega) : p := h
inductive KC where
 | i (k : IntKind) (n : Int)
 | s (b : ByteArray)
 deriving DecidableEq
variable {x : List KC}
inductive Key where
 | c (k : KC)
 | a (l : List KC)
 deriving DecidableEq
def KC.sh : KC → Option IntKind
 | .i k _ => some k
 | .s _ => none
def KC.toV : KC → Value
 | .i k n => .int k n
 | .s b => .string b
inductive KS where
 | c (k : Option IntKind)
 | a (l : List (Option IntKind))
 deriving DecidableEq
def Key.sh : Key → KS
 | .c k => .c k.sh
 | .a l => .a (l.map KC.sh)
def Key.toV : Key → Value
 | .c k => k.toV
 | .a l => .agg (l.map KC.toV).toArray
inductive C where
 | junk
 | bool (b : Bool)
 | int (k : IntKind) (n : Int)
 | str (s : ByteArray)
 | nilp
 | ptr (id off : Nat)
 | ep (id i j tot : Nat)
 | ip (n : Nat) (get : Nat → C)
 | sl (id es len tot : Nat) (x : Bool)
 | isl (es n : Nat) (get : Nat → Nat → C) (tight : Bool)
 | fn (f : Fn) (n : Nat) (get : Nat → C)
 | nilfn
 | nils
 | mpr (id : Nat)
 | nilm
 | raw (b : Nat) (off : Nat := 0)
inductive Z where
 | b | i (k : IntKind) | s | p | sl | f | m
 deriving DecidableEq
def Z.toC : Z → C
 | .b => .bool false
 | .i k => .int k 0
 | .s => .str ByteArray.empty
 | .p => .nilp
 | .sl => .nils
 | .f => .nilfn
 | .m => .nilm
def Z.toV : Z → Value
 | .b => .bool false
 | .i k => .int k 0
 | .s => .string ByteArray.empty
 | .p => .pointer none
 | .sl => .slice none 0 0
 | .f => .nilFunc
 | .m => .map none
inductive S where
 | u
 | c (x : C)
 | a (xs : List C)
 | t (l : List (C ⊕ List C))
 | lz (g : Bool) (s : S)
 | so (id es off len tot : Nat)
inductive O where
 | vr (cs : List C)
 | arr (e es n : Nat) (get : Nat → Nat → C)
 | dead
 | mp (sh : KS) (z : List Z) (va : Bool) (ks : List Key) (val : Key → Nat → C)
variable {H : List O}
abbrev Ts := List (Nat × S)
variable {ts : Ts}
def find : Nat → Ts → S
 | _, [] => .u
 | t, (u, s) :: r => match Nat.beq u t with
  | true => s
  | false => find t r
def getL {α : Type} : List α → Nat → Option α
 | [], _ => none
 | x :: _, 0 => some x
 | _ :: r, i + 1 => getL r i
def setL {α : Type} : List α → Nat → α → Option (List α)
 | [], _, _ => none
 | _ :: r, 0, y => some (y :: r)
 | x :: r, i + 1, y => match setL r i y with
  | some r' => some (x :: r')
  | none => none
theorem Qc {α : Type} : ∀ (l : List α) (i : Nat), getL l i = l[i]?
 | [], _ => by simp [getL]
 | _ :: _, 0 => by simp [getL]
 | _ :: r, i + 1 => by simp [getL, Qc r i]
theorem Qkb {α : Type} : ∀ (l : List α) (i : Nat) (y : α) (l' : List α), setL l i y = some l' → i < l.length ∧ l' = l.set i y
 | [], _, _, _, h => by simp [setL] at h
 | _ :: r, 0, y, l', h => by simp [setL] at h; simp [h]
 | x :: r, i + 1, y, l', h => by
  simp only [setL] at h
  cases hs : setL r i y with
  | none => simp [hs] at h
  | some r' =>
   obtain ⟨h1, h2⟩ := Qkb r i y r' hs
   simp only [hs, Qxv] at h
   subst h2
   subst h
   simp [h1]
abbrev Mem := Nat → Option Obj
variable {F G : Mem}
def Mem.le (F G : Mem) : Prop := ∀ b o, F b = some o → G b = some o
theorem Mem.le_refl (F : Mem) : F.le F := fun _ _ h => h
theorem Mem.le.le_trans' {H : Mem} (h : F.le G) (k : G.le H) : F.le H := fun b o e => k b o (h b o e)
def Mem.cell (F : Mem) (b i : Nat) : Option Value :=
 match F b with
 | some (.cells c _ _) => c[i]?
 | _ => none
theorem QwE (h : F.le G) {b i : Nat} (e : F.cell b i = some v) : G.cell b i = some v := by
 unfold Mem.cell at *
 cases hf : F b with
 | none => simp [hf] at e
 | some o => rw [h b o hf]; rw [hf] at e; exact e
def RepF (F : Mem) : C → Value → Prop
 | .junk, v => v.oneCell' = true
 | .bool b, v => v = .bool b
 | .int k n, v => v = .int k n
 | .str s, v => v = .string s ∧ s.size ≤ maxLen
 | .nilp, v => v = .pointer none
 | .ptr .., _ => False
 | .ep .., _ => False
 | .sl .., _ => False
 | .ip n get, v => ∃ b off, v = .pointer (some ⟨b, off, none⟩) ∧ ∀ j, j < n → ∃ x, F.cell b (off + j) = some x ∧ RepF F (get j) x
 | .isl es n get tight, v => ∃ a cap, v = .slice a n cap ∧ n ≤ maxLen ∧ n ≤ cap ∧ (tight = true → cap = n) ∧ (a = none → cap = 0) ∧
   (n = 0 ∨ ∃ b off, a = some ⟨b, off, none⟩ ∧ ∀ i, i < n → ∀ j, j < es → ∃ x, F.cell b (off + i * es + j) = some x ∧ RepF F (get i j) x)
 | .fn f n get, v => ∃ cs : Array Value, v = .func f #[] cs ∧ cs.size = n ∧ ∀ j, j < n → ∃ x, cs[j]? = some x ∧ RepF F (get j) x
 | .nilfn, v => v = .nilFunc
 | .nils, v => v = .slice none 0 0
 | .mpr _, _ => False
 | .nilm, v => v = .map none
 | .raw b o, v => v = .pointer (some ⟨b, o, none⟩)
def RepC (F : Mem) (H : List O) (μ : Nat → Value) : C → Value → Prop
 | .ptr id off, v => (∃ cs, getL H id = some (.vr cs)) ∧ ∃ b, μ id = .pointer (some ⟨b, 0, none⟩) ∧ v = .pointer (some ⟨b, off, none⟩)
 | .ep id i j tot, v => v.oneCell' = true ∧ ∃ e es n g, getL H id = some (.arr e es n g) ∧ tot ≤ n ∧
   (tot = n → ∃ b cap, μ id = .slice (some ⟨b, 0, none⟩) n cap ∧ i < n ∧ v = .pointer (some ⟨b, i * es + j, none⟩))
 | .sl id es len tot x, v => v.oneCell' = true ∧ ∃ e n g, getL H id = some (.arr e es n g) ∧ tot ≤ n ∧ len ≤ tot ∧
   (tot = n → ∃ a cap, μ id = .slice a n cap ∧ v = .slice a len cap ∧ (x = true → cap = n))
 | .fn f n get, v => ∃ cs : Array Value, v = .func f #[] cs ∧ cs.size = n ∧ ∀ j, j < n → ∃ x, cs[j]? = some x ∧ RepC F H μ (get j) x
 | .mpr id, v => (∃ sh z va ks val, getL H id = some (.mp sh z va ks val)) ∧ ∃ b, μ id = .map (some b) ∧ v = .map (some b)
 | c, v => RepF F c v
def RepL (F : Mem) (H : List O) (μ : Nat → Value) (xs : List C) (cs : Array Value) : Prop :=
 cs.size = xs.length ∧ ∀ (j : Nat) x, getL xs j = some x → ∃ v, cs[j]? = some v ∧ RepC F H μ x v
def RepE (F : Mem) (H : List O) (μ : Nat → Value) : C ⊕ List C → Value → Prop
 | .inl x, v => RepC F H μ x v
 | .inr xs, v => ∃ cs, v = .agg cs ∧ RepL F H μ xs cs
def RepS (F : Mem) (H : List O) (μ : Nat → Value) : S → Value → Prop
 | .u, _ => True
 | .c x, v => RepC F H μ x v
 | .a xs, v => ∃ cs, v = .agg cs ∧ RepL F H μ xs cs
 | .t l, v => ∃ vs : Array Value, v = .tuple vs ∧ vs.size = l.length ∧ ∀ (j : Nat) x, getL l j = some x → ∃ u, vs[j]? = some u ∧ RepE F H μ x u
 | .lz g s, v => (g = true → RepS F H μ s v) ∧ (g = false → v = undef)
 | .so id es off len tot, v => ∃ a cap, v = .slice a len cap ∧ (a = none → cap = 0) ∧ ∃ e n g, getL H id = some (.arr e es n g) ∧ tot ≤ n ∧ off + len ≤ tot ∧
   (tot = n → len = 0 ∨ ∃ b c, μ id = .slice (some ⟨b, 0, none⟩) n c ∧ a = some ⟨b, off * es, none⟩)
def Ext (H : List O) (μ : Nat → Value) (H' : List O) (μ' : Nat → Value) : Prop :=
 (∀ id cs, getL H id = some (.vr cs) → (∃ cs', getL H' id = some (.vr cs')) ∧ μ' id = μ id) ∧
 (∀ id e es n g, getL H id = some (.arr e es n g) → ∃ n' g', getL H' id = some (.arr e es n' g') ∧ n ≤ n' ∧ (n' = n → μ' id = μ id)) ∧
 (∀ id sh z va ks val, getL H id = some (.mp sh z va ks val) → (∃ ks' val', getL H' id = some (.mp sh z va ks' val')) ∧ μ' id = μ id)
theorem Ext.refl (H : List O) (μ : Nat → Value) : Ext H μ H μ :=
 ⟨fun _ cs h => ⟨⟨cs, h⟩, rfl⟩, fun _ _ _ n g h => ⟨n, g, h, QxB _, fun _ => rfl⟩, fun _ _ _ _ ks val h => ⟨⟨ks, val, h⟩, rfl⟩⟩
theorem Ext.trans {H H' H'' : List O} {μ μ' μ'' : Nat → Value} (h : Ext H μ H' μ') (k : Ext H' μ' H'' μ'') : Ext H μ H'' μ'' := by
 refine ⟨fun id cs e => ?_, fun id e es n g he => ?_, fun id sh z va ks val e => ?_⟩
 ·obtain ⟨⟨cs', h1⟩, h2⟩ := h.1 id cs e
  obtain ⟨h3, h4⟩ := k.1 id cs' h1
  exact ⟨h3, h4.trans h2⟩
 ·obtain ⟨n', g', h1, h2, h3⟩ := h.2.1 id e es n g he
  obtain ⟨n'', g'', k1, k2, k3⟩ := k.2.1 id e es n' g' h1
  exact ⟨n'', g'', k1, Qza h2 k2, fun q => (k3 (by omega)).trans (h3 (by omega))⟩
 ·obtain ⟨⟨ks', val', h1⟩, h2⟩ := h.2.2 id sh z va ks val e
  obtain ⟨h3, h4⟩ := k.2.2 id sh z va ks' val' h1
  exact ⟨h3, h4.trans h2⟩
theorem RepF.mono (h : F.le G) : ∀ (c : C) (v : Value), RepF F c v → RepF G c v := by
 intro c
 induction c with
 | ip n get ih =>
  intro v hv
  obtain ⟨b, off, hv, hc⟩ := hv
  refine ⟨b, off, hv, fun j hj => ?_⟩
  obtain ⟨x, hx, hr⟩ := hc j hj
  exact ⟨x, QwE h hx, ih j x hr⟩
 | isl es n get tight ih =>
  intro v hv
  obtain ⟨a, cap, hv, h1, h2, h3, h3', h4⟩ := hv
  refine ⟨a, cap, hv, h1, h2, h3, h3', ?_⟩
  rcases h4 with h4 | ⟨b, off, ha, hc⟩
  ·exact .inl h4
  ·refine .inr ⟨b, off, ha, fun i hi j hj => ?_⟩
   obtain ⟨x, hx, hr⟩ := hc i hi j hj
   exact ⟨x, QwE h hx, ih i j x hr⟩
 | fn f n get ih =>
  intro v hv
  obtain ⟨cs, hv, hs, hc⟩ := hv
  refine ⟨cs, hv, hs, fun j hj => ?_⟩
  obtain ⟨x, hx, hr⟩ := hc j hj
  exact ⟨x, hx, ih j x hr⟩
 | _ => intro v hv; exact hv
theorem RepC.mono {F G : Mem} {H H' : List O} {μ μ' : Nat → Value} (h : F.le G) (k : Ext H μ H' μ') : ∀ (c : C) (v : Value), RepC F H μ c v → RepC G H' μ' c v := by
 intro c
 induction c with
 | ptr id off =>
  intro v hv
  obtain ⟨⟨cs, h1⟩, b, h2, h3⟩ := hv
  obtain ⟨k1, k2⟩ := k.1 id cs h1
  exact ⟨k1, b, k2.trans h2, h3⟩
 | ep id i j tot =>
  intro v hv
  obtain ⟨h0, e, es, n, g, h1, h2, h3⟩ := hv
  obtain ⟨n', g', k1, k2, k3⟩ := k.2.1 id e es n g h1
  refine ⟨h0, e, es, n', g', k1, by omega, fun q => ?_⟩
  have hn : n' = n := by omega
  rw [k3 hn, hn]
  exact h3 (by omega)
 | sl id es len tot x =>
  intro v hv
  obtain ⟨h0, e, n, g, h1, h2, h2', h3⟩ := hv
  obtain ⟨n', g', k1, k2, k3⟩ := k.2.1 id e es n g h1
  refine ⟨h0, e, n', g', k1, by omega, h2', fun q => ?_⟩
  have hn : n' = n := by omega
  rw [k3 hn, hn]
  exact h3 (by omega)
 | fn f n get ih =>
  intro v hv
  obtain ⟨cs, hv, hs, hc⟩ := hv
  refine ⟨cs, hv, hs, fun j hj => ?_⟩
  obtain ⟨x, hx, hr⟩ := hc j hj
  exact ⟨x, hx, ih j x hr⟩
 | mpr id =>
  intro v hv
  obtain ⟨⟨sh, z, va, ks, val, h1⟩, b, h2, h3⟩ := hv
  obtain ⟨⟨ks', val', k1⟩, k2⟩ := k.2.2 id sh z va ks val h1
  exact ⟨⟨sh, z, va, ks', val', k1⟩, b, k2.trans h2, h3⟩
 | _ => intro v hv; exact RepF.mono h _ v hv
theorem RepL.mono {F G : Mem} {H H' : List O} {μ μ' : Nat → Value} (h : F.le G) (k : Ext H μ H' μ') {xs : List C} {cs : Array Value} (hl : RepL F H μ xs cs) : RepL G H' μ' xs cs :=
 ⟨hl.1, fun j x e => let ⟨v, hv, hr⟩ := hl.2 j x e; ⟨v, hv, RepC.mono h k x v hr⟩⟩
theorem RepE.mono {F G : Mem} {H H' : List O} {μ μ' : Nat → Value} (h : F.le G) (k : Ext H μ H' μ') : ∀ (x : C ⊕ List C) (v : Value), RepE F H μ x v → RepE G H' μ' x v
 | .inl x, v, hv => RepC.mono h k x v hv
 | .inr _, _, ⟨cs, hv, hl⟩ => ⟨cs, hv, hl.mono h k⟩
theorem RepS.mono {F G : Mem} {H H' : List O} {μ μ' : Nat → Value} (h : F.le G) (k : Ext H μ H' μ') : ∀ (s : S) (v : Value), RepS F H μ s v → RepS G H' μ' s v
 | .u, _, _ => trivial
 | .c x, v, hv => RepC.mono h k x v hv
 | .a _, _, ⟨cs, hv, hl⟩ => ⟨cs, hv, hl.mono h k⟩
 | .t _, _, ⟨vs, hv, hs, hl⟩ => ⟨vs, hv, hs, fun j x e => let ⟨u, hu, hr⟩ := hl j x e; ⟨u, hu, RepE.mono h k x u hr⟩⟩
 | .lz _ s, v, hv => ⟨fun hg => RepS.mono h k s v (hv.1 hg), hv.2⟩
 | .so id es off len tot, v, ⟨a, cap, h1, h2, e, n, g, h3, h4, h5, h6⟩ => by
  obtain ⟨n', g', k1, k2, k3⟩ := k.2.1 id e es n g h3
  refine ⟨a, cap, h1, h2, e, n', g', k1, by omega, h5, fun q => ?_⟩
  have hn : n' = n := by omega
  rw [k3 hn, hn]
  exact h6 (by omega)
theorem RepF.one : ∀ (c : C) (v : Value), RepF F c v → v.oneCell' = true
 | .junk, _, h => h
 | .bool _, _, h => by rw [show _ = _ from h]; rfl
 | .int _ _, _, h => by rw [show _ = _ from h]; rfl
 | .str _, _, h => by rw [h.1]; rfl
 | .nilp, _, h => by rw [show _ = _ from h]; rfl
 | .ip _ _, _, ⟨_, _, h, _⟩ => by rw [h]; rfl
 | .isl .., _, ⟨_, _, h, _⟩ => by rw [h]; rfl
 | .fn .., _, ⟨_, h, _⟩ => by rw [h]; rfl
 | .nilfn, _, h => by rw [show _ = _ from h]; rfl
 | .nils, _, h => by rw [show _ = _ from h]; rfl
 | .nilm, _, h => by rw [show _ = _ from h]; rfl
 | .raw _ _, _, h => by rw [show _ = _ from h]; rfl
theorem RepC.one {F : Mem} {H : List O} {μ : Nat → Value} : ∀ (c : C) (v : Value), RepC F H μ c v → v.oneCell' = true
 | .ptr .., _, ⟨_, _, _, h⟩ => by rw [h]; rfl
 | .ep .., _, h => h.1
 | .sl .., _, h => h.1
 | .fn .., _, ⟨_, h, _⟩ => by rw [h]; rfl
 | .junk, v, h => RepF.one (F := F) .junk v h
 | .bool b, v, h => RepF.one (F := F) (.bool b) v h
 | .int k n, v, h => RepF.one (F := F) (.int k n) v h
 | .str s, v, h => RepF.one (F := F) (.str s) v h
 | .nilp, v, h => RepF.one (F := F) .nilp v h
 | .ip n g, v, h => RepF.one (F := F) (.ip n g) v h
 | .isl es n g t, v, h => RepF.one (F := F) (.isl es n g t) v h
 | .nilfn, v, h => RepF.one (F := F) .nilfn v h
 | .nils, v, h => RepF.one (F := F) .nils v h
 | .nilm, v, h => RepF.one (F := F) .nilm v h
 | .mpr .., _, ⟨_, _, _, h⟩ => by rw [h]; rfl
 | .raw b o, v, h => RepF.one (F := F) (.raw b o) v h
theorem RepF.toC (H : List O) (μ : Nat → Value) : ∀ (c : C) (v : Value), RepF F c v → RepC F H μ c v := by
 intro c
 induction c with
 | fn f n get ih =>
  intro v hv
  obtain ⟨cs, hv, hs, hc⟩ := hv
  refine ⟨cs, hv, hs, fun j hj => ?_⟩
  obtain ⟨x, hx, hr⟩ := hc j hj
  exact ⟨x, hx, ih j x hr⟩
 | ptr id off => intro v hv; exact hv.elim
 | ep id i j t => intro v hv; exact hv.elim
 | sl id es l t x => intro v hv; exact hv.elim
 | mpr id => intro v hv; exact hv.elim
 | _ => intro v hv; exact hv
structure Keep where
 ds : List Deferred := []
 mem : Mem
 os : Os
 tape : Nat → Question → Nat
 output : Array (Nat × ByteArray)
def blk : Value → Option Nat
 | .pointer (some a) => some a.block
 | .slice (some a) _ _ => some a.block
 | .map (some b) => some b
 | _ => none
def QS (H : List O) (μ : Nat → Value) (id b : Nat) : Prop :=
 (∃ o, getL H id = some o ∧ o ≠ .dead) ∧ blk (μ id) = some b
def RepV (F : Mem) (va : Bool) (m : Nat) (cs : Nat → C) (v : Value) : Prop :=
 (va = true → ∃ a, v = .agg a) ∧ (va = false → v.oneCell' = true) ∧ v.cells.size = m ∧ ∀ j, j < m → ∃ x, v.cells[j]? = some x ∧ RepF F (cs j) x
structure MRep (F : Mem) (sh : KS) (z : List Z) (va : Bool) (ks : List Key) (val : Key → Nat → C) (es : List MapEntry) : Prop where
 nd : ks.Nodup
 shp : ∀ k ∈ ks, k.sh = sh
 keys : es.map (·.key) = ks.map Key.toV
 vals : ∀ (i : Nat) (e : MapEntry) (k : Key), es[i]? = some e → ks[i]? = some k → RepV F va z.length (val k) e.val
 none : ∀ k, k.sh = sh → k ∉ ks → ∀ j, j < z.length → ∃ x, z[j]? = some x ∧ RepF F (val k j) x.toV
theorem RepV.mono {F G : Mem} (h : F.le G) {va : Bool} {m : Nat} {cs : Nat → C} {v : Value} (r : RepV F va m cs v) : RepV G va m cs v :=
 ⟨r.1, r.2.1, r.2.2.1, fun j hj => let ⟨x, h1, h2⟩ := r.2.2.2 j hj; ⟨x, h1, RepF.mono h _ x h2⟩⟩
theorem MRep.mono {F G : Mem} (h : F.le G) {sh : KS} {z : List Z} {va : Bool} {ks : List Key} {val : Key → Nat → C} {es : List MapEntry} (r : MRep F sh z va ks val es) : MRep G sh z va ks val es :=
 ⟨r.nd, r.shp, r.keys, fun i e k h1 h2 => (r.vals i e k h1 h2).mono h, fun k hs hk j hj => let ⟨x, h1, h2⟩ := r.none k hs hk j hj; ⟨x, h1, RepF.mono h _ x.toV h2⟩⟩
def Stp (es : List MapEntry) (ck : Nat) : Prop := (∀ x ∈ es, x.born < ck) ∧ (es.map (·.born)).Nodup
def Sp (w : World) (v : Value) : Prop := ∀ b c T fr, blk v = some b → w.heap[b]? = some (.cells c T fr) → ∀ x ∈ c.toList, x.oneCell' = true
theorem Sp.none (h : blk v = none) : Sp w v := fun b c T fr hb => by rw [h] at hb; cases hb
theorem Sp.keep (h : Sp w v) (hk : ∀ b, blk v = some b → w'.heap[b]? = w.heap[b]?) : Sp w' v := fun b c T fr hb hc => h b c T fr hb (by rw [← hk b hb]; exact hc)
theorem Sp.of {b : Nat} {c : Array Value} {T : TypeId} {fr : Nat × Nat} (hb : blk v = some b) (hc : w.heap[b]? = some (.cells c T fr)) (h : ∀ x ∈ c.toList, x.oneCell' = true) : Sp w v := fun b' c' T' fr' hb' hc' => by
 rw [hb] at hb'
 cases hb'
 rw [hc] at hc'
 cases hc'
 exact h
theorem Sp.row {e es n : Nat} (h : Sp w v) (ho : w.ownsRow 0 e es v n xs) (hk : ∀ b, b < w.heap.size → blk v = some b → w'.heap[b]? = w.heap[b]?) : Sp w' v := by
 rcases ho.2 with ⟨rfl, _⟩ | ⟨b, cap, cur, rfl, _, q3, _⟩
 ·exact Sp.none rfl
 ·refine h.keep fun b' hb' => ?_
  cases hb'
  exact hk b (QxH.1 q3).1 rfl
theorem Sp.kept {e es n : Nat} (h : Sp w v) (ho : w.ownsRow 0 e es v n xs) (hk : ∀ b o, blk v = some b → w.heap[b]? = some o → w'.heap[b]? = some o) : Sp w' v := by
 rcases ho.2 with ⟨rfl, _⟩ | ⟨b, cap, cur, rfl, _, q3, _⟩
 ·exact Sp.none rfl
 ·exact Sp.of rfl (hk b _ rfl q3) (h b cur e (0, 0) rfl q3)
theorem QfB {l vs : List Value} {o : Nat} (h : ∀ x ∈ l, x.oneCell' = true) (hv : ∀ x ∈ vs, x.oneCell' = true) : ∀ x ∈ (l.take o ++ vs ++ l.drop k), x.oneCell' = true := by
 intro x hx
 rcases Qyc.1 hx with hx | hx
 ·rcases Qyc.1 hx with hx | hx
  ·exact h x (Qy9 hx)
  ·exact hv x hx
 ·exact h x (List.mem_of_mem_drop hx)
def OSat (F : Mem) (H : List O) (μ : Nat → Value) (w : World) (id : Nat) : O → Prop
 | .vr cs => ∃ b c T, μ id = .pointer (some ⟨b, 0, none⟩) ∧ w.heap[b]? = some (.cells c T (0, 0)) ∧ RepL F H μ cs c
 | .arr e es n g => ∃ xs, w.ownsRow 0 e es (μ id) n xs ∧ n ≤ maxLen ∧ (∀ i, i < n → ∀ j, j < es → ∃ v, xs[i * es + j]? = some v ∧ RepC F H μ (g i j) v) ∧ Sp w (μ id)
 | .dead => True
 | .mp sh z va ks val => ∃ b es ck, μ id = .map (some b) ∧ w.heap[b]? = some (.map es ck) ∧ MRep F sh z va ks val es.toList ∧ Stp es.toList ck
structure HSat (K : Keep) (F : Mem) (H : List O) (μ : Nat → Value) (w : World) : Prop where
 os : w.os = K.os
 tape : w.tape = K.tape
 output : w.output = K.output
 fr : ∀ b o, F b = some o → w.heap[b]? = some o
 kp : ∀ b o, K.mem b = some o → w.heap[b]? = some o
 ob : ∀ id o, getL H id = some o → OSat F H μ w id o
 sp : ∀ id b, QS H μ id b → F b = none ∧ K.mem b = none
 ij : ∀ id id' b, QS H μ id b → QS H μ id' b → id = id'
 dj : ∀ b o, F b = some o → K.mem b = none
def TSat (F : Mem) (H : List O) (μ : Nat → Value) (ts : Ts) (tmps : Array Value) : Prop :=
 ∀ t, RepS F H μ (find t ts) (tmps.getD t undef)
theorem TSat.mono {F G : Mem} {H H' : List O} {μ μ' : Nat → Value} (h : F.le G) (k : Ext H μ H' μ') {ts : Ts} {tmps : Array Value} (ht : TSat F H μ ts tmps) : TSat G H' μ' ts tmps :=
 fun t => RepS.mono h k _ _ (ht t)
theorem TSat.put {F : Mem} {H : List O} {μ : Nat → Value} {ts : Ts} {a : Act} (ht : TSat F H μ ts a.tmps) {d : Nat} {s : S} {v : Value} (hd : d < a.tmps.size) (hs : RepS F H μ s v) :
  TSat F H μ ((d, s) :: ts) (a.put (some d) v).tmps := by
 intro t
 simp only [find, Act.put]
 cases hb : Nat.beq d t with
 | true =>
  have : d = t := QxD hb
  subst this
  simpa [Array.getD, hd] using hs
 | false =>
  have hne : d ≠ t := by
   intro e; subst e; simp at hb
  have := ht t
  simp only [QxQ] at this ⊢
  rw [Qya hne]
  exact this
theorem QvY {a : Act} (ht : TSat F H μ ts a.tmps) {d : Nat} :
  TSat F H μ ((d, .u) :: ts) (a.put (some d) v).tmps := by
 intro t
 simp only [find, Act.put]
 cases hb : Nat.beq d t with
 | true => trivial
 | false =>
  have hne : d ≠ t := by
   intro e; subst e; simp at hb
  have := ht t
  simp only [QxQ] at this ⊢
  rw [Qya hne]
  exact this
theorem Qfv {α β : Type} {x : Sem α} {f : α → Sem β} {a : α} (h : x.run P w = .ok a w') : (x >>= f).run P w = (f a).run P w' := by simp [h, Result.andThen]
def fltK (P : Program) : List Field → Nat → List (Option IntKind) → Bool
 | [], _, [] => true
 | f :: r, o, q :: l => f.name != "_" && decide (f.offset = o) && P.plainKey f.type && (match P.underlying f.type, q with
  | some (.int k), some k' => decide (k = k')
  | some .string, none => true
  | _, _ => false) && fltK P r (o + 1) l
 | _, _, _ => false
def keyB (P : Program) (k : Nat) (l : List (Option IntKind)) : Bool := match P.underlying k with
 | some (.struct fs) => !P.stoodInHeld k && fltK P fs.toList 0 l
 | _ => false
def arrK (l : List KC) : Array Value := (l.map KC.toV).toArray
theorem Qig {l : List KC} {j : Nat} {x : KC} (h : l[j]? = some x) : (arrK l)[j]? = some x.toV := by simp [arrK, h]
theorem KC.inj {a b : KC} (h : a.toV = b.toV) : a = b := by
 cases a <;> cases b <;> simp only [KC.toV] at h <;> cases h <;> rfl
theorem QkL : ∀ {l m : List KC}, l.map KC.toV = m.map KC.toV → l = m
 | [], [], _ => rfl
 | [], _ :: _, h => by simp at h
 | _ :: _, [], h => by simp at h
 | a :: l, b :: m, h => by
  simp only [Qyz, List.cons.injEq] at h
  rw [KC.inj h.1, QkL h.2]
theorem QoM {P : Program} {w : World} (N : Nat) (x y : List KC) : ∀ (fs : List Field) (o : Nat) (l : List (Option IntKind)), fltK P fs o l = true → (x.drop o).map KC.sh = l → (y.drop o).map KC.sh = l →
  ∃ r : Bool, (Op.eqFields (N + 1) (arrK x) (arrK y) fs).run P w = .ok r w ∧ (r = true ↔ x.drop o = y.drop o)
 | [], o, [], _, hx, hy => ⟨true, rfl, by
   have h1 : x.drop o = [] := List.map_eq_nil_iff.1 hx
   have h2 : y.drop o = [] := List.map_eq_nil_iff.1 hy
   simp [h1, h2]⟩
 | f :: r, o, q :: l, h, hx, hy => by
  simp only [fltK, QxA, Qxw, Qy2] at h
  obtain ⟨⟨⟨⟨h1, rfl⟩, h2⟩, h3⟩, h4⟩ := h
  have cut : ∀ z : List KC, (z.drop f.offset).map KC.sh = q :: l → ∃ a, z[f.offset]? = some a ∧ a.sh = q ∧ z.drop f.offset = a :: z.drop (f.offset + 1) ∧ (z.drop (f.offset + 1)).map KC.sh = l := fun z hz => by
   cases hd : z.drop f.offset with
   | nil => rw [hd] at hz; cases hz
   | cons a r' =>
    rw [hd] at hz
    simp only [Qyz, List.cons.injEq] at hz
    have e0 : z[f.offset]? = some a := by
     have := QxK (·[0]?) hd
     simpa using this
    have e1 : z.drop (f.offset + 1) = r' := by
     have := QxK (List.drop 1) hd
     simpa using this
    exact ⟨a, e0, hz.1, by rw [e1], by rw [e1]; exact hz.2⟩
  obtain ⟨a, a1, a2, a3, a4⟩ := cut x hx
  obtain ⟨b, b1, b2, b3, b4⟩ := cut y hy
  obtain ⟨r', r1, r2⟩ := QoM (w := w) N x y r (f.offset + 1) l h4 a4 b4
  have heq : ∃ t : Bool, (Op.equalIn (N + 1) f.type a.toV b.toV).run P w = .ok t w ∧ (t = true ↔ a = b) := by
   unfold Op.equalIn
   cases hu : P.underlying f.type with
   | none => rw [hu] at h3; simp at h3
   | some d =>
    rw [hu] at h3
    rw [Qfv (run_underlying hu w)]
    split at h3
    ·rename_i k k' e
     cases e
     have := Qx4 h3
     subst this
     cases a with
     | s _ => cases a2
     | i ka na =>
      cases b with
      | s _ => cases b2
      | i kb nb =>
       cases a2; cases b2
       exact ⟨na == nb, by simp [KC.toV], by simp⟩
    ·rename_i e
     cases e
     cases a with
     | i _ _ => cases a2
     | s sa =>
      cases b with
      | i _ _ => cases b2
      | s sb => exact ⟨sa == sb, rfl, by simp [MapKept.bytes_beq]⟩
    ·cases h3
  obtain ⟨t, t1, t2⟩ := heq
  simp only [Op.eqFields, Qxt h1]
  rw [Qfv (run_part_plain w h2 (Qig a1)), Qfv (run_part_plain w h2 (Qig b1)), Qfv t1]
  rw [a3, b3]
  cases t with
  | false =>
   refine ⟨false, by simp, ?_⟩
   have : a ≠ b := fun e => by have := t2.2 e; cases this
   simp [this]
  | true =>
   refine ⟨r', by simpa using r1, ?_⟩
   rw [r2]
   have := t2.1 rfl
   simp [this]
 | [], _, _ :: _, h, _, _ => by simp [fltK] at h
 | _ :: _, _, [], h, _, _ => by simp [fltK] at h
theorem Qlk (hu : P.underlying k = some (.struct fs)) (hs : P.stoodInHeld k = false) (hf : fltK P fs.toList 0 l = true) {y : List KC} (hx : x.map KC.sh = l) (hy : y.map KC.sh = l) :
  ∃ r : Bool, (Op.equal k (.agg (arrK x)) (.agg (arrK y))).run P w = .ok r w ∧ (r = true ↔ x = y) := by
 obtain ⟨r, r1, r2⟩ := QoM (P := P) (w := w) 9998 x y fs.toList 0 l hf hx hy
 refine ⟨r, ?_, by simpa using r2⟩
 have hfs : P.fieldsOf k = fs := by simp [Program.fieldsOf, hu]
 show (Op.equalIn (9999 + 1) k _ _).run P w = _
 rw [run_equalIn_struct w 9999 k (arrK x) (arrK y) (by rw [hfs]; exact hu) hs, hfs]
 exact r1
theorem QiA {P : Program} {w : World} {em : Bool} (N : Nat) (x : List KC) : ∀ (fs : List Field) (o : Nat) (l : List (Option IntKind)), fltK P fs o l = true → (x.drop o).map KC.sh = l →
  ∀ f ∈ fs, f.name ≠ "_" ∧ ∃ v, (part f.type (arrK x) f.offset).run P w = .ok v w ∧ (Instr.checkKey em (N + 1) f.type v).run P w = .ok () w
 | [], _, _, _, _ => by simp
 | f :: r, o, q :: l, h, hx => by
  simp only [fltK, QxA, Qxw, Qy2] at h
  obtain ⟨⟨⟨⟨h1, rfl⟩, h2⟩, h3⟩, h4⟩ := h
  cases hd : x.drop f.offset with
  | nil => rw [hd] at hx; cases hx
  | cons a r' =>
   have e0 : x[f.offset]? = some a := by
    have := QxK (·[0]?) hd
    simpa using this
   have e1 : x.drop (f.offset + 1) = r' := by
    have := QxK (List.drop 1) hd
    simpa using this
   rw [hd] at hx
   simp only [Qyz, List.cons.injEq] at hx
   have ih := QiA (P := P) (w := w) (em := em) N x r (f.offset + 1) l h4 (by rw [e1]; exact hx.2)
   intro g hg
   rcases Qyf.1 hg with rfl | hg
   ·refine ⟨h1, a.toV, run_part_plain w h2 (Qig e0), ?_⟩
    cases hu : P.underlying g.type with
    | none => rw [hu] at h3; simp at h3
    | some d =>
     rw [hu] at h3
     split at h3
     ·rename_i k k' e
      cases e
      cases a with
      | s _ => cases hx.1
      | i ka na => cases hx.1; exact MapKept.run_checkKey hu (by have := Qx4 h3; simp [MapKept.IsKey, KC.toV, this]) em N
     ·rename_i e
      cases e
      cases a with
      | i _ _ => cases hx.1
      | s sa => exact MapKept.run_checkKey hu (by simp [MapKept.IsKey, KC.toV]) em N
     ·cases h3
   ·exact ih g hg
 | _ :: _, _, [], h, _ => by simp [fltK] at h
theorem QlB (hu : P.underlying k = some (.struct fs)) (hf : fltK P fs.toList 0 l = true) (hx : x.map KC.sh = l) (em : Bool) :
  (Instr.checkKey em 10000 k (.agg (arrK x))).run P w = .ok () w := by
 have each := QiA (P := P) (w := w) (em := em) 9998 x fs.toList 0 l hf (by simpa using hx)
 rw [show 10000 = 9999 + 1 from rfl, Instr.checkKey]
 simp only [Sem.run_bind, run_underlying hu, Result.andThen_ok]
 rw [← Array.forIn_toList]
 generalize fs.toList = L at each
 induction L with
 | nil => simp
 | cons f L ih =>
  obtain ⟨hn, v, p1, p2⟩ := each f (by simp)
  simp only [List.forIn_cons, Sem.run_bind, hn, ne_eq, not_false_eq_true, Qyo, Result.andThen_ok, p1, p2, Sem.run_pure]
  exact ih (fun y hy => each y (by simp [hy]))
theorem Qmj : ∀ (l : List KC), ((l.map KC.toV).zip (l.map KC.toV)).all (fun (x, y) => Instr.sameBits 9999 x y) = true
 | [] => rfl
 | a :: l => by
  simp only [Qyz, List.zip_cons_cons, Qzf, QxA]
  refine ⟨?_, Qmj l⟩
  cases a with
  | i k n => simp [Instr.sameBits, KC.toV]
  | s b => simp [Instr.sameBits, KC.toV, MapKept.bytes_beq]
theorem Qo3 {P : Program} {w : World} {k : Nat} {fs : Array Field} {l : List (Option IntKind)} (hu : P.underlying k = some (.struct fs)) (hs : P.stoodInHeld k = false) (hf : fltK P fs.toList 0 l = true) {x : List KC} (hx : x.map KC.sh = l) :
  ∀ (es : List MapEntry) (i : Nat), (∀ e ∈ es, ∃ y : List KC, y.map KC.sh = l ∧ e.key = .agg (arrK y)) →
  ((Instr.findAsking k (.agg (arrK x)) es i).run P w = .ok none w ∧ ∀ e ∈ es, e.key ≠ .agg (arrK x)) ∨ ∃ (j : Nat) (e : MapEntry), (Instr.findAsking k (.agg (arrK x)) es i).run P w = .ok (some (i + j, e.val)) w ∧ es[j]? = some e ∧ e.key = .agg (arrK x)
 | [], i, _ => .inl ⟨rfl, by simp⟩
 | e :: es, i, h => by
  obtain ⟨y, y1, y2⟩ := h e (by simp)
  obtain ⟨r, r1, r2⟩ := Qlk (P := P) (w := w) hu hs hf hx y1
  unfold Instr.findAsking
  rw [y2, Qfv r1]
  cases r with
  | true =>
   refine .inr ⟨0, e, by simp, rfl, ?_⟩
   rw [y2, r2.1 rfl]
  | false =>
   have hne : x ≠ y := fun q => by have := r2.2 q; cases this
   rcases Qo3 hu hs hf hx es (i + 1) (fun e he => h e (by simp [he])) with ⟨h1, h2⟩ | ⟨j, e', h1, h2, h3⟩
   ·refine .inl ⟨by simpa using h1, fun e' he' => ?_⟩
    rcases Qyf.1 he' with rfl | he'
    ·rw [y2]
     intro q
     have : arrK y = arrK x := by injection q
     apply hne
     have hh := QxV.2 this
     simp only [arrK] at hh
     exact QkL hh.symm
    ·exact h2 e' he'
   ·exact .inr ⟨j + 1, e', by rw [show i + (j + 1) = i + 1 + j by omega]; simpa using h1, by simpa using h2, h3⟩
theorem Qsl (hu : P.underlying k = some (.struct fs)) (hs : P.stoodInHeld k = false) (hf : fltK P fs.toList 0 l = true) (hx : x.map KC.sh = l)
  (es : List MapEntry) (h : ∀ e ∈ es, ∃ y : List KC, y.map KC.sh = l ∧ e.key = .agg (arrK y)) :
  ((Instr.findKey k (.agg (arrK x)) es).run P w = .ok none w ∧ ∀ e ∈ es, e.key ≠ .agg (arrK x)) ∨ ∃ (j : Nat) (e : MapEntry), (Instr.findKey k (.agg (arrK x)) es).run P w = .ok (some (j, e.val)) w ∧ es[j]? = some e ∧ e.key = .agg (arrK x) := by
 have key : (Instr.findKey k (.agg (arrK x)) es).run P w = (Instr.findAsking k (.agg (arrK x)) es 0).run P w := by
  unfold Instr.findKey
  rw [Qfv (run_underlying hu w)]
  cases es with
  | nil => rfl
  | cons e es => rfl
 rw [key]
 have := Qo3 (P := P) (w := w) hu hs hf hx es 0 h
 simpa using this
inductive TD where
 | bool | int (k : IntKind) | str | ptr (e : Nat) | slice (e : Nat) | strct (fs : List (Nat × Nat)) | arr (n e : Nat) | fn | map (sh : KS) (k e : Nat)
structure TI where
 td : TD
 size : Nat
 bytes : Nat
 zero : List Z
abbrev Env := List (Nat × TI)
def Env.at : Env → Nat → Option TI
 | [], _ => none
 | (u, i) :: r, t => match Nat.beq u t with
  | true => some i
  | false => Env.at r t
def TI.agg (i : TI) : Bool := match i.td with
 | .strct _ | .arr _ _ => true
 | _ => false
structure KL (P : Program) (k : Nat) (sh : KS) : Prop where
 check : ∀ (w : World) (em : Bool) (x : Key), x.sh = sh → (Instr.checkKey em 10000 k x.toV).run P w = .ok () w
 find : ∀ (w : World) (x : Key), x.sh = sh → ∀ es : List MapEntry, (∀ e ∈ es, ∃ y : Key, y.sh = sh ∧ e.key = y.toV) →
  ((Instr.findKey k x.toV es).run P w = .ok none w ∧ ∀ e ∈ es, e.key ≠ x.toV) ∨ ∃ (j : Nat) (e : MapEntry), (Instr.findKey k x.toV es).run P w = .ok (some (j, e.val)) w ∧ es[j]? = some e ∧ e.key = x.toV
 stays : ∀ (w : World) (x : Key), x.sh = sh → (Instr.keyThatStays x.toV x.toV).run P w = .ok x.toV w
theorem KL.of (hd : P.underlying k = some d) {q : Option IntKind} (h : ∀ x : Key, x.sh = .c q → MapKept.IsKey d x.toV) : KL P k (.c q) where
 check w em x hx := MapKept.run_checkKey hd (h x hx) em 9999
 find w x hx es hes := by
  rcases MapKept.findNow_spec (h x hx) es 0 (fun e he => let ⟨y, h1, h2⟩ := hes e he; h2 ▸ h y h1) with ⟨h1, h2⟩ | ⟨j, e, h1, h2, h3⟩
  ·exact .inl ⟨MapKept.run_findKey hd h1, h2⟩
  ·exact .inr ⟨j, e, MapKept.run_findKey hd (by rw [h1, QxX]), h2, h3⟩
 stays w x hx := MapKept.run_keyThatStays (h x hx)
theorem KL.int {P : Program} {k : Nat} {q : IntKind} (hd : P.underlying k = some (.int q)) : KL P k (.c (some q)) :=
 KL.of hd fun x hx => by
  cases x with
  | a l => cases hx
  | c y => cases y with
   | s b => cases hx
   | i k n => cases hx; simp [MapKept.IsKey, Key.toV, KC.toV]
theorem KL.str (hd : P.underlying k = some .string) : KL P k (.c none) :=
 KL.of hd fun x hx => by
  cases x with
  | a l => cases hx
  | c y => cases y with
   | i k n => cases hx
   | s b => simp [MapKept.IsKey, Key.toV, KC.toV]
theorem KL.strct (h : keyB P k l = true) : KL P k (.a l) := by
 unfold keyB at h
 split at h
 ·rename_i fs hu
  simp only [QxA, Qyp] at h
  have un : ∀ x : Key, x.sh = .a l → ∃ m : List KC, x = .a m ∧ m.map KC.sh = l ∧ x.toV = .agg (arrK m) := fun x hx => by
   cases x with
   | c _ => cases hx
   | a m => exact ⟨m, rfl, by simpa [Key.sh] using hx, rfl⟩
  refine ⟨fun w em x hx => ?_, fun w x hx es hes => ?_, fun w x hx => ?_⟩
  ·obtain ⟨m, rfl, h1, h2⟩ := un x hx
   rw [h2]; exact QlB hu h.2 h1 em
  ·obtain ⟨m, rfl, h1, h2⟩ := un x hx
   rw [h2]
   exact Qsl hu h.1 h.2 h1 es fun e he => by
    obtain ⟨y, y1, y2⟩ := hes e he
    obtain ⟨n, rfl, n1, n2⟩ := un y y1
    exact ⟨n, n1, y2.trans n2⟩
  ·obtain ⟨m, rfl, h1, h2⟩ := un x hx
   rw [h2]
   have : Instr.sameBits 10000 (.agg (arrK m)) (.agg (arrK m)) = true := by
    show ((arrK m).size == (arrK m).size && ((arrK m).toList.zip (arrK m).toList).all fun (x, y) => Instr.sameBits 9999 x y) = true
    rw [QxA]
    exact ⟨by simp, Qmj m⟩
   simp [Instr.keyThatStays, this]
 ·cases h
def tdOk (P : Program) : TypeDesc → TD → Prop
 | .bool, .bool => True
 | .int k, .int k' => k = k'
 | .string, .str => True
 | .pointer e, .ptr e' => e = e'
 | .slice e, .slice e' => e = e'
 | .struct fs, .strct l => l = fs.toList.map (fun f => (f.offset, f.type)) ∧ ∀ f ∈ fs.toList, ∃ i, P.info? f.type = some i ∧ i.size ≠ 0
 | .array n e, .arr n' e' => n = n' ∧ e = e'
 | .func .., .fn => True
 | .map k e, .map sh k' e' => k = k' ∧ e = e' ∧ KL P k sh
 | _, _ => False
def Z.plain : Z → Bool
 | .b => true
 | .i _ => true
 | .s => true
 | _ => false
def TI.flat (i : TI) : Bool := match i.td with
 | .strct _ => i.zero.all Z.plain
 | _ => false
def QfW : TypeDesc → Z → Bool
 | .bool, .b => true
 | .int q, .i q' => decide (q = q')
 | .string, .s => true
 | _, _ => false
def QeV (P : Program) : List Field → Nat → Nat → Bool
 | [], o, n => decide (o = n)
 | f :: r, o, n => decide (f.offset = o) && QeV P r (o + P.cellsOf f.type) n
def QdG (P : Program) : Nat → Nat → List Z → Bool
 | 0, _, _ => false
 | d + 1, t, zs => match P.underlying t with
  | some (.struct fs) => !P.stoodInHeld t && QeV P fs.toList 0 zs.length && fs.toList.all fun f => f.name != "_" && decide (((zs.drop f.offset).take (P.cellsOf f.type)).length = P.cellsOf f.type) && QdG P d f.type ((zs.drop f.offset).take (P.cellsOf f.type))
  | some k => P.plainKey t && (match zs with
   | [z] => QfW k z
   | _ => false)
  | none => false
structure TIok (P : Program) (t : Nat) (i : TI) : Prop where
 info : ∃ x, P.info? t = some x ∧ x.size = i.size ∧ x.bytes = i.bytes ∧ ∃ z, x.zero = some z ∧ z.cells.toList = i.zero.map Z.toV
 und : ∃ d, P.underlying t = some d ∧ tdOk P d i.td
 flt : i.flat = true → QdG P 20 t i.zero = true ∧ P.eqGuardType P.depth t = false ∧ ∃ fs, P.underlying t = some (.struct fs)
 zag : ∀ x z, P.info? t = some x → x.zero = some z → (i.agg = true → ∃ a, z = .agg a) ∧ (i.agg = false → z.oneCell' = true)
def Qw (P : Program) (Γ : Env) : Prop := ∀ t i, Γ.at t = some i → TIok P t i
def zOf : Value → Option Z
 | .bool false => some .b
 | .int k n => if n = 0 then some (.i k) else none
 | .string s => if s.size = 0 then some .s else none
 | .pointer none => some .p
 | .slice none 0 0 => some .sl
 | .nilFunc => some .f
 | .map none => some .m
 | _ => none
theorem Quj {z : Z} (h : zOf v = some z) : v = z.toV := by
 unfold zOf at h
 split at h <;> first | (cases h; rfl) | skip
 ·split at h
  ·cases h; rename_i e; subst e; rfl
  ·cases h
 ·split at h
  ·rename_i s e
   cases h
   show Value.string s = Value.string ByteArray.empty
   congr 1
   have : s.data = #[] := by apply Array.eq_empty_of_size_eq_zero; exact e
   cases s; simp_all
  ·cases h
 ·cases h
def zsOf : List Value → Option (List Z)
 | [] => some []
 | v :: r => match zOf v, zsOf r with
  | some z, some zs => some (z :: zs)
  | _, _ => none
theorem QoU : ∀ (l : List Value) (zs : List Z), zsOf l = some zs → l = zs.map Z.toV
 | [], zs, h => by simp [zsOf] at h; subst h; rfl
 | v :: r, zs, h => by
  simp only [zsOf] at h
  cases h1 : zOf v with
  | none => simp [h1] at h
  | some z =>
   cases h2 : zsOf r with
   | none => simp [h1, h2] at h
   | some zs' =>
    simp only [h1, h2, Qxv] at h
    subst h
    rw [Qyz, ← Quj h1, ← QoU r zs' h2]
def tdB (P : Program) : TypeDesc → TD → Bool
 | .bool, .bool => true
 | .int k, .int k' => decide (k = k')
 | .string, .str => true
 | .pointer e, .ptr e' => decide (e = e')
 | .slice e, .slice e' => decide (e = e')
 | .struct fs, .strct l => decide (l = fs.toList.map (fun f => (f.offset, f.type))) && fs.toList.all (fun f => match P.info? f.type with | some i => decide (i.size ≠ 0) | none => false)
 | .array n e, .arr n' e' => decide (n = n') && decide (e = e')
 | .func .., .fn => true
 | .map k e, .map sh k' e' => decide (k = k') && decide (e = e') && (match sh with | .a l => keyB P k l | sh => match P.underlying k, sh with | some (.int q), .c (some q') => decide (q = q') | some .string, .c none => true | _, _ => false)
 | _, _ => false
theorem Qt8 {t : TD} (h : tdB P d t = true) : tdOk P d t := by
 unfold tdB at h
 split at h
 case h_6 fs l =>
  simp only [QxA, Qxw, Qx2] at h
  refine ⟨h.1, fun f hf => ?_⟩
  have := h.2 f hf
  cases hi : P.info? f.type with
  | none => simp [hi] at this
  | some i => exact ⟨i, rfl, by simpa [hi] using this⟩
 case h_9 k e sh k' e' =>
  simp only [QxA, Qxw] at h
  obtain ⟨⟨rfl, rfl⟩, h⟩ := h
  refine ⟨rfl, rfl, ?_⟩
  split at h
  ·exact KL.strct h
  ·split at h
   ·rename_i q q' hq _
    have : q = q' := Qx4 h
    subst this
    exact KL.int hq
   ·rename_i hq _
    exact KL.str hq
   ·cases h
 all_goals simp_all [tdOk]
def QpJ (P : Program) (t : Nat) (i : TI) : Bool :=
 QdG P 20 t i.zero && !P.eqGuardType P.depth t && (match P.underlying t with
  | some (.struct _) => true
  | _ => false)
theorem Qth {t : Nat} {i : TI} (h : QpJ P t i = true) : QdG P 20 t i.zero = true ∧ P.eqGuardType P.depth t = false ∧ ∃ fs, P.underlying t = some (.struct fs) := by
 unfold QpJ at h
 simp only [QxA, Qyp] at h
 refine ⟨h.1.1, h.1.2, ?_⟩
 have h3 := h.2
 split at h3
 ·rename_i fs hu; exact ⟨fs, hu⟩
 ·cases h3
def tiB (P : Program) (t : Nat) (i : TI) : Bool :=
 match P.info? t, P.underlying t with
 | some x, some d => decide (x.size = i.size) && decide (x.bytes = i.bytes) && (match x.zero with | some z => decide (zsOf z.cells.toList = some i.zero) && (match z with | .agg _ => i.agg | _ => !i.agg && z.oneCell') | none => false) && (!i.flat || QpJ P t i) && tdB P d i.td
 | _, _ => false
theorem Qup {t : Nat} {i : TI} (h : tiB P t i = true) : TIok P t i := by
 unfold tiB at h
 cases h1 : P.info? t with
 | none => simp [h1] at h
 | some x =>
  cases h2 : P.underlying t with
  | none => simp [h1, h2] at h
  | some d =>
   simp only [h1, h2, QxA, Qxw] at h
   obtain ⟨⟨⟨⟨e1, e2⟩, e3⟩, e5⟩, e4⟩ := h
   cases hz : x.zero with
   | none => simp [hz] at e3
   | some z =>
    simp only [hz, QxA, Qxw] at e3
    refine ⟨⟨x, h1, e1, e2, z, hz, QoU _ _ e3.1⟩, ⟨d, h2, Qt8 e4⟩, fun hfl => Qth (by rw [hfl] at e5; simpa using e5), fun x' z' hx' hz' => ?_⟩
    rw [h1] at hx'
    cases hx'
    rw [hz] at hz'
    cases hz'
    have h3 := e3.2
    split at h3
    ·exact ⟨fun _ => ⟨_, rfl⟩, fun e => (by rw [e] at h3; cases h3)⟩
    ·simp only [QxA, Qyp] at h3
     exact ⟨fun e => (by rw [h3.1] at e; cases e), fun _ => h3.2⟩
def envB (P : Program) (Γ : Env) : Bool := Γ.all fun x => tiB P x.1 x.2
theorem QtY {Γ : Env} (h : envB P Γ = true) : Qw P Γ := by
 intro t i hi
 induction Γ with
 | nil => simp [Env.at] at hi
 | cons x r ih =>
  obtain ⟨u, j⟩ := x
  simp only [envB, Qzf, QxA] at h
  simp only [Env.at] at hi
  cases hb : Nat.beq u t with
  | true =>
   have : u = t := QxD hb
   subst this
   simp only [hb, Qxv] at hi
   subst hi
   exact Qup h.1
  | false =>
   simp only [hb] at hi
   exact ih h.2 hi
def QeB : Value → Option C
 | .bool b => some (.bool b)
 | .int k n => some (.int k n)
 | .string s => match Nat.ble s.size 1000000 with
  | true => some (.str s)
  | false => none
 | .pointer none => some .nilp
 | .slice none 0 0 => some .nils
 | .nilFunc => some .nilfn
 | .map none => some .nilm
 | _ => none
def Qem : List Value → Option (List C)
 | [] => some []
 | v :: r => match QeB v with
  | some c => match Qem r with
   | some l => some (c :: l)
   | none => none
  | none => none
def Qmp (v : Value) : S :=
 match v with
 | .agg cs => match Qem cs.toList with
  | some l => .a l
  | none => .u
 | v => match QeB v with
  | some c => .c c
  | none => .u
theorem Qla {c : C} (h : QeB v = some c) : RepC F H μ c v := by
 unfold QeB at h
 split at h <;> first | (cases h; rfl) | skip
 ·split at h
  ·rename_i hb
   cases h
   refine ⟨rfl, ?_⟩
   have := QxJ hb
   unfold maxLen
   omega
  ·cases h
 ·cases h
theorem Qk4 {F : Mem} {H : List O} {μ : Nat → Value} : ∀ {l : List Value} {cs : List C}, Qem l = some cs → l.length = cs.length ∧ ∀ (j : Nat) x, getL cs j = some x → ∃ v, l[j]? = some v ∧ RepC F H μ x v
 | [], cs, h => by simp [Qem] at h; subst h; simp [getL]
 | v :: r, cs, h => by
  simp only [Qem] at h
  cases h1 : QeB v with
  | none => simp [h1] at h
  | some c =>
   cases h2 : Qem r with
   | none => simp [h1, h2] at h
   | some l =>
    simp only [h1, h2, Qxv] at h
    subst h
    obtain ⟨e1, e2⟩ := Qk4 (F := F) (H := H) (μ := μ) h2
    refine ⟨by simp [e1], fun j x hx => ?_⟩
    cases j with
    | zero => simp [getL] at hx; subst hx; exact ⟨v, by simp, Qla h1⟩
    | succ j => simp only [getL] at hx; simpa using e2 j x hx
theorem QrM (v : Value) : RepS F H μ (Qmp v) v := by
 have key : ∀ v : Value, RepS F H μ (match QeB v with | some c => .c c | none => .u) v := by
  intro v
  cases hc : QeB v with
  | none => trivial
  | some c => exact Qla (F := F) (H := H) (μ := μ) hc
 cases v with
 | agg cs =>
  simp only [Qmp]
  cases hl : Qem cs.toList with
  | none => trivial
  | some l =>
   obtain ⟨e1, e2⟩ := Qk4 (F := F) (H := H) (μ := μ) hl
   exact ⟨cs, rfl, by simpa using e1, fun j x hx => by simpa using e2 j x hx⟩
 | bool b => exact key (.bool b)
 | int k n => exact key (.int k n)
 | float k n => exact key (.float k n)
 | complex k n m => exact key (.complex k n m)
 | string s => exact key (.string s)
 | pointer p => exact key (.pointer p)
 | slice p n m => exact key (.slice p n m)
 | map r => exact key (.map r)
 | chan r => exact key (.chan r)
 | func f x y => exact key (.func f x y)
 | nilFunc => exact key .nilFunc
 | iface t v => exact key (.iface t v)
 | nilIface => exact key .nilIface
 | tuple vs => exact key (.tuple vs)
def opnd (ts : Ts) : Operand → S
 | .tmp t => find t ts
 | .const v => Qmp v
 | .global _ => .u
 | .func f => .c (.fn (.func f) 0 fun _ => .junk)
theorem Q9 {a : Act} (h : TSat F H μ ts a.tmps) : ∀ x, RepS F H μ (opnd ts x) (a.eval x)
 | .tmp t => h t
 | .const v => QrM v
 | .global _ => trivial
 | .func f => ⟨#[], rfl, rfl, fun j hj => by omega⟩
def bare : S → List Prop × S
 | .lz g s => match bare s with
  | (p, s') => ((g = true) :: p, s')
 | s => ([], s)
theorem Qaq {F : Mem} {H : List O} {μ : Nat → Value} : ∀ {s s' : S} {p : List Prop} {v : Value}, RepS F H μ s v → bare s = (p, s') → (∀ q ∈ p, q) → RepS F H μ s' v
 | .u, _, _, _, h, e, _ => by simp only [bare, QxI] at e; obtain ⟨_, rfl⟩ := e; exact h
 | .c x, _, _, _, h, e, _ => by simp only [bare, QxI] at e; obtain ⟨_, rfl⟩ := e; exact h
 | .a x, _, _, _, h, e, _ => by simp only [bare, QxI] at e; obtain ⟨_, rfl⟩ := e; exact h
 | .t x, _, _, _, h, e, _ => by simp only [bare, QxI] at e; obtain ⟨_, rfl⟩ := e; exact h
 | .so .., s', p, v, h, e, hp => by cases e; exact h
 | .lz g s, s', p, v, h, e, hp => by
  simp only [bare] at e
  cases hs : bare s with
  | mk p' s'' =>
   simp only [hs, QxI] at e
   obtain ⟨rfl, rfl⟩ := e
   have hg : g = true := hp _ (by simp)
   exact Qaq (h.1 hg) hs (fun q hq => hp q (by simp [hq]))
def Qp0 (op : BinOp) (k : IntKind) (x y : Int) : Option (List Prop × C) :=
 match op with
 | .add => some ([], .int k (k.wrap (x + y)))
 | .sub => some ([], .int k (k.wrap (x - y)))
 | .mul => some ([], .int k (k.wrap (x * y)))
 | .quo => some ([y ≠ 0], .int k (k.wrap (x.tdiv y)))
 | .rem => some ([y ≠ 0], .int k (x.tmod y))
 | .and => some ([], .int k (k.wrap (BitVec.ofInt k.bits x &&& BitVec.ofInt k.bits y).toNat))
 | .or => some ([], .int k (k.wrap (BitVec.ofInt k.bits x ||| BitVec.ofInt k.bits y).toNat))
 | .xor => some ([], .int k (k.wrap (BitVec.ofInt k.bits x ^^^ BitVec.ofInt k.bits y).toNat))
 | .andNot => some ([], .int k (k.wrap (BitVec.ofInt k.bits x &&& ~~~ BitVec.ofInt k.bits y).toNat))
 | .eql => some ([], .bool (x == y))
 | .neq => some ([], .bool (x != y))
 | .lss => some ([], .bool (decide (x < y)))
 | .leq => some ([], .bool (decide (x ≤ y)))
 | .gtr => some ([], .bool (decide (x > y)))
 | .geq => some ([], .bool (decide (x ≥ y)))
 | _ => none
def QjU (op : BinOp) (k : IntKind) (x y : Int) : Option (List Prop × C) :=
 match op with
 | .shl => some ([0 ≤ y], .int k (k.wrap (x * 2 ^ (min y.toNat k.bits))))
 | .shr => some ([0 ≤ y], .int k (x.fdiv (2 ^ (min y.toNat k.bits))))
 | _ => none
def QeN (x y : ByteArray) : Bool := Op.bytesLess x.toList y.toList
def QqA (op : BinOp) (x y : ByteArray) : Option (List Prop × C) :=
 match op with
 | .eql => some ([], .bool (decide (x = y)))
 | .neq => some ([], .bool (!decide (x = y)))
 | .add => some ([x.size + y.size ≤ 9223372036854775807], .str (x ++ y))
 | .lss => some ([], .bool (QeN x y))
 | .leq => some ([], .bool (QeN x y || decide (x = y)))
 | .gtr => some ([], .bool !(QeN x y || decide (x = y)))
 | .geq => some ([], .bool !(QeN x y))
 | _ => none
def QmN (op : BinOp) (x y : Bool) : Option (List Prop × C) :=
 match op with
 | .eql => some ([], .bool (x == y))
 | .neq => some ([], .bool (!(x == y)))
 | _ => none
def Qo1 : BinOp → Bool
 | .shl | .shr => true
 | _ => false
def binC (op : BinOp) (x y : C) : Option (List Prop × C) :=
 match x with
 | .int k a => match y with
  | .int k' b => match Qo1 op with
   | true => QjU op k a b
   | false => match decide (k = k') with
    | true => Qp0 op k a b
    | false => none
  | _ => none
 | .str a => match y with
  | .str b => QqA op a b
  | _ => none
 | .bool a => match y with
  | .bool b => QmN op a b
  | _ => none
 | _ => none
theorem bytes_beq (a b : ByteArray) : (a.toList == b.toList) = decide (a = b) := by
 have key : a.toList = b.toList ↔ a = b := by
  constructor
  ·intro h
   rw [ByteArray.toList_eq, ByteArray.toList_eq] at h
   cases a; cases b; simp_all [QxV]
  ·intro h; rw [h]
 by_cases e : a = b
 ·subst e; simp
 ·rw [QxE e]
  rw [Qze]
  exact fun h => e (key.1 h)
theorem QrB {a b : ByteArray} {c : C} (P : Program) (w : World) (h : QqA op a b = some (ns, c)) (hn : ∀ p ∈ ns, p) :
  ∃ v, (Op.stringOp op a b).run P w = .ok v w ∧ ∀ F, RepF F c v := by
 cases op <;> simp only [QqA, Qxv, QxI, reduceCtorEq] at h
 ·obtain ⟨rfl, rfl⟩ := h
  have h1 : a.size + b.size ≤ 9223372036854775807 := hn _ (by simp)
  refine ⟨.string (a ++ b), ?_, fun F => ⟨rfl, ?_⟩⟩
  ·have : ¬ (((a.size + b.size : Nat) : Int) > IntKind.i64.max) := by
    have : IntKind.i64.max = 9223372036854775807 := by decide
    rw [this]; omega
   simp only [Op.stringOp, Qxu this]
   rfl
  ·simp [maxLen, QxZ]; omega
 ·obtain ⟨rfl, rfl⟩ := h
  exact ⟨.bool (decide (a = b)), by rw [← bytes_beq]; rfl, fun F => rfl⟩
 ·obtain ⟨rfl, rfl⟩ := h
  exact ⟨.bool (!decide (a = b)), by rw [← bytes_beq]; rfl, fun F => rfl⟩
 ·obtain ⟨rfl, rfl⟩ := h
  exact ⟨.bool (QeN a b), rfl, fun F => rfl⟩
 ·obtain ⟨rfl, rfl⟩ := h
  exact ⟨.bool (QeN a b || decide (a = b)), by rw [← bytes_beq]; rfl, fun F => rfl⟩
 ·obtain ⟨rfl, rfl⟩ := h
  exact ⟨.bool !(QeN a b || decide (a = b)), by rw [← bytes_beq]; rfl, fun F => rfl⟩
 ·obtain ⟨rfl, rfl⟩ := h
  exact ⟨.bool !(QeN a b), rfl, fun F => rfl⟩
theorem QqU {k : IntKind} {a b : Int} {c : C} (P : Program) (w : World) (t : TypeId) (h : Qp0 op k a b = some (ns, c)) (hn : ∀ p ∈ ns, p) :
  ∃ v, (binOp op t (.int k a) (.int k b)).run P w = .ok v w ∧ ∀ F, RepF F c v := by
 cases op <;> simp only [Qp0, Qxv, QxI, reduceCtorEq] at h
 case quo =>
  obtain ⟨rfl, rfl⟩ := h
  have h1 : b ≠ 0 := hn _ (by simp)
  refine ⟨_, ?_, fun F => rfl⟩
  simp [binOp, Op.intDiv, h1, pure]
 case rem =>
  obtain ⟨rfl, rfl⟩ := h
  have h1 : b ≠ 0 := hn _ (by simp)
  refine ⟨_, ?_, fun F => rfl⟩
  simp [binOp, Op.intDiv, h1, pure]
 all_goals
  obtain ⟨rfl, rfl⟩ := h
  refine ⟨_, ?_, fun F => rfl⟩
  simp [binOp, Op.intArith, Op.intBits, Op.intCmp, pure]
theorem QnX {k k' : IntKind} {a b : Int} {c : C} (P : Program) (w : World) (t : TypeId) (h : QjU op k a b = some (ns, c)) (hn : ∀ p ∈ ns, p) :
  ∃ v, (binOp op t (.int k a) (.int k' b)).run P w = .ok v w ∧ ∀ F, RepF F c v := by
 cases op <;> simp only [QjU, Qxv, QxI, reduceCtorEq] at h
 all_goals
  obtain ⟨rfl, rfl⟩ := h
  have h1 : 0 ≤ b := hn _ (by simp)
  have h2 : ¬ b < 0 := by omega
  refine ⟨_, ?_, fun F => rfl⟩
  simp [binOp, Op.shift, h2, pure]
theorem QpD {a b : Bool} {c : C} (w : World) {t : TypeId} (ht : P.underlying t = some .bool) (h : QmN op a b = some (ns, c)) :
  ∃ v, (binOp op t (.bool a) (.bool b)).run P w = .ok v w ∧ ∀ F, RepF F c v := by
 cases op <;> simp only [QmN, Qxv, QxI, reduceCtorEq] at h
 ·obtain ⟨rfl, rfl⟩ := h
  exact ⟨_, run_eql_bool w t a b ht, fun F => rfl⟩
 ·obtain ⟨rfl, rfl⟩ := h
  exact ⟨_, run_neq_bool w t a b ht, fun F => rfl⟩
theorem Qs1 {x y : C} {c : C} (w : World) {t : TypeId} {X Y : Operand} {u : Value}
  (ht : (∃ a, x = .bool a) → P.underlying t = some .bool) (h : binC op x y = some (ns, c)) (hn : ∀ p ∈ ns, p) (hx : RepC F H μ x u) (hy : RepC F H μ y v) :
  ∃ r, (do eqGuard op t X Y u v; binOp op t u v : Sem Value).run P w = .ok r w ∧ RepC F H μ c r := by
 cases x with
 | int k a =>
  cases y with
  | int k' b =>
   rw [show u = _ from hx, show v = _ from hy, eqGuard_at_int]
   simp only [binC] at h
   cases hs : Qo1 op with
   | true =>
    simp only [hs] at h
    obtain ⟨r, h1, h2⟩ := QnX P w t (k' := k') h hn
    exact ⟨r, h1, RepF.toC H μ c r (h2 F)⟩
   | false =>
    simp only [hs] at h
    by_cases hk : k = k'
    ·subst hk
     simp only [decide_true] at h
     obtain ⟨r, h1, h2⟩ := QqU P w t h hn
     exact ⟨r, h1, RepF.toC H μ c r (h2 F)⟩
    ·simp [hk] at h
  | _ => simp [binC] at h
 | str a =>
  cases y with
  | str b =>
   rw [show u = _ from hx.1, show v = _ from hy.1, eqGuard_at_string]
   obtain ⟨r, h1, h2⟩ := QrB P w h hn
   refine ⟨r, ?_, RepF.toC H μ c r (h2 F)⟩
   rw [show (do pure (); binOp op t (.string a) (.string b) : Sem Value) = Op.stringOp op a b from by cases op <;> rfl]
   exact h1
  | _ => simp [binC] at h
 | bool a =>
  cases y with
  | bool b =>
   rw [show u = _ from hx, show v = _ from hy, eqGuard_at_bool]
   obtain ⟨r, h1, h2⟩ := QpD w (ht ⟨a, rfl⟩) h
   exact ⟨r, h1, RepF.toC H μ c r (h2 F)⟩
  | _ => simp [binC] at h
 | _ => simp [binC] at h
end Go.Am
end
