/- Part of the proofs of laws of this seat: contracts and plain lemmas; no condition is added to a statement. -/
import Derived.Test.YtmpoogflpmaijaaGreatAmC
import Derived.Test.YtmpoogflpmaijaaGreatAmE
set_option linter.unusedSimpArgs false
set_option linter.unusedVariables false
section
/- Zones and devices. -/
namespace Go.Am

structure Zone where
  state : Int
  durable : Int
  sectors : List ByteArray
  deriving DecidableEq

instance : Inhabited Zone := ⟨⟨0, 0, []⟩⟩

structure Dev where
  size : Int
  maxOpen : Int
  maxActive : Int
  zones : List Zone
  deriving DecidableEq

def strsC (l : List ByteArray) : C := .isl 1 l.length (fun i _ => .str (l.getD i ByteArray.empty)) false

def Zone.cell (z : Zone) : Nat → C
  | 0 => .int .i64 z.state
  | 1 => .int .i64 z.durable
  | _ => strsC z.sectors

def Zone.s (z : Zone) : S := .a [.int .i64 z.state, .int .i64 z.durable, strsC z.sectors]

def zoneAt (l : List Zone) : Nat → Nat → C := fun i j => (l.getD i default).cell j
def zonesC (l : List Zone) : C := .isl 3 l.length (zoneAt l) false

def Dev.s (d : Dev) : S := .a [.int .i64 d.size, .int .i64 d.maxOpen, .int .i64 d.maxActive, zonesC d.zones]

def isOpen (s : Int) : Bool := decide (s = 1 ∨ s = 2)
def isActive (s : Int) : Bool := decide (s = 1 ∨ s = 2 ∨ s = 3)
def cntOpen (l : List Zone) : Nat := (l.filter fun z => isOpen z.state).length
def cntActive (l : List Zone) : Nat := (l.filter fun z => isActive z.state).length

theorem getD_eq {α : Type} [Inhabited α] (l : List α) (i : Nat) (h : i < l.length) : l.getD i default = l[i] := by simp [List.getD, h]

theorem cntOpen_snoc (l : List Zone) (k : Nat) (h : k < l.length) : cntOpen (l.take (k + 1)) = cntOpen (l.take k) + if isOpen (l.getD k default).state then 1 else 0 := by
  rw [List.take_succ_eq_append_getElem h, getD_eq l k h]
  simp only [cntOpen, List.filter_append, List.length_append, List.filter_cons, List.filter_nil]
  split <;> rfl
theorem cntActive_snoc (l : List Zone) (k : Nat) (h : k < l.length) : cntActive (l.take (k + 1)) = cntActive (l.take k) + if isActive (l.getD k default).state then 1 else 0 := by
  rw [List.take_succ_eq_append_getElem h, getD_eq l k h]
  simp only [cntActive, List.filter_append, List.length_append, List.filter_cons, List.filter_nil]
  split <;> rfl
theorem cntOpen_le (l : List Zone) : cntOpen l ≤ l.length := List.length_filter_le _ _
theorem cntActive_le (l : List Zone) : cntActive l ≤ l.length := List.length_filter_le _ _

theorem wrap_id (x : Int) (h0 : -9223372036854775808 ≤ x) (h1 : x ≤ 9223372036854775807) : IntKind.i64.wrap x = x := by
  rw [IntKind.wrap_i64]; omega

end Go.Am
end

section
/- Dice, and the values of blocks. -/
namespace Go.Am
def modI (x n : Int) : Int := if n < 1 then 0 else (IntKind.i64.wrap (x.tmod n + n)).tmod n
theorem modI_range {x n : Int} (h : 1 ≤ n) (h' : n ≤ 4611686018427387904) : 0 ≤ modI x n ∧ modI x n < n := by
  unfold modI
  rw [if_neg (by omega)]
  have h1 := Int.tmod_lt_of_pos x (by omega : 0 < n)
  have h2 : -n < x.tmod n := by
    have := Int.neg_tmod x n
    have := Int.tmod_lt_of_pos (-x) (by omega : 0 < n)
    omega
  rw [wrap_id _ (by omega) (by omega)]
  exact ⟨Int.tmod_nonneg _ (by omega), Int.tmod_lt_of_pos _ (by omega)⟩
theorem modI_zero {x n : Int} (h : n < 1) : modI x n = 0 := if_pos h

/-- Dice: the numbers, and how many were given out. -/
structure DiceM where
  l : List Int
  at_ : Nat
def DiceM.rest (d : DiceM) : Int := (d.l.length : Int) - d.at_
def DiceM.next (d : DiceM) (n : Int) : Int := if d.l.length ≤ d.at_ then 0 else modI (d.l.getD d.at_ 0) n
def DiceM.step (d : DiceM) : DiceM := if d.l.length ≤ d.at_ then d else ⟨d.l, d.at_ + 1⟩
def DiceM.cells (d : DiceM) : List C := [intsC d.l, .int .i64 d.at_]
structure DiceM.ok (d : DiceM) : Prop where
  le : d.at_ ≤ d.l.length
  len : d.l.length ≤ 10000000
theorem DiceM.ok.step {d : DiceM} (h : d.ok) : d.step.ok := by
  unfold DiceM.step
  split
  · exact h
  · exact ⟨by dsimp only; omega, h.len⟩
theorem DiceM.next_range (d : DiceM) {n : Int} (h : 1 ≤ n) (h' : n ≤ 4611686018427387904) : 0 ≤ d.next n ∧ d.next n < n := by
  unfold DiceM.next
  split
  · omega
  · exact modI_range h h'
theorem updG_one (g : Nat → Nat → C) (k j0 : Nat) (x : C) (i j : Nat) : updG g k j0 [x] i j = if i = k ∧ j = j0 then x else g i j := by
  simp only [updG, List.length_cons, List.length_nil]
  by_cases h : i = k ∧ j = j0
  · obtain ⟨rfl, rfl⟩ := h
    rw [if_pos (by omega), if_pos ⟨rfl, rfl⟩]
    simp [lget, getL]
  · rw [if_neg (by omega), if_neg h]
theorem bytesOf_size (n : Nat) (g : Nat → Nat → C) : (bytesOf n g).size = n := by simp [bytesOf, ByteArray.size]
def valueW (n : Int) (i : Nat) : Int := IntKind.u8.wrap (modI (IntKind.i64.wrap (n + IntKind.i64.wrap (i * n))) 251)
def valueB (n : Int) (i : Nat) : Int := if i = 0 then IntKind.u8.wrap (IntKind.i64.wrap (1 + modI n 255)) else valueW n i
def genG (f : Nat → Int) : Nat → Nat → C := fun i _ => .int .u8 (f i)
theorem genG_set {f : Nat → Int} {k : Nat} {v : Int} (i j : Nat) (hj : j < 1) : updG (genG f) k 0 [.int .u8 v] i j = genG (fun i => if i = k then v else f i) i j := by
  have : j = 0 := by omega
  subst this
  rw [updG_one]
  simp only [genG]
  split <;> rename_i h
  · rw [if_pos h.1]
  · rw [if_neg (fun e => h (by simp [e]))]
def valueS (n : Int) : ByteArray := bytesOf 16 (genG (valueB n))
theorem valueS_size (n : Int) : (valueS n).size = 16 := bytesOf_size _ _
end Go.Am
end
