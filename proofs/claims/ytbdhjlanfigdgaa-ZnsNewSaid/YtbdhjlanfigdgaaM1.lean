import Derived.Test.YtbdhjlanfigdgaaA16
/- Zones and devices. -/
namespace Go.Am

structure Zone where
  state : Int
  durable : Int
  sectors : List ByteArray

instance : Inhabited Zone := ⟨⟨0, 0, []⟩⟩

structure Dev where
  size : Int
  maxOpen : Int
  maxActive : Int
  zones : List Zone

def strsC (l : List ByteArray) : C := .isl 1 l.length (fun i _ => .str (l.getD i ByteArray.empty)) false

def Zone.cell (z : Zone) : Nat → C
  | 0 => .int .i64 z.state
  | 1 => .int .i64 z.durable
  | _ => strsC z.sectors

def Zone.s (z : Zone) : S := .a [.int .i64 z.state, .int .i64 z.durable, strsC z.sectors]

def zoneAt (l : List Zone) : Nat → Nat → C := fun i j => (l.getD i default).cell j
def zonesC (l : List Zone) : C := .isl 3 l.length (zoneAt l) false

def Dev.s (d : Dev) : S := .a [.int .i64 d.size, .int .i64 d.maxOpen, .int .i64 d.maxActive, zonesC d.zones]

def isOpen (s : Int) : Bool := decide (s = 1 ∨ s = 2)
def isActive (s : Int) : Bool := decide (s = 1 ∨ s = 2 ∨ s = 3)
def cntOpen (l : List Zone) : Nat := (l.filter fun z => isOpen z.state).length
def cntActive (l : List Zone) : Nat := (l.filter fun z => isActive z.state).length

theorem getD_eq {α : Type} [Inhabited α] (l : List α) (i : Nat) (h : i < l.length) : l.getD i default = l[i] := by simp [List.getD, h]

theorem cntOpen_snoc (l : List Zone) (k : Nat) (h : k < l.length) : cntOpen (l.take (k + 1)) = cntOpen (l.take k) + if isOpen (l.getD k default).state then 1 else 0 := by
  rw [List.take_succ_eq_append_getElem h, getD_eq l k h]
  simp only [cntOpen, List.filter_append, List.length_append, List.filter_cons, List.filter_nil]
  split <;> rfl
theorem cntActive_snoc (l : List Zone) (k : Nat) (h : k < l.length) : cntActive (l.take (k + 1)) = cntActive (l.take k) + if isActive (l.getD k default).state then 1 else 0 := by
  rw [List.take_succ_eq_append_getElem h, getD_eq l k h]
  simp only [cntActive, List.filter_append, List.length_append, List.filter_cons, List.filter_nil]
  split <;> rfl
theorem cntOpen_le (l : List Zone) : cntOpen l ≤ l.length := List.length_filter_le _ _
theorem cntActive_le (l : List Zone) : cntActive l ≤ l.length := List.length_filter_le _ _

theorem wrap_id (x : Int) (h0 : -9223372036854775808 ≤ x) (h1 : x ≤ 9223372036854775807) : IntKind.i64.wrap x = x := by
  rw [IntKind.wrap_i64]; omega

end Go.Am
