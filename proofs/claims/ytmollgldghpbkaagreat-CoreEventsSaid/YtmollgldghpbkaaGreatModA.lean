/- Part of the proofs of laws of this seat: contracts and plain lemmas; no condition is added to a statement. -/
import Derived.Test.YtmollgldghpbkaaGreatAmC
import Derived.Test.YtmollgldghpbkaaGreatAmD
import Derived.Laws.Bits64
import Derived.Test.YtmollgldghpbkaaGreatAmE
set_option linter.unusedSimpArgs false
set_option linter.unusedVariables false
section
namespace Go.Am
structure Zone where
  state : Int
  durable : Int
  sectors : List ByteArray
  deriving DecidableEq
instance : Inhabited Zone := ⟨⟨0, 0, []⟩⟩
structure Dev where
  size : Int
  maxOpen : Int
  maxActive : Int
  zones : List Zone
  deriving DecidableEq
def strsC (l : List ByteArray) : C := .isl 1 l.length (fun i _ => .str (l.getD i ByteArray.empty)) false
def Zone.cell (z : Zone) : Nat → C
  | 0 => .int .i64 z.state
  | 1 => .int .i64 z.durable
  | _ => strsC z.sectors
def Zone.s (z : Zone) : S := .a [.int .i64 z.state, .int .i64 z.durable, strsC z.sectors]
def zoneAt (l : List Zone) : Nat → Nat → C := fun i j => (l.getD i default).cell j
def zonesC (l : List Zone) : C := .isl 3 l.length (zoneAt l) false
def Dev.s (d : Dev) : S := .a [.int .i64 d.size, .int .i64 d.maxOpen, .int .i64 d.maxActive, zonesC d.zones]
def isOpen (s : Int) : Bool := decide (s = 1 ∨ s = 2)
def isActive (s : Int) : Bool := decide (s = 1 ∨ s = 2 ∨ s = 3)
def cntOpen (l : List Zone) : Nat := (l.filter fun z => isOpen z.state).length
def cntActive (l : List Zone) : Nat := (l.filter fun z => isActive z.state).length
theorem getD_eq {α : Type} [Inhabited α] (l : List α) (i : Nat) (h : i < l.length) : l.getD i default = l[i] := by simp [List.getD, h]
theorem cntOpen_snoc (l : List Zone) (k : Nat) (h : k < l.length) : cntOpen (l.take (k + 1)) = cntOpen (l.take k) + if isOpen (l.getD k default).state then 1 else 0 := by
  rw [List.take_succ_eq_append_getElem h, getD_eq l k h]
  simp only [cntOpen, List.filter_append, List.length_append, List.filter_cons, List.filter_nil]
  split <;> rfl
theorem cntActive_snoc (l : List Zone) (k : Nat) (h : k < l.length) : cntActive (l.take (k + 1)) = cntActive (l.take k) + if isActive (l.getD k default).state then 1 else 0 := by
  rw [List.take_succ_eq_append_getElem h, getD_eq l k h]
  simp only [cntActive, List.filter_append, List.length_append, List.filter_cons, List.filter_nil]
  split <;> rfl
theorem cntOpen_le (l : List Zone) : cntOpen l ≤ l.length := List.length_filter_le _ _
theorem cntActive_le (l : List Zone) : cntActive l ≤ l.length := List.length_filter_le _ _
theorem wrap_id (x : Int) (h0 : -9223372036854775808 ≤ x) (h1 : x ≤ 9223372036854775807) : IntKind.i64.wrap x = x := by
  rw [IntKind.wrap_i64]; omega
end Go.Am
end

section
namespace Go.Am
def secsOk (l : List ByteArray) : Bool := l.all fun s => decide (s.size = 40)
def right (z : Zone) (size : Int) : Bool :=
  decide (0 ≤ z.state ∧ z.state ≤ 5 ∧ (z.sectors.length : Int) ≤ size ∧ 0 ≤ z.durable ∧ z.durable ≤ z.sectors.length ∧ (z.state = 0 ∨ z.state = 5 → z.sectors.length = 0) ∧ (z.state = 4 → z.durable = z.sectors.length) ∧
    (z.state ≠ 0 → z.state ≠ 4 → z.state ≠ 5 → (z.sectors.length : Int) < size)) && secsOk z.sectors
def confOk (d : Dev) : Bool :=
  decide (1 ≤ d.zones.length ∧ d.zones.length ≤ 32 ∧ 3 ≤ d.size ∧ d.size ≤ 64 ∧ 1 ≤ d.maxOpen ∧ d.maxOpen ≤ d.maxActive ∧ d.maxActive ≤ d.zones.length)
def check (d : Dev) : Int :=
  if confOk d then
    if d.zones.all (fun z => right z d.size) then
      if decide ((cntOpen d.zones : Int) ≤ d.maxOpen ∧ (cntActive d.zones : Int) ≤ d.maxActive) then 0 else 6
    else 6
  else 11
end Go.Am
namespace Go.Am
theorem secsOk_snoc (l : List ByteArray) (k : Nat) (h : k < l.length) : secsOk (l.take (k + 1)) = (secsOk (l.take k) && decide ((l.getD k ByteArray.empty).size = 40)) := by
  rw [List.take_succ_eq_append_getElem h]
  simp only [secsOk, List.all_append]
  simp [h]
theorem secsOk_get (l : List ByteArray) (k : Nat) (h : k < l.length) (hb : (l.getD k ByteArray.empty).size ≠ 40) : secsOk l = false := by
  rw [secsOk, List.all_eq_false]
  refine ⟨l[k], List.getElem_mem h, ?_⟩
  simpa [h] using hb
end Go.Am
namespace Go.Am
theorem all_snoc {α : Type} [Inhabited α] (l : List α) (p : α → Bool) (k : Nat) (h : k < l.length) : (l.take (k + 1)).all p = ((l.take k).all p && p (l.getD k default)) := by
  rw [List.take_succ_eq_append_getElem h, getD_eq l k h]
  simp only [List.all_append, List.all_cons, List.all_nil, Bool.and_true]
theorem all_get_false {α : Type} [Inhabited α] (l : List α) (p : α → Bool) (k : Nat) (h : k < l.length) (hb : p (l.getD k default) = false) : l.all p = false := by
  rw [getD_eq l k h] at hb
  rw [List.all_eq_false]
  exact ⟨l[k], List.getElem_mem h, by simp [hb]⟩
end Go.Am
namespace Go.Am
def sameZone (a b : Zone) : Bool := decide (a.state = b.state ∧ a.durable = b.durable ∧ a.sectors.length = b.sectors.length) && decide (a.sectors = b.sectors)
end Go.Am
namespace Go.Am
def allSame : List Zone → List Zone → Bool
  | [], [] => true
  | a :: r, b :: r' => sameZone a b && allSame r r'
  | _, _ => false
theorem allSame_snoc : ∀ (a b : List Zone) (k : Nat), k < a.length → k < b.length → allSame (a.take (k + 1)) (b.take (k + 1)) = (allSame (a.take k) (b.take k) && sameZone (a.getD k default) (b.getD k default))
  | x :: r, y :: r', 0, _, _ => by simp [allSame]
  | x :: r, y :: r', k + 1, h1, h2 => by
    have := allSame_snoc r r' k (by simpa using h1) (by simpa using h2)
    simp only [List.take_succ_cons, allSame, List.getD_cons_succ, this, Bool.and_assoc]
  | [], _, _, h, _ => by simp at h
  | _ :: _, [], _, _, h => by simp at h
theorem allSame_false : ∀ (a b : List Zone) (k : Nat), k < a.length → k < b.length → sameZone (a.getD k default) (b.getD k default) = false → allSame a b = false
  | x :: r, y :: r', 0, _, _, h => by simp at h; simp [allSame, h]
  | x :: r, y :: r', k + 1, h1, h2, h => by
    have := allSame_false r r' k (by simpa using h1) (by simpa using h2) (by simpa using h)
    simp [allSame, this]
  | [], _, _, h, _, _ => by simp at h
  | _ :: _, [], _, _, h, _ => by simp at h
def same (a b : Dev) : Bool := decide (a.size = b.size ∧ a.maxOpen = b.maxOpen ∧ a.maxActive = b.maxActive ∧ a.zones.length = b.zones.length) && allSame a.zones b.zones
def zone0 : Zone := ⟨0, 0, []⟩
def dev0 : Dev := ⟨0, 0, 0, []⟩
def newX (zones size op act : Int) : Dev := ⟨size, op, act, List.replicate zones.toNat zone0⟩
def newE (zones size op act : Int) : Int := if decide (1 ≤ zones ∧ zones ≤ 32) then check (newX zones size op act) else 11
def newD (zones size op act : Int) : Dev := if newE zones size op act = 0 then newX zones size op act else dev0
def Dev.cells (d : Dev) : List C := [.int .i64 d.size, .int .i64 d.maxOpen, .int .i64 d.maxActive, zonesC d.zones]
end Go.Am
namespace Go.Am
theorem zone0_cells (z : List C) (hz : z = [.int .i64 0, .int .i64 0, .nils]) (n i j : Nat) (hi : i < n) (hj : j < 3) : leF (zeroG z i j) (zoneAt (List.replicate n zone0) i j) := by
  subst hz
  have : (List.replicate n zone0).getD i default = zone0 := by simp [List.getD, hi]
  simp only [zoneAt, this]
  match j, hj with
  | 0, _ => exact leF.refl
  | 1, _ => exact leF.refl
  | 2, _ => exact leF.nil rfl
theorem zone0_imm (z : List C) (hz : z = [.int .i64 0, .int .i64 0, .nils]) (n i : Nat) (hi : i < n) (j : Nat) (hj : j < 3) : (zeroG z i j).imm = true := by
  subst hz
  match j, hj with
  | 0, _ => rfl
  | 1, _ => rfl
  | 2, _ => rfl
end Go.Am
namespace Go.Am
def strsT (l : List ByteArray) : C := .isl 1 l.length (fun i _ => .str (l.getD i ByteArray.empty)) true
def Zone.cellT (z : Zone) : Nat → C
  | 0 => .int .i64 z.state
  | 1 => .int .i64 z.durable
  | _ => strsT z.sectors
def zoneAtT (l : List Zone) : Nat → Nat → C := fun i j => (l.getD i default).cellT j
def zoneAtK (l : List Zone) (k : Nat) : Nat → Nat → C := fun i j => if i < k then (l.getD i default).cellT j else (l.getD i default).cell j
end Go.Am
namespace Go.Am
structure Dev.small (d : Dev) : Prop where
  z : d.zones.length ≤ 10000000
  s : ∀ i, (d.zones.getD i default).sectors.length ≤ 10000000
end Go.Am
namespace Go.Am
theorem cell_imm (z : Zone) (j : Nat) : (z.cell j).imm = true := by
  match j with
  | 0 => rfl
  | 1 => rfl
  | _ + 2 => rfl
theorem cellT_imm (z : Zone) (j : Nat) : (z.cellT j).imm = true := by
  match j with
  | 0 => rfl
  | 1 => rfl
  | _ + 2 => rfl
theorem zoneAt_imm (l : List Zone) (i j : Nat) : (zoneAt l i j).imm = true := cell_imm _ _
theorem zoneAtT_imm (l : List Zone) (i j : Nat) : (zoneAtT l i j).imm = true := cellT_imm _ _
theorem wkC.of_eq {ρ : Nat → Nat} {n : Nat} {c c' : C} (hc : c'.imm = true) (h : c = c') : wkC ρ n c c' := by subst h; exact wkC.imm hc
end Go.Am
namespace Go.Am
theorem updG_one (g : Nat → Nat → C) (k j0 : Nat) (x : C) (i j : Nat) : updG g k j0 [x] i j = if i = k ∧ j = j0 then x else g i j := by
  simp only [updG, List.length_cons, List.length_nil]
  by_cases h : i = k ∧ j = j0
  · obtain ⟨rfl, rfl⟩ := h
    rw [if_pos (by omega), if_pos ⟨rfl, rfl⟩]
    simp [lget, getL]
  · rw [if_neg (by omega), if_neg h]
end Go.Am
namespace Go.Am
theorem right_len {z : Zone} {size : Int} (h : right z size = true) : (z.sectors.length : Int) ≤ size := by
  simp only [right, Bool.and_eq_true, decide_eq_true_eq] at h
  exact h.1.2.2.1
structure Dev.ok (d : Dev) : Prop where
  conf : confOk d = true
  zones : ∀ z ∈ d.zones, right z d.size = true
  op : (cntOpen d.zones : Int) ≤ d.maxOpen
  act : (cntActive d.zones : Int) ≤ d.maxActive
theorem check_ok {d : Dev} : check d = 0 ↔ d.ok := by
  unfold check
  constructor
  · intro h
    split at h
    · rename_i h1
      split at h
      · rename_i h2
        split at h
        · rename_i h3
          simp only [decide_eq_true_eq] at h3
          exact ⟨h1, List.all_eq_true.1 h2, h3.1, h3.2⟩
        · cases h
      · cases h
    · cases h
  · intro h
    rw [if_pos h.conf, if_pos (List.all_eq_true.2 h.zones), if_pos (decide_eq_true ⟨h.op, h.act⟩)]
theorem Dev.ok.small {d : Dev} (h : d.ok) : d.small := by
  have hc := h.conf
  simp only [confOk, decide_eq_true_eq] at hc
  refine ⟨by omega, fun i => ?_⟩
  by_cases hi : i < d.zones.length
  · have hm : d.zones.getD i default ∈ d.zones := by
      rw [getD_eq _ _ hi]; exact List.getElem_mem hi
    have := right_len (h.zones _ hm)
    omega
  · have : d.zones.getD i default = default := by simp [List.getD, Nat.le_of_not_lt hi]
    rw [this]
    exact Nat.zero_le _
def beginE (d : Dev) (zone : Int) : Int :=
  if check d = 0 then if decide (0 ≤ zone ∧ zone < d.zones.length) then if (d.zones.getD zone.toNat default).state = 5 then 6 else 0 else 5 else check d
def Dev.own (d : Dev) (id : Nat) : List C := [.int .i64 d.size, .int .i64 d.maxOpen, .int .i64 d.maxActive, .sl id 3 d.zones.length d.zones.length true]
def beginQ (d : Dev) (zone : Int) (s : S) (H : List O) : Prop :=
  if beginE d zone = 0 then s = .t [.inr (d.own 0), .inl (.int .i64 0)] ∧ H = [.arr 117 3 d.zones.length (zoneAtT d.zones)]
  else s = .t [.inr d.cells, .inl (.int .i64 (beginE d zone))] ∧ H = []
end Go.Am
namespace Go.Am
def shutZ (z : Zone) : Zone := { z with state := if z.sectors.length = 0 then 0 else 3 }
def shutAt (l : List Zone) (i : Nat) : List Zone := l.set i (shutZ (l.getD i default))
end Go.Am
namespace Go.Am
def firstOpen : List Zone → Nat
  | [] => 0
  | z :: r => if z.state = 1 then 0 else firstOpen r + 1
def roomX (d : Dev) (zone : Nat) : Int × List Zone :=
  let l := if d.maxOpen ≤ cntOpen d.zones then (if firstOpen d.zones < d.zones.length then some (shutAt d.zones (firstOpen d.zones)) else none) else some d.zones
  match l with
  | none => (8, d.zones)
  | some l => if (l.getD zone default).state ≠ 3 ∧ d.maxActive ≤ cntActive l then (9, l) else (0, l)
end Go.Am
namespace Go.Am
theorem cellT_le (z : Zone) (j : Nat) : leF (z.cellT j) (z.cell j) := by
  match j with
  | 0 => exact leF.refl
  | 1 => exact leF.refl
  | _ + 2 => exact leF.flag
theorem zoneAtT_le (l : List Zone) (i j : Nat) : leF (zoneAtT l i j) (zoneAt l i j) := cellT_le _ _
end Go.Am
namespace Go.Am
theorem firstOpen_spec : ∀ (l : List Zone) (k : Nat), k < l.length → (∀ i, i < k → (l.getD i default).state ≠ 1) → (l.getD k default).state = 1 → firstOpen l = k
  | [], k, h, _, _ => by simp at h
  | z :: r, 0, _, _, h => by simp at h; simp [firstOpen, h]
  | z :: r, k + 1, h, hn, hk => by
    have h0 := hn 0 (by omega)
    simp at h0
    have := firstOpen_spec r k (by simpa using h) (fun i hi => by simpa using hn (i + 1) (by omega)) (by simpa using hk)
    simp [firstOpen, h0, this]
theorem firstOpen_none : ∀ (l : List Zone), (∀ i, i < l.length → (l.getD i default).state ≠ 1) → firstOpen l = l.length
  | [], _ => rfl
  | z :: r, hn => by
    have h0 := hn 0 (by simp)
    simp at h0
    have := firstOpen_none r (fun i hi => by simpa using hn (i + 1) (by simpa using hi))
    simp [firstOpen, h0, this]
end Go.Am
namespace Go.Am
def Dev.out (d : Dev) (e : Int) : S := .t [.inr d.cells, .inl (.int .i64 e)]
theorem RM.devG {H : List O} {d : Dev} {l : List Zone} {e n : Nat} {g : Nat → Nat → C} {x : Bool} {er er' : Int} (id : Nat) (hid : getL H id = some (.arr e 3 n g)) (him : ∀ i, i < n → ∀ j, j < 3 → (g i j).imm = true)
    (hn : n = l.length) (hg : ∀ i, i < n → ∀ j, j < 3 → leF (g i j) (zoneAt l i j)) (he : er = er') :
    RM 0 (.t [.inr [.int .i64 d.size, .int .i64 d.maxOpen, .int .i64 d.maxActive, .sl id 3 n n x], .inl (.int .i64 er)]) H (Dev.out { d with zones := l } er') [] := by
  subst he
  exact RM.fz id hid (Nat.zero_le _) him (RM.wk 0 rfl (by cases (fzH id n g H) <;> trivial) (wkS.t ⟨⟨wkC.imm rfl, wkC.imm rfl, wkC.imm rfl, wkC.fz rfl hn hg (fun e => by cases e), trivial⟩, wkC.imm rfl, trivial⟩) (Nat.zero_le _))
theorem RM.dev {H : List O} {d : Dev} {l : List Zone} {e n : Nat} {x : Bool} {er er' : Int} (id : Nat) (hid : getL H id = some (.arr e 3 n (zoneAtT l))) (hn : n = l.length) (he : er = er') :
    RM 0 (.t [.inr [.int .i64 d.size, .int .i64 d.maxOpen, .int .i64 d.maxActive, .sl id 3 n n x], .inl (.int .i64 er)]) H (Dev.out { d with zones := l } er') [] :=
  RM.devG id hid (fun i _ j _ => zoneAtT_imm _ _ _) hn (fun i _ j _ => zoneAtT_le _ _ _) he
theorem plugK_nil {σ : Nat → Nat} {Hc : List O} : ∀ (H : List O) (k : Nat), plugK σ [] Hc k H = H
  | [], _ => rfl
  | o :: r, k => by simp only [plugK, idx, plugK_nil r (k + 1)]
def resetD (d : Dev) (zone : Int) : Dev := if beginE d zone = 0 then { d with zones := d.zones.set zone.toNat zone0 } else d
def readE (d : Dev) (zone off : Int) : Int := if beginE d zone = 0 then if decide (0 ≤ off ∧ off < (d.zones.getD zone.toNat default).sectors.length) then 0 else 10 else beginE d zone
def readS (d : Dev) (zone off : Int) : ByteArray := if readE d zone off = 0 then (d.zones.getD zone.toNat default).sectors.getD off.toNat ByteArray.empty else ByteArray.empty
end Go.Am
namespace Go.Am
def finishZ (z : Zone) : Zone := if z.state = 4 then z else { z with state := 4, durable := z.sectors.length }
def finishD (d : Dev) (zone : Int) : Dev := if beginE d zone = 0 then { d with zones := d.zones.set zone.toNat (finishZ (d.zones.getD zone.toNat default)) } else d
def openE (d : Dev) (zone : Int) : Int :=
  if beginE d zone = 0 then if (d.zones.getD zone.toNat default).state = 4 then 7 else if isOpen (d.zones.getD zone.toNat default).state then 0 else (roomX d zone.toNat).1 else beginE d zone
def openL (d : Dev) (zone : Nat) : List Zone := if isOpen (d.zones.getD zone default).state then d.zones else (roomX d zone).2
def openD (d : Dev) (zone : Int) : Dev := if openE d zone = 0 then { d with zones := (openL d zone.toNat).set zone.toNat { (openL d zone.toNat).getD zone.toNat default with state := 2 } } else d
def closeE (d : Dev) (zone : Int) : Int := if beginE d zone = 0 then if isActive (d.zones.getD zone.toNat default).state then 0 else 6 else beginE d zone
def closeD (d : Dev) (zone : Int) : Dev := if closeE d zone = 0 then if isOpen (d.zones.getD zone.toNat default).state then { d with zones := shutAt d.zones zone.toNat } else d else d
end Go.Am
namespace Go.Am
def appendE (d : Dev) (zone : Int) (s : ByteArray) : Int :=
  if check d = 0 then if decide (0 ≤ zone ∧ zone < d.zones.length) then if s.size = 40 then
    if (d.zones.getD zone.toNat default).state = 5 then 6 else if (d.zones.getD zone.toNat default).state = 4 then 7 else if isOpen (d.zones.getD zone.toNat default).state then 0 else (roomX d zone.toNat).1
  else 2 else 5 else check d
def grow (z : Zone) (size : Int) (s : ByteArray) : Zone :=
  if (z.sectors.length : Int) + 1 = size then ⟨4, size, z.sectors ++ [s]⟩ else ⟨if isOpen z.state then z.state else 1, z.durable, z.sectors ++ [s]⟩
def appendD (d : Dev) (zone : Int) (s : ByteArray) : Dev :=
  if appendE d zone s = 0 then { d with zones := (openL d zone.toNat).set zone.toNat (grow ((openL d zone.toNat).getD zone.toNat default) d.size s) } else d
def appendI (d : Dev) (zone : Int) (s : ByteArray) : Int := if appendE d zone s = 0 then (d.zones.getD zone.toNat default).sectors.length else 0
def Dev.out3 (d : Dev) (i e : Int) : S := .t [.inr d.cells, .inl (.int .i64 i), .inl (.int .i64 e)]
end Go.Am
namespace Go.Am
end Go.Am
namespace Go.Am
end Go.Am
namespace Go.Am
end Go.Am
namespace Go.Am
def putB (n : Int) (i : Nat) : Int := IntKind.u8.wrap (n.fdiv (2 ^ (min (IntKind.u64.wrap (IntKind.i64.wrap (8 * (i : Int)))).toNat IntKind.i64.bits)))
def putS (n : Int) (size : Nat) : ByteArray := bytesOf size fun i _ => .int .u8 (putB n i)
end Go.Am
namespace Go.Am
def putG (n : Int) (k : Nat) : Nat → Nat → C := fun i _ => if i < k then .int .u8 (putB n i) else .int .u8 0
end Go.Am
namespace Go.Am
theorem bytesOf_size (n : Nat) (g : Nat → Nat → C) : (bytesOf n g).size = n := by simp [bytesOf, ByteArray.size]
end Go.Am
namespace Go.Am
def xorU (x y : Int) : Int := IntKind.u32.wrap (BitVec.ofInt IntKind.u32.bits x ^^^ BitVec.ofInt IntKind.u32.bits y).toNat
def andU (x y : Int) : Int := IntKind.u32.wrap (BitVec.ofInt IntKind.u32.bits x &&& BitVec.ofInt IntKind.u32.bits y).toNat
def notU (x : Int) : Int := xorU 4294967295 x
def halfU (x : Int) : Int := x.fdiv (2 ^ min (1 : Int).toNat IntKind.u32.bits)
def crcBit (x : Int) : Int := if andU x 1 = 1 then xorU (halfU x) 3988292384 else halfU x
def iterI (f : Int → Int) : Nat → Int → Int
  | 0, x => x
  | n + 1, x => f (iterI f n x)
end Go.Am
namespace Go.Am
def byteAt (b : ByteArray) (k : Nat) : Int := IntKind.u32.wrap ((b.data.toList.getD k 0).toNat : Int)
def crcTo (sum : Int) (b : ByteArray) : Nat → Int
  | 0 => notU sum
  | k + 1 => iterI crcBit 8 (xorU (crcTo sum b k) (byteAt b k))
def addU (sum : Int) (b : ByteArray) : Int := notU (crcTo sum b b.size)
end Go.Am
namespace Go.Am
def padS (b : ByteArray) : ByteArray := if b.size < 20 then b ++ bytesOf (20 - b.size) (fun _ _ => .int .u8 0) else b
end Go.Am
namespace Go.Am
structure Rec where
  kind : Int
  block : Int
  version : Int
  move : Int
  payload : ByteArray
  deriving DecidableEq
def Rec.s (r : Rec) : S := .a [.int .i64 r.kind, .int .i64 r.block, .int .i64 r.version, .int .i64 r.move, .str r.payload]
def checkR (r : Rec) : Int :=
  if decide (1 ≤ r.kind ∧ r.kind ≤ 6) then
    if decide (0 ≤ r.block ∧ r.block ≤ 4294967295 ∧ 0 ≤ r.version ∧ r.version ≤ 1099511627776 ∧ 0 ≤ r.move ∧ r.move ≤ 255) then
      if decide (r.payload.size ≤ 20 ∧ (r.kind = 1 → r.payload.size = 16) ∧ (r.kind = 2 → r.payload.size = 0)) then 0 else 2
    else 1
  else 3
def bodyR (r : Rec) : ByteArray :=
  ⟨#[90, 65]⟩ ++ putS r.kind 1 ++ putS r.payload.size 1 ++ putS r.block 4 ++ putS r.version 6 ++ putS r.move 1 ++ ⟨#[0]⟩ ++ padS r.payload
def encR (r : Rec) : ByteArray := if checkR r = 0 then bodyR r ++ putS (IntKind.i64.wrap (addU 0 (bodyR r))) 4 else ByteArray.empty
end Go.Am
namespace Go.Am
end Go.Am
namespace Go.Am
end Go.Am
namespace Go.Am
def roomD (d : Dev) (zone : Nat) : Dev := if (roomX d zone).1 = 0 then { d with zones := (roomX d zone).2 } else d
theorem firstOpen_state : ∀ (l : List Zone), firstOpen l < l.length → (l.getD (firstOpen l) default).state = 1
  | [], h => by simp at h
  | z :: r, h => by
    simp only [firstOpen] at h ⊢
    by_cases c : z.state = 1
    · rw [if_pos c]; simpa using c
    · rw [if_neg c] at h ⊢
      have := firstOpen_state r (by simpa using h)
      simpa using this
end Go.Am
namespace Go.Am
end Go.Am
end

section
namespace Go.Am
def modI (x n : Int) : Int := if n < 1 then 0 else (IntKind.i64.wrap (x.tmod n + n)).tmod n
theorem modI_range {x n : Int} (h : 1 ≤ n) (h' : n ≤ 4611686018427387904) : 0 ≤ modI x n ∧ modI x n < n := by
  unfold modI
  rw [if_neg (by omega)]
  have h1 := Int.tmod_lt_of_pos x (by omega : 0 < n)
  have h2 : -n < x.tmod n := by
    have := Int.neg_tmod x n
    have := Int.tmod_lt_of_pos (-x) (by omega : 0 < n)
    omega
  rw [wrap_id _ (by omega) (by omega)]
  exact ⟨Int.tmod_nonneg _ (by omega), Int.tmod_lt_of_pos _ (by omega)⟩
theorem modI_zero {x n : Int} (h : n < 1) : modI x n = 0 := if_pos h
structure DiceM where
  l : List Int
  at_ : Nat
def DiceM.rest (d : DiceM) : Int := (d.l.length : Int) - d.at_
def DiceM.next (d : DiceM) (n : Int) : Int := if d.l.length ≤ d.at_ then 0 else modI (d.l.getD d.at_ 0) n
def DiceM.step (d : DiceM) : DiceM := if d.l.length ≤ d.at_ then d else ⟨d.l, d.at_ + 1⟩
def DiceM.cells (d : DiceM) : List C := [intsC d.l, .int .i64 d.at_]
structure DiceM.ok (d : DiceM) : Prop where
  le : d.at_ ≤ d.l.length
  len : d.l.length ≤ 10000000
theorem DiceM.ok.step {d : DiceM} (h : d.ok) : d.step.ok := by
  unfold DiceM.step
  split
  · exact h
  · exact ⟨by dsimp only; omega, h.len⟩
theorem DiceM.next_range (d : DiceM) {n : Int} (h : 1 ≤ n) (h' : n ≤ 4611686018427387904) : 0 ≤ d.next n ∧ d.next n < n := by
  unfold DiceM.next
  split
  · omega
  · exact modI_range h h'
end Go.Am
namespace Go.Am
def volI (z : Zone) : Int := if z.durable < z.sectors.length then (z.sectors.length : Int) - max z.durable 0 else 0
def volL (l : List Zone) : List Int := l.map volI
@[simp] theorem volL_len (l : List Zone) : (volL l).length = l.length := by simp [volL]
end Go.Am
namespace Go.Am
def tabL {α : Type} (f : Nat → α) (n : Nat) : List α := (List.range n).map f
section
variable {α : Type} {f : Nat → α}
@[simp] theorem tabL_len (n : Nat) : (tabL f n).length = n := by simp [tabL]
@[simp] theorem tabL_zero : tabL f 0 = [] := rfl
end
def syncZ (z : Zone) : Zone := { z with durable := z.sectors.length }
def keptN (z : Zone) (k : Int) : Int := z.durable + min (max k 0) (z.sectors.length - z.durable)
def crashZ (z : Zone) (k : Int) : Zone :=
  ⟨if z.state = 5 ∨ z.state = 4 then z.state else if keptN z k = 0 then 0 else 3, keptN z k, z.sectors.take (keptN z k).toNat⟩
def syncD (d : Dev) : Dev := if check d = 0 then { d with zones := d.zones.map syncZ } else dev0
def crashD (d : Dev) (keep : List Int) : Dev := if check d = 0 then { d with zones := tabL (fun i => crashZ (d.zones.getD i default) (keep.getD i 0)) d.zones.length } else dev0
theorem map_tabL {α β : Type} [Inhabited α] (f : α → β) (l : List α) : l.map f = tabL (fun i => f (l.getD i default)) l.length := by
  apply List.ext_getElem
  · simp
  · intro i h1 h2
    simp [tabL, List.getD, (by simpa using h1 : i < l.length)]
end Go.Am
namespace Go.Am
def updI (f : Nat → Zone → Zone) (l : List Zone) (k : Nat) : List Zone := tabL (fun i => if i < k then f i (l.getD i default) else l.getD i default) l.length
def updL (f : Zone → Zone) (l : List Zone) (k : Nat) : List Zone := updI (fun _ => f) l k
variable {f : Nat → Zone → Zone} {l : List Zone}
@[simp] theorem updI_len (k : Nat) : (updI f l k).length = l.length := by simp [updI]
@[simp] theorem updL_len {f : Zone → Zone} (k : Nat) : (updL f l k).length = l.length := by simp [updL]
theorem tabL_id : tabL (fun i => l.getD i default) l.length = l := by
  rw [← map_tabL (fun z => z) l]; simp
theorem tabL_congr {α : Type} {f g : Nat → α} {n : Nat} (h : ∀ i, i < n → f i = g i) : tabL f n = tabL g n := by
  unfold tabL
  exact List.map_congr_left fun i hi => h i (by simpa using hi)
@[simp] theorem updI_zero : updI f l 0 = l := by
  conv => rhs; rw [← tabL_id (l := l)]
  exact tabL_congr fun i _ => by simp
@[simp] theorem updL_zero {f : Zone → Zone} : updL f l 0 = l := updI_zero
end Go.Am
namespace Go.Am
end Go.Am
namespace Go.Am
end Go.Am
namespace Go.Am
theorem take_getD {α : Type} {l : List α} {a n : Nat} {d : α} (h : a < n) : l.getD a d = (l.take n).getD a d := by simp [List.getD, List.getElem?_take, h]
end Go.Am
namespace Go.Am
def valueW (n : Int) (i : Nat) : Int := IntKind.u8.wrap (modI (IntKind.i64.wrap (n + IntKind.i64.wrap (i * n))) 251)
def valueB (n : Int) (i : Nat) : Int := if i = 0 then IntKind.u8.wrap (IntKind.i64.wrap (1 + modI n 255)) else valueW n i
def genG (f : Nat → Int) : Nat → Nat → C := fun i _ => .int .u8 (f i)
theorem genG_set {f : Nat → Int} {k : Nat} {v : Int} (i j : Nat) (hj : j < 1) : updG (genG f) k 0 [.int .u8 v] i j = genG (fun i => if i = k then v else f i) i j := by
  have : j = 0 := by omega
  subst this
  rw [updG_one]
  simp only [genG]
  split <;> rename_i h
  · rw [if_pos h.1]
  · rw [if_neg (fun e => h (by simp [e]))]
def valueS (n : Int) : ByteArray := bytesOf 16 (genG (valueB n))
theorem valueS_size (n : Int) : (valueS n).size = 16 := bytesOf_size _ _
def recD (d : DiceM) : DiceM := d.step.step.step
def recR (d : DiceM) (blocks version : Int) : Rec :=
  if d.step.step.next 4 = 3 then ⟨2, d.next blocks, version, 0, ByteArray.empty⟩ else ⟨1, d.next blocks, version, 0, valueS (d.step.next 200)⟩
end Go.Am
namespace Go.Am
def cmdN (d : DiceM) : Int := d.step.next 9
def cmdD (d : DiceM) (n : Int) : DiceM := if cmdN d = 0 ∨ cmdN d = 1 ∨ cmdN d = 2 ∨ cmdN d = 3 ∨ cmdN d = 4 then d.step.step else recD d.step.step.step
def cmdS (d : DiceM) : ByteArray := encR (recR d.step.step.step 5 (IntKind.i64.wrap (1 + d.step.step.next 40)))
def cmdX (d : DiceM) (x : Dev) (n : Int) : Dev :=
  if cmdN d = 0 then resetD x (d.next n) else if cmdN d = 1 then finishD x (d.next n) else if cmdN d = 2 then openD x (d.next n) else if cmdN d = 3 then closeD x (d.next n)
  else if cmdN d = 4 then { x with zones := x.zones.map syncZ } else appendD x (d.next n) (cmdS d)
end Go.Am
namespace Go.Am
end Go.Am
namespace Go.Am
end Go.Am
end
