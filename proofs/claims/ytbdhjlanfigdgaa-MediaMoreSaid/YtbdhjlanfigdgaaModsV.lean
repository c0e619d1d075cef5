/- Part of the proofs of laws of this seat: contracts and plain lemmas; no condition is added to a statement. -/
import Derived.Test.YtbdhjlanfigdgaaAmBV
import Derived.Test.YtbdhjlanfigdgaaAmCV
import Derived.Laws.Bits64
set_option linter.unusedSimpArgs false
set_option linter.unusedVariables false
section
/- Zones and devices. -/
namespace Go.Am

structure Zone where
  state : Int
  durable : Int
  sectors : List ByteArray

instance : Inhabited Zone := ⟨⟨0, 0, []⟩⟩

structure Dev where
  size : Int
  maxOpen : Int
  maxActive : Int
  zones : List Zone

def strsC (l : List ByteArray) : C := .isl 1 l.length (fun i _ => .str (l.getD i ByteArray.empty)) false

def Zone.cell (z : Zone) : Nat → C
  | 0 => .int .i64 z.state
  | 1 => .int .i64 z.durable
  | _ => strsC z.sectors

def Zone.s (z : Zone) : S := .a [.int .i64 z.state, .int .i64 z.durable, strsC z.sectors]

def zoneAt (l : List Zone) : Nat → Nat → C := fun i j => (l.getD i default).cell j
def zonesC (l : List Zone) : C := .isl 3 l.length (zoneAt l) false

def Dev.s (d : Dev) : S := .a [.int .i64 d.size, .int .i64 d.maxOpen, .int .i64 d.maxActive, zonesC d.zones]

def isOpen (s : Int) : Bool := decide (s = 1 ∨ s = 2)
def isActive (s : Int) : Bool := decide (s = 1 ∨ s = 2 ∨ s = 3)
def cntOpen (l : List Zone) : Nat := (l.filter fun z => isOpen z.state).length
def cntActive (l : List Zone) : Nat := (l.filter fun z => isActive z.state).length

theorem getD_eq {α : Type} [Inhabited α] (l : List α) (i : Nat) (h : i < l.length) : l.getD i default = l[i] := by simp [List.getD, h]

theorem cntOpen_snoc (l : List Zone) (k : Nat) (h : k < l.length) : cntOpen (l.take (k + 1)) = cntOpen (l.take k) + if isOpen (l.getD k default).state then 1 else 0 := by
  rw [List.take_succ_eq_append_getElem h, getD_eq l k h]
  simp only [cntOpen, List.filter_append, List.length_append, List.filter_cons, List.filter_nil]
  split <;> rfl
theorem cntActive_snoc (l : List Zone) (k : Nat) (h : k < l.length) : cntActive (l.take (k + 1)) = cntActive (l.take k) + if isActive (l.getD k default).state then 1 else 0 := by
  rw [List.take_succ_eq_append_getElem h, getD_eq l k h]
  simp only [cntActive, List.filter_append, List.length_append, List.filter_cons, List.filter_nil]
  split <;> rfl
theorem cntOpen_le (l : List Zone) : cntOpen l ≤ l.length := List.length_filter_le _ _
theorem cntActive_le (l : List Zone) : cntActive l ≤ l.length := List.length_filter_le _ _

theorem wrap_id (x : Int) (h0 : -9223372036854775808 ≤ x) (h1 : x ≤ 9223372036854775807) : IntKind.i64.wrap x = x := by
  rw [IntKind.wrap_i64]; omega

end Go.Am
end

section
namespace Go.Am

def secsOk (l : List ByteArray) : Bool := l.all fun s => decide (s.size = 40)

/-- A zone is valid. -/
def right (z : Zone) (size : Int) : Bool :=
  decide (0 ≤ z.state ∧ z.state ≤ 5 ∧ (z.sectors.length : Int) ≤ size ∧ 0 ≤ z.durable ∧ z.durable ≤ z.sectors.length ∧ (z.state = 0 ∨ z.state = 5 → z.sectors.length = 0) ∧ (z.state = 4 → z.durable = z.sectors.length) ∧
    (z.state ≠ 0 → z.state ≠ 4 → z.state ≠ 5 → (z.sectors.length : Int) < size)) && secsOk z.sectors

def confOk (d : Dev) : Bool :=
  decide (1 ≤ d.zones.length ∧ d.zones.length ≤ 32 ∧ 3 ≤ d.size ∧ d.size ≤ 64 ∧ 1 ≤ d.maxOpen ∧ d.maxOpen ≤ d.maxActive ∧ d.maxActive ≤ d.zones.length)

def check (d : Dev) : Int :=
  if confOk d then
    if d.zones.all (fun z => right z d.size) then
      if decide ((cntOpen d.zones : Int) ≤ d.maxOpen ∧ (cntActive d.zones : Int) ≤ d.maxActive) then 0 else 6
    else 6
  else 11

end Go.Am
namespace Go.Am
theorem secsOk_snoc (l : List ByteArray) (k : Nat) (h : k < l.length) : secsOk (l.take (k + 1)) = (secsOk (l.take k) && decide ((l.getD k ByteArray.empty).size = 40)) := by
  rw [List.take_succ_eq_append_getElem h]
  simp only [secsOk, List.all_append]
  simp [h]
theorem secsOk_get (l : List ByteArray) (k : Nat) (h : k < l.length) (hb : (l.getD k ByteArray.empty).size ≠ 40) : secsOk l = false := by
  rw [secsOk, List.all_eq_false]
  refine ⟨l[k], List.getElem_mem h, ?_⟩
  simpa [h] using hb
end Go.Am
namespace Go.Am
theorem all_snoc {α : Type} [Inhabited α] (l : List α) (p : α → Bool) (k : Nat) (h : k < l.length) : (l.take (k + 1)).all p = ((l.take k).all p && p (l.getD k default)) := by
  rw [List.take_succ_eq_append_getElem h, getD_eq l k h]
  simp only [List.all_append, List.all_cons, List.all_nil, Bool.and_true]
theorem all_get_false {α : Type} [Inhabited α] (l : List α) (p : α → Bool) (k : Nat) (h : k < l.length) (hb : p (l.getD k default) = false) : l.all p = false := by
  rw [getD_eq l k h] at hb
  rw [List.all_eq_false]
  exact ⟨l[k], List.getElem_mem h, by simp [hb]⟩
end Go.Am
namespace Go.Am
def sameZone (a b : Zone) : Bool := decide (a.state = b.state ∧ a.durable = b.durable ∧ a.sectors.length = b.sectors.length) && decide (a.sectors = b.sectors)
end Go.Am
namespace Go.Am
theorem take_snoc_eq {l r : List ByteArray} {k : Nat} (h : l.take k = r.take k) (h1 : k < l.length) (h2 : k < r.length) (he : l.getD k ByteArray.empty = r.getD k ByteArray.empty) : l.take (k + 1) = r.take (k + 1) := by
  rw [List.take_succ_eq_append_getElem h1, List.take_succ_eq_append_getElem h2, h]
  simp [h1, h2] at he
  rw [he]
def allSame : List Zone → List Zone → Bool
  | [], [] => true
  | a :: r, b :: r' => sameZone a b && allSame r r'
  | _, _ => false
theorem allSame_snoc : ∀ (a b : List Zone) (k : Nat), k < a.length → k < b.length → allSame (a.take (k + 1)) (b.take (k + 1)) = (allSame (a.take k) (b.take k) && sameZone (a.getD k default) (b.getD k default))
  | x :: r, y :: r', 0, _, _ => by simp [allSame]
  | x :: r, y :: r', k + 1, h1, h2 => by
    have := allSame_snoc r r' k (by simpa using h1) (by simpa using h2)
    simp only [List.take_succ_cons, allSame, List.getD_cons_succ, this, Bool.and_assoc]
  | [], _, _, h, _ => by simp at h
  | _ :: _, [], _, _, h => by simp at h
theorem allSame_false : ∀ (a b : List Zone) (k : Nat), k < a.length → k < b.length → sameZone (a.getD k default) (b.getD k default) = false → allSame a b = false
  | x :: r, y :: r', 0, _, _, h => by simp at h; simp [allSame, h]
  | x :: r, y :: r', k + 1, h1, h2, h => by
    have := allSame_false r r' k (by simpa using h1) (by simpa using h2) (by simpa using h)
    simp [allSame, this]
  | [], _, _, h, _, _ => by simp at h
  | _ :: _, [], _, _, h, _ => by simp at h
def same (a b : Dev) : Bool := decide (a.size = b.size ∧ a.maxOpen = b.maxOpen ∧ a.maxActive = b.maxActive ∧ a.zones.length = b.zones.length) && allSame a.zones b.zones
def zone0 : Zone := ⟨0, 0, []⟩
def dev0 : Dev := ⟨0, 0, 0, []⟩
/-- The new device, and the error. -/
def newX (zones size op act : Int) : Dev := ⟨size, op, act, List.replicate zones.toNat zone0⟩
def newE (zones size op act : Int) : Int := if decide (1 ≤ zones ∧ zones ≤ 32) then check (newX zones size op act) else 11
def newD (zones size op act : Int) : Dev := if newE zones size op act = 0 then newX zones size op act else dev0
def Dev.cells (d : Dev) : List C := [.int .i64 d.size, .int .i64 d.maxOpen, .int .i64 d.maxActive, zonesC d.zones]
end Go.Am
namespace Go.Am
theorem zone0_cells (z : List C) (hz : z = [.int .i64 0, .int .i64 0, .nils]) (n i j : Nat) (hi : i < n) (hj : j < 3) : leF (zeroG z i j) (zoneAt (List.replicate n zone0) i j) := by
  subst hz
  have : (List.replicate n zone0).getD i default = zone0 := by simp [List.getD, hi]
  simp only [zoneAt, this]
  match j, hj with
  | 0, _ => exact leF.refl
  | 1, _ => exact leF.refl
  | 2, _ => exact leF.nil rfl
theorem zone0_imm (z : List C) (hz : z = [.int .i64 0, .int .i64 0, .nils]) (n i : Nat) (hi : i < n) (j : Nat) (hj : j < 3) : (zeroG z i j).imm = true := by
  subst hz
  match j, hj with
  | 0, _ => rfl
  | 1, _ => rfl
  | 2, _ => rfl
end Go.Am
namespace Go.Am
def strsT (l : List ByteArray) : C := .isl 1 l.length (fun i _ => .str (l.getD i ByteArray.empty)) true
def Zone.cellT (z : Zone) : Nat → C
  | 0 => .int .i64 z.state
  | 1 => .int .i64 z.durable
  | _ => strsT z.sectors
def zoneAtT (l : List Zone) : Nat → Nat → C := fun i j => (l.getD i default).cellT j
/-- The zones of which the first k have sectors of their own. -/
def zoneAtK (l : List Zone) (k : Nat) : Nat → Nat → C := fun i j => if i < k then (l.getD i default).cellT j else (l.getD i default).cell j
end Go.Am
namespace Go.Am
structure Dev.small (d : Dev) : Prop where
  z : d.zones.length ≤ 10000000
  s : ∀ i, (d.zones.getD i default).sectors.length ≤ 10000000
end Go.Am
namespace Go.Am
theorem cell_imm (z : Zone) (j : Nat) : (z.cell j).imm = true := by
  match j with
  | 0 => rfl
  | 1 => rfl
  | _ + 2 => rfl
theorem cellT_imm (z : Zone) (j : Nat) : (z.cellT j).imm = true := by
  match j with
  | 0 => rfl
  | 1 => rfl
  | _ + 2 => rfl
theorem zoneAt_imm (l : List Zone) (i j : Nat) : (zoneAt l i j).imm = true := cell_imm _ _
theorem zoneAtT_imm (l : List Zone) (i j : Nat) : (zoneAtT l i j).imm = true := cellT_imm _ _
theorem zoneAtK_imm (l : List Zone) (k i j : Nat) : (zoneAtK l k i j).imm = true := by
  unfold zoneAtK
  split
  · exact cellT_imm _ _
  · exact cell_imm _ _
theorem wkC.of_eq {ρ : Nat → Nat} {n : Nat} {c c' : C} (hc : c'.imm = true) (h : c = c') : wkC ρ n c c' := by subst h; exact wkC.imm hc
end Go.Am
namespace Go.Am
theorem updG_one (g : Nat → Nat → C) (k j0 : Nat) (x : C) (i j : Nat) : updG g k j0 [x] i j = if i = k ∧ j = j0 then x else g i j := by
  simp only [updG, List.length_cons, List.length_nil]
  by_cases h : i = k ∧ j = j0
  · obtain ⟨rfl, rfl⟩ := h
    rw [if_pos (by omega), if_pos ⟨rfl, rfl⟩]
    simp [lget, getL]
  · rw [if_neg (by omega), if_neg h]
theorem fzC_cell (id n : Nat) (g : Nat → Nat → C) (z : Zone) (j : Nat) : fzC id n g (z.cell j) = z.cell j := by
  match j with
  | 0 => rfl
  | 1 => rfl
  | _ + 2 => rfl
theorem fzC_cellT (id n : Nat) (g : Nat → Nat → C) (z : Zone) (j : Nat) : fzC id n g (z.cellT j) = z.cellT j := by
  match j with
  | 0 => rfl
  | 1 => rfl
  | _ + 2 => rfl
theorem fzC_zoneAtK (id n : Nat) (g : Nat → Nat → C) (l : List Zone) (k i j : Nat) : fzC id n g (zoneAtK l k i j) = zoneAtK l k i j := by
  unfold zoneAtK
  split
  · exact fzC_cellT _ _ _ _ _
  · exact fzC_cell _ _ _ _ _
theorem cellT_lt (z : Zone) (j : Nat) (h : j < 2) : z.cellT j = z.cell j := by
  match j, h with
  | 0, _ => rfl
  | 1, _ => rfl
theorem zoneAtK_all (l : List Zone) (i j : Nat) (h : i < l.length) : zoneAtK l l.length i j = zoneAtT l i j := by
  simp only [zoneAtK, zoneAtT, if_pos h]
end Go.Am
namespace Go.Am
theorem reC_cellT (σ : Nat → Nat) (z : Zone) (j : Nat) : reC σ (z.cellT j) = z.cellT j := by
  match j with
  | 0 => rfl
  | 1 => rfl
  | _ + 2 => rfl
theorem reC_cell (σ : Nat → Nat) (z : Zone) (j : Nat) : reC σ (z.cell j) = z.cell j := by
  match j with
  | 0 => rfl
  | 1 => rfl
  | _ + 2 => rfl
theorem reC_zoneAtT (σ : Nat → Nat) (l : List Zone) : (fun i j => reC σ (zoneAtT l i j)) = zoneAtT l := by
  funext i j; exact reC_cellT _ _ _
theorem right_len {z : Zone} {size : Int} (h : right z size = true) : (z.sectors.length : Int) ≤ size := by
  simp only [right, Bool.and_eq_true, decide_eq_true_eq] at h
  exact h.1.2.2.1
structure Dev.ok (d : Dev) : Prop where
  conf : confOk d = true
  zones : ∀ z ∈ d.zones, right z d.size = true
  op : (cntOpen d.zones : Int) ≤ d.maxOpen
  act : (cntActive d.zones : Int) ≤ d.maxActive
theorem check_ok {d : Dev} : check d = 0 ↔ d.ok := by
  unfold check
  constructor
  · intro h
    split at h
    · rename_i h1
      split at h
      · rename_i h2
        split at h
        · rename_i h3
          simp only [decide_eq_true_eq] at h3
          exact ⟨h1, List.all_eq_true.1 h2, h3.1, h3.2⟩
        · cases h
      · cases h
    · cases h
  · intro h
    rw [if_pos h.conf, if_pos (List.all_eq_true.2 h.zones), if_pos (decide_eq_true ⟨h.op, h.act⟩)]
theorem Dev.ok.small {d : Dev} (h : d.ok) : d.small := by
  have hc := h.conf
  simp only [confOk, decide_eq_true_eq] at hc
  refine ⟨by omega, fun i => ?_⟩
  by_cases hi : i < d.zones.length
  · have hm : d.zones.getD i default ∈ d.zones := by
      rw [getD_eq _ _ hi]; exact List.getElem_mem hi
    have := right_len (h.zones _ hm)
    omega
  · have : d.zones.getD i default = default := by simp [List.getD, Nat.le_of_not_lt hi]
    rw [this]
    exact Nat.zero_le _
def beginE (d : Dev) (zone : Int) : Int :=
  if check d = 0 then if decide (0 ≤ zone ∧ zone < d.zones.length) then if (d.zones.getD zone.toNat default).state = 5 then 6 else 0 else 5 else check d
/-- A device whose zones' array is the call's own: object 'id'. -/
def Dev.own (d : Dev) (id : Nat) : List C := [.int .i64 d.size, .int .i64 d.maxOpen, .int .i64 d.maxActive, .sl id 3 d.zones.length d.zones.length true]
def beginQ (d : Dev) (zone : Int) (s : S) (H : List O) : Prop :=
  if beginE d zone = 0 then s = .t [.inr (d.own 0), .inl (.int .i64 0)] ∧ H = [.arr 28 3 d.zones.length (zoneAtT d.zones)]
  else s = .t [.inr d.cells, .inl (.int .i64 (beginE d zone))] ∧ H = []
end Go.Am
namespace Go.Am
def shutZ (z : Zone) : Zone := { z with state := if z.sectors.length = 0 then 0 else 3 }
def shutAt (l : List Zone) (i : Nat) : List Zone := l.set i (shutZ (l.getD i default))
end Go.Am
namespace Go.Am
theorem zoneAtT_set (l : List Zone) (i a b : Nat) (z : Zone) (hi : i < l.length) : zoneAtT (l.set i z) a b = if a = i then z.cellT b else zoneAtT l a b := by
  simp only [zoneAtT]
  by_cases c : a = i
  · subst c
    simp [List.getD, hi]
  · rw [if_neg c]
    simp only [List.getD]
    rw [List.getElem?_set_ne (Ne.symm c)]
/-- The first zone that an append opened. -/
def firstOpen : List Zone → Nat
  | [] => 0
  | z :: r => if z.state = 1 then 0 else firstOpen r + 1
/-- Room for opening a zone: the error, and the zones. -/
def roomX (d : Dev) (zone : Nat) : Int × List Zone :=
  let l := if d.maxOpen ≤ cntOpen d.zones then (if firstOpen d.zones < d.zones.length then some (shutAt d.zones (firstOpen d.zones)) else none) else some d.zones
  match l with
  | none => (8, d.zones)
  | some l => if (l.getD zone default).state ≠ 3 ∧ d.maxActive ≤ cntActive l then (9, l) else (0, l)
end Go.Am
namespace Go.Am
theorem cellT_le (z : Zone) (j : Nat) : leF (z.cellT j) (z.cell j) := by
  match j with
  | 0 => exact leF.refl
  | 1 => exact leF.refl
  | _ + 2 => exact leF.flag
theorem zoneAtT_le (l : List Zone) (i j : Nat) : leF (zoneAtT l i j) (zoneAt l i j) := cellT_le _ _
theorem bw_zones {H : List O} {l : List Zone} {e n : Nat} {x : Bool} (id : Nat) (hid : getL H id = some (.arr e 3 n (zoneAtT l))) (hn : n = l.length) : Bw H (.sl id 3 n n x) (zonesC l) := by
  subst hn
  exact Bw.sl hid rfl (fun i _ j _ => Bw.leF (zoneAtT_imm _ _ _) (zoneAtT_le _ _ _)) (fun e => by cases e)
theorem bw_dev {H : List O} {d : Dev} {l : List Zone} {e n : Nat} {x : Bool} (id : Nat) (hid : getL H id = some (.arr e 3 n (zoneAtT l))) (hn : n = l.length) :
    BwA H [.a [.int .i64 d.size, .int .i64 d.maxOpen, .int .i64 d.maxActive, .sl id 3 n n x]] [({ d with zones := l } : Dev).s] :=
  BwA.cons (BwS.a (BwL.cons (Bw.same rfl) (BwL.cons (Bw.same rfl) (BwL.cons (Bw.same rfl) (BwL.cons (bw_zones id hid hn) BwL.nil))))) BwA.nil
end Go.Am
namespace Go.Am
theorem firstOpen_spec : ∀ (l : List Zone) (k : Nat), k < l.length → (∀ i, i < k → (l.getD i default).state ≠ 1) → (l.getD k default).state = 1 → firstOpen l = k
  | [], k, h, _, _ => by simp at h
  | z :: r, 0, _, _, h => by simp at h; simp [firstOpen, h]
  | z :: r, k + 1, h, hn, hk => by
    have h0 := hn 0 (by omega)
    simp at h0
    have := firstOpen_spec r k (by simpa using h) (fun i hi => by simpa using hn (i + 1) (by omega)) (by simpa using hk)
    simp [firstOpen, h0, this]
theorem firstOpen_none : ∀ (l : List Zone), (∀ i, i < l.length → (l.getD i default).state ≠ 1) → firstOpen l = l.length
  | [], _ => rfl
  | z :: r, hn => by
    have h0 := hn 0 (by simp)
    simp at h0
    have := firstOpen_none r (fun i hi => by simpa using hn (i + 1) (by simpa using hi))
    simp [firstOpen, h0, this]
theorem shutAt_len (l : List Zone) (i : Nat) : (shutAt l i).length = l.length := by simp [shutAt]
end Go.Am
namespace Go.Am
def Dev.out (d : Dev) (e : Int) : S := .t [.inr d.cells, .inl (.int .i64 e)]
theorem RM.devG {H : List O} {d : Dev} {l : List Zone} {e n : Nat} {g : Nat → Nat → C} {x : Bool} {er er' : Int} (id : Nat) (hid : getL H id = some (.arr e 3 n g)) (him : ∀ i, i < n → ∀ j, j < 3 → (g i j).imm = true)
    (hn : n = l.length) (hg : ∀ i, i < n → ∀ j, j < 3 → leF (g i j) (zoneAt l i j)) (he : er = er') :
    RM 0 (.t [.inr [.int .i64 d.size, .int .i64 d.maxOpen, .int .i64 d.maxActive, .sl id 3 n n x], .inl (.int .i64 er)]) H (Dev.out { d with zones := l } er') [] := by
  subst he
  exact RM.fz id hid (Nat.zero_le _) him (RM.wk 0 rfl (by cases (fzH id n g H) <;> trivial) (wkS.t ⟨⟨wkC.imm rfl, wkC.imm rfl, wkC.imm rfl, wkC.fz rfl hn hg (fun e => by cases e), trivial⟩, wkC.imm rfl, trivial⟩) (Nat.zero_le _))
theorem RM.dev {H : List O} {d : Dev} {l : List Zone} {e n : Nat} {x : Bool} {er er' : Int} (id : Nat) (hid : getL H id = some (.arr e 3 n (zoneAtT l))) (hn : n = l.length) (he : er = er') :
    RM 0 (.t [.inr [.int .i64 d.size, .int .i64 d.maxOpen, .int .i64 d.maxActive, .sl id 3 n n x], .inl (.int .i64 er)]) H (Dev.out { d with zones := l } er') [] :=
  RM.devG id hid (fun i _ j _ => zoneAtT_imm _ _ _) hn (fun i _ j _ => zoneAtT_le _ _ _) he
theorem plugK_nil {σ : Nat → Nat} {Hc : List O} : ∀ (H : List O) (k : Nat), plugK σ [] Hc k H = H
  | [], _ => rfl
  | o :: r, k => by simp only [plugK, idx, plugK_nil r (k + 1)]
theorem plug_nil_arr (H : List O) (e n : Nat) (l : List Zone) : plug [] H [.arr e 3 n (zoneAtT l)] = H ++ [.arr e 3 n (zoneAtT l)] := by
  unfold plug
  rw [plugK_nil]
  simp only [List.length_nil, dropL, reHL, reO, reC_zoneAtT]
theorem plug_nil_nil (H : List O) : plug [] H [] = H := by
  unfold plug
  rw [plugK_nil]
  simp [dropL, reHL]
def resetD (d : Dev) (zone : Int) : Dev := if beginE d zone = 0 then { d with zones := d.zones.set zone.toNat zone0 } else d
def readE (d : Dev) (zone off : Int) : Int := if beginE d zone = 0 then if decide (0 ≤ off ∧ off < (d.zones.getD zone.toNat default).sectors.length) then 0 else 10 else beginE d zone
def readS (d : Dev) (zone off : Int) : ByteArray := if readE d zone off = 0 then (d.zones.getD zone.toNat default).sectors.getD off.toNat ByteArray.empty else ByteArray.empty
theorem beginE_zone {d : Dev} {zone : Int} (h : beginE d zone = 0) : d.ok ∧ 0 ≤ zone ∧ zone < d.zones.length := by
  unfold beginE at h
  split at h
  · rename_i h1
    split at h
    · rename_i h2
      exact ⟨check_ok.1 h1, by simpa using h2⟩
    · cases h
  · rename_i h1
    exact absurd h h1
end Go.Am
namespace Go.Am
theorem updG_state {l : List Zone} {k : Nat} (hk : k < l.length) (st : Int) : updG (zoneAtT l) k 0 [.int .i64 st] = zoneAtT (l.set k { l.getD k default with state := st }) := by
  funext i j
  rw [updG_one, zoneAtT_set l k i j _ hk]
  by_cases c : i = k
  · subst c
    match j with
    | 0 => simp [Zone.cellT]
    | 1 => simp [Zone.cellT, zoneAtT]
    | j + 2 => simp [Zone.cellT, zoneAtT]
  · simp [c]
theorem updG_durable {l : List Zone} {k : Nat} (hk : k < l.length) (du : Int) : updG (zoneAtT l) k 1 [.int .i64 du] = zoneAtT (l.set k { l.getD k default with durable := du }) := by
  funext i j
  rw [updG_one, zoneAtT_set l k i j _ hk]
  by_cases c : i = k
  · subst c
    match j with
    | 0 => simp [Zone.cellT, zoneAtT]
    | 1 => simp [Zone.cellT]
    | j + 2 => simp [Zone.cellT, zoneAtT]
  · simp [c]
theorem updG_zero {l : List Zone} {k : Nat} (hk : k < l.length) (i j : Nat) (hj : j < 3) : leF (updG (zoneAtT l) k 0 [.int .i64 0, .int .i64 0, .nils] i j) (zoneAtT (l.set k zone0) i j) ∧ (updG (zoneAtT l) k 0 [.int .i64 0, .int .i64 0, .nils] i j).imm = true := by
  rw [zoneAtT_set l k i j _ hk]
  simp only [updG, List.length_cons, List.length_nil]
  by_cases c : i = k
  · rw [if_pos (by omega), if_pos c]
    match j, hj with
    | 0, _ => exact ⟨leF.refl, rfl⟩
    | 1, _ => exact ⟨leF.refl, rfl⟩
    | 2, _ => exact ⟨leF.nil rfl, rfl⟩
  · rw [if_neg (by omega), if_neg c]
    exact ⟨leF.refl, zoneAtT_imm _ _ _⟩
def finishZ (z : Zone) : Zone := if z.state = 4 then z else { z with state := 4, durable := z.sectors.length }
def finishD (d : Dev) (zone : Int) : Dev := if beginE d zone = 0 then { d with zones := d.zones.set zone.toNat (finishZ (d.zones.getD zone.toNat default)) } else d
def openE (d : Dev) (zone : Int) : Int :=
  if beginE d zone = 0 then if (d.zones.getD zone.toNat default).state = 4 then 7 else if isOpen (d.zones.getD zone.toNat default).state then 0 else (roomX d zone.toNat).1 else beginE d zone
def openL (d : Dev) (zone : Nat) : List Zone := if isOpen (d.zones.getD zone default).state then d.zones else (roomX d zone).2
def openD (d : Dev) (zone : Int) : Dev := if openE d zone = 0 then { d with zones := (openL d zone.toNat).set zone.toNat { (openL d zone.toNat).getD zone.toNat default with state := 2 } } else d
def closeE (d : Dev) (zone : Int) : Int := if beginE d zone = 0 then if isActive (d.zones.getD zone.toNat default).state then 0 else 6 else beginE d zone
def closeD (d : Dev) (zone : Int) : Dev := if closeE d zone = 0 then if isOpen (d.zones.getD zone.toNat default).state then { d with zones := shutAt d.zones zone.toNat } else d else d
theorem roomX_len (d : Dev) (zone : Nat) : (roomX d zone).2.length = d.zones.length := by
  simp only [roomX]
  split
  · rfl
  · rename_i l h
    have : l.length = d.zones.length := by
      split at h
      · split at h
        · cases h; exact shutAt_len _ _
        · cases h
      · cases h; rfl
    split <;> exact this
theorem set_getD_self (l : List Zone) (k : Nat) (hk : k < l.length) : l.set k (l.getD k default) = l := by
  simp [List.getD, hk]
end Go.Am
namespace Go.Am
def appendE (d : Dev) (zone : Int) (s : ByteArray) : Int :=
  if check d = 0 then if decide (0 ≤ zone ∧ zone < d.zones.length) then if s.size = 40 then
    if (d.zones.getD zone.toNat default).state = 5 then 6 else if (d.zones.getD zone.toNat default).state = 4 then 7 else if isOpen (d.zones.getD zone.toNat default).state then 0 else (roomX d zone.toNat).1
  else 2 else 5 else check d
/-- The zone behind an append. -/
def grow (z : Zone) (size : Int) (s : ByteArray) : Zone :=
  if (z.sectors.length : Int) + 1 = size then ⟨4, size, z.sectors ++ [s]⟩ else ⟨if isOpen z.state then z.state else 1, z.durable, z.sectors ++ [s]⟩
def appendD (d : Dev) (zone : Int) (s : ByteArray) : Dev :=
  if appendE d zone s = 0 then { d with zones := (openL d zone.toNat).set zone.toNat (grow ((openL d zone.toNat).getD zone.toNat default) d.size s) } else d
def appendI (d : Dev) (zone : Int) (s : ByteArray) : Int := if appendE d zone s = 0 then (d.zones.getD zone.toNat default).sectors.length else 0
def Dev.out3 (d : Dev) (i e : Int) : S := .t [.inr d.cells, .inl (.int .i64 i), .inl (.int .i64 e)]
theorem RM.dev3G {H : List O} {d : Dev} {l : List Zone} {e n : Nat} {g : Nat → Nat → C} {x : Bool} {er er' ix ix' : Int} (id : Nat) (hid : getL H id = some (.arr e 3 n g)) (him : ∀ i, i < n → ∀ j, j < 3 → (g i j).imm = true)
    (hn : n = l.length) (hg : ∀ i, i < n → ∀ j, j < 3 → leF (g i j) (zoneAt l i j)) (hi : ix = ix') (he : er = er') :
    RM 0 (.t [.inr [.int .i64 d.size, .int .i64 d.maxOpen, .int .i64 d.maxActive, .sl id 3 n n x], .inl (.int .i64 ix), .inl (.int .i64 er)]) H (Dev.out3 { d with zones := l } ix' er') [] := by
  subst he
  subst hi
  exact RM.fz id hid (Nat.zero_le _) him (RM.wk 0 rfl (by cases (fzH id n g H) <;> trivial) (wkS.t ⟨⟨wkC.imm rfl, wkC.imm rfl, wkC.imm rfl, wkC.fz rfl hn hg (fun e => by cases e), trivial⟩, wkC.imm rfl, wkC.imm rfl, trivial⟩) (Nat.zero_le _))
theorem RM.dev3 {H : List O} {d : Dev} {l : List Zone} {e n : Nat} {x : Bool} {er er' ix ix' : Int} (id : Nat) (hid : getL H id = some (.arr e 3 n (zoneAtT l))) (hn : n = l.length) (hi : ix = ix') (he : er = er') :
    RM 0 (.t [.inr [.int .i64 d.size, .int .i64 d.maxOpen, .int .i64 d.maxActive, .sl id 3 n n x], .inl (.int .i64 ix), .inl (.int .i64 er)]) H (Dev.out3 { d with zones := l } ix' er') [] :=
  RM.dev3G id hid (fun i _ j _ => zoneAtT_imm _ _ _) hn (fun i _ j _ => zoneAtT_le _ _ _) hi he
end Go.Am
namespace Go.Am
theorem RM.dev3F {H : List O} {d : Dev} {l : List Zone} {e e9 n m : Nat} {gs g : Nat → Nat → C} {x : Bool} {er er' ix ix' : Int} (id id5 : Nat) (h5 : getL H id5 = some (.arr e9 1 m gs)) (h2 : getL H id = some (.arr e 3 n g)) (hne : id ≠ id5)
    (hgs : ∀ i, i < m → ∀ j, j < 1 → (gs i j).imm = true) (hn : n = l.length) (hg : ∀ i, i < n → ∀ j, j < 3 → leF (fzC id5 m gs (g i j)) (zoneAt l i j) ∧ (fzC id5 m gs (g i j)).imm = true) (hi : ix = ix') (he : er = er') :
    RM 0 (.t [.inr [.int .i64 d.size, .int .i64 d.maxOpen, .int .i64 d.maxActive, .sl id 3 n n x], .inl (.int .i64 ix), .inl (.int .i64 er)]) H (Dev.out3 { d with zones := l } ix' er') [] := by
  refine RM.fz id5 h5 (Nat.zero_le _) hgs ?_
  have hb : Nat.beq id id5 = false := by
    cases h : Nat.beq id id5 with
    | false => rfl
    | true => exact absurd (Nat.eq_of_beq_eq_true h) hne
  simp only [fzS, fzEL, fzE, fzL, fzC, hb]
  refine RM.dev3G id (g := fun i j => fzC id5 m gs (g i j)) (e := e) ?_ (fun i h1 j h2 => (hg i h1 j h2).2) hn (fun i h1 j h2 => (hg i h1 j h2).1) hi he
  rw [fzH_get, h2]
  simp only [Option.map_some, if_neg hne, fzO]

theorem append_cells {L : List Zone} {z m id5 : Nat} {st du : Int} {secs : List ByteArray} {gs G : Nat → Nat → C} (hz : z < L.length) (hm : m = secs.length) (hgs : ∀ i, i < m → gs i 0 = .str (secs.getD i ByteArray.empty))
    (hG : ∀ i j, j < 3 → G i j = if i = z then (if j = 0 then .int .i64 st else if j = 1 then .int .i64 du else .sl id5 1 m m false) else zoneAtT L i j) :
    ∀ i, i < L.length → ∀ j, j < 3 → leF (fzC id5 m gs (G i j)) (zoneAt (L.set z ⟨st, du, secs⟩) i j) ∧ (fzC id5 m gs (G i j)).imm = true := by
  subst hm
  intro i hi j hj
  rw [hG i j hj]
  by_cases c : i = z
  · subst c
    have e : (L.set i ⟨st, du, secs⟩).getD i default = ⟨st, du, secs⟩ := by simp [List.getD, hi]
    simp only [if_pos, zoneAt, e]
    match j, hj with
    | 0, _ => exact ⟨leF.refl, rfl⟩
    | 1, _ => exact ⟨leF.refl, rfl⟩
    | 2, _ =>
      rw [if_neg (by decide), if_neg (by decide), fzC_sl rfl]
      refine ⟨leF.isl rfl (fun a ha b hb => ?_) (fun e => by cases e), rfl⟩
      have : b = 0 := by omega
      subst this
      exact leF.of_eq (hgs a ha)
  · rw [if_neg c]
    have e : fzC id5 secs.length gs (zoneAtT L i j) = zoneAtT L i j := fzC_cellT _ _ _ _ _
    rw [e]
    refine ⟨?_, zoneAtT_imm _ _ _⟩
    have : zoneAt (L.set z ⟨st, du, secs⟩) i j = zoneAt L i j := by
      simp only [zoneAt, List.getD]
      rw [List.getElem?_set_ne (Ne.symm c)]
    rw [this]
    exact zoneAtT_le _ _ _

theorem app_cells (secs : List ByteArray) (s : ByteArray) (t : List C) (i : Nat) (h : i < secs.length + 1) : appG (fun i _ => .str (secs.getD i ByteArray.empty)) secs.length (flatG 1 (.str s :: t)) i 0 = .str ((secs ++ [s]).getD i ByteArray.empty) := by
  simp only [appG]
  by_cases c : i < secs.length
  · rw [if_pos c]
    simp [List.getD, List.getElem?_append_left c]
  · have : i = secs.length := by omega
    subst this
    rw [if_neg c]
    simp [flatG, lget, getL, List.getD]
theorem app_imm (secs : List ByteArray) (s : ByteArray) (t : List C) (i : Nat) (h : i < secs.length + 1) (j : Nat) (hj : j < 1) : (appG (fun i _ => .str (secs.getD i ByteArray.empty)) secs.length (flatG 1 (.str s :: t)) i j).imm = true := by
  have : j = 0 := by omega
  subst this
  rw [app_cells secs s t i h]
  rfl
theorem shutAt_sectors (l : List Zone) (i k : Nat) (hi : i < l.length) : ((shutAt l i).getD k default).sectors = (l.getD k default).sectors := by
  simp only [shutAt]
  by_cases c : k = i
  · subst c
    simp [List.getD, hi, shutZ]
  · simp only [List.getD]
    rw [List.getElem?_set_ne (Ne.symm c)]
theorem roomX_sectors (d : Dev) (zone k : Nat) : ((roomX d zone).2.getD k default).sectors = (d.zones.getD k default).sectors := by
  simp only [roomX]
  split
  · rfl
  · rename_i l h
    have : (l.getD k default).sectors = (d.zones.getD k default).sectors := by
      split at h
      · split at h
        · rename_i h2
          cases h; exact shutAt_sectors _ _ _ h2
        · cases h
      · cases h; rfl
    split <;> exact this
end Go.Am
namespace Go.Am
theorem wk_own {d : Dev} {id : Nat} : wkS (rho [id]) 1 (.a [.int .i64 d.size, .int .i64 d.maxOpen, .int .i64 d.maxActive, .sl id 3 d.zones.length d.zones.length true]) (.a (d.own 0)) :=
  wkS.a ⟨wkC.imm rfl, wkC.imm rfl, wkC.imm rfl, wkC.sl1 rfl rfl (fun e => e), trivial⟩
end Go.Am
namespace Go.Am
theorem shutAt_closed (l : List Zone) (i k : Nat) (h : isOpen (l.getD k default).state = false) : isOpen ((shutAt l i).getD k default).state = false := by
  simp only [shutAt]
  by_cases c : k = i
  · subst c
    by_cases hk : k < l.length
    · have : (l.set k (shutZ (l.getD k default))).getD k default = shutZ (l.getD k default) := by simp [List.getD, hk]
      rw [this]
      simp only [shutZ]
      split <;> decide
    · rw [List.set_eq_of_length_le (by omega)]; exact h
  · simp only [List.getD] at h ⊢
    rw [List.getElem?_set_ne (Ne.symm c)]
    exact h
theorem roomX_closed (d : Dev) (zone k : Nat) (h : isOpen (d.zones.getD k default).state = false) : isOpen ((roomX d zone).2.getD k default).state = false := by
  simp only [roomX]
  split
  · exact h
  · rename_i l hl
    have : isOpen (l.getD k default).state = false := by
      split at hl
      · split at hl
        · cases hl; exact shutAt_closed _ _ _ h
        · cases hl
      · cases hl; exact h
    split <;> exact this
end Go.Am
namespace Go.Am
/-- A byte of a number. -/
def putB (n : Int) (i : Nat) : Int := IntKind.u8.wrap (n.fdiv (2 ^ (min (IntKind.u64.wrap (IntKind.i64.wrap (8 * (i : Int)))).toNat IntKind.i64.bits)))
def putS (n : Int) (size : Nat) : ByteArray := bytesOf size fun i _ => .int .u8 (putB n i)
end Go.Am
namespace Go.Am
def putG (n : Int) (k : Nat) : Nat → Nat → C := fun i _ => if i < k then .int .u8 (putB n i) else .int .u8 0
theorem putG_imm (n : Int) (k i j : Nat) : (putG n k i j).imm = true := by
  unfold putG
  split <;> rfl
end Go.Am
namespace Go.Am
theorem bytesOf_congr {n : Nat} {g g' : Nat → Nat → C} (h : ∀ i, i < n → g i 0 = g' i 0) : bytesOf n g = bytesOf n g' := by
  unfold bytesOf
  congr 2
  refine List.map_congr_left fun i hi => ?_
  rw [h i (by simpa using hi)]
theorem bytesOf_size (n : Nat) (g : Nat → Nat → C) : (bytesOf n g).size = n := by simp [bytesOf, ByteArray.size]
theorem putG_str (n : Int) (k : Nat) : bytesOf k (putG n k) = putS n k := bytesOf_congr fun i hi => by simp [putG, hi]
theorem putS_size (n : Int) (k : Nat) : (putS n k).size = k := bytesOf_size _ _
end Go.Am
namespace Go.Am
def xorU (x y : Int) : Int := IntKind.u32.wrap (BitVec.ofInt IntKind.u32.bits x ^^^ BitVec.ofInt IntKind.u32.bits y).toNat
def andU (x y : Int) : Int := IntKind.u32.wrap (BitVec.ofInt IntKind.u32.bits x &&& BitVec.ofInt IntKind.u32.bits y).toNat
def notU (x : Int) : Int := xorU 4294967295 x
def halfU (x : Int) : Int := x.fdiv (2 ^ min (1 : Int).toNat IntKind.u32.bits)
def crcBit (x : Int) : Int := if andU x 1 = 1 then xorU (halfU x) 3988292384 else halfU x
def iterI (f : Int → Int) : Nat → Int → Int
  | 0, x => x
  | n + 1, x => f (iterI f n x)
end Go.Am
namespace Go.Am
def byteAt (b : ByteArray) (k : Nat) : Int := IntKind.u32.wrap ((b.data.toList.getD k 0).toNat : Int)
def crcTo (sum : Int) (b : ByteArray) : Nat → Int
  | 0 => notU sum
  | k + 1 => iterI crcBit 8 (xorU (crcTo sum b k) (byteAt b k))
def addU (sum : Int) (b : ByteArray) : Int := notU (crcTo sum b b.size)
theorem wrapU_lt (x : Int) : 0 ≤ IntKind.u32.wrap x ∧ IntKind.u32.wrap x < 4294967296 := by
  rw [IntKind.wrap_u32]; omega
theorem addU_lt (sum : Int) (b : ByteArray) : 0 ≤ addU sum b ∧ addU sum b < 4294967296 := wrapU_lt _
end Go.Am
namespace Go.Am
def padS (b : ByteArray) : ByteArray := if b.size < 20 then b ++ bytesOf (20 - b.size) (fun _ _ => .int .u8 0) else b
theorem padS_size (b : ByteArray) (h : b.size ≤ 20) : (padS b).size = 20 := by
  unfold padS
  split
  · rw [ByteArray.size_append, bytesOf_size]; omega
  · omega
end Go.Am
namespace Go.Am
structure Rec where
  kind : Int
  block : Int
  version : Int
  move : Int
  payload : ByteArray
def Rec.s (r : Rec) : S := .a [.int .i64 r.kind, .int .i64 r.block, .int .i64 r.version, .int .i64 r.move, .str r.payload]
def checkR (r : Rec) : Int :=
  if decide (1 ≤ r.kind ∧ r.kind ≤ 6) then
    if decide (0 ≤ r.block ∧ r.block ≤ 4294967295 ∧ 0 ≤ r.version ∧ r.version ≤ 1099511627776 ∧ 0 ≤ r.move ∧ r.move ≤ 255) then
      if decide (r.payload.size ≤ 20 ∧ (r.kind = 1 → r.payload.size = 16) ∧ (r.kind = 2 → r.payload.size = 0)) then 0 else 2
    else 1
  else 3
/-- The bytes of a record, without the checksum. -/
def bodyR (r : Rec) : ByteArray :=
  ⟨#[90, 65]⟩ ++ putS r.kind 1 ++ putS r.payload.size 1 ++ putS r.block 4 ++ putS r.version 6 ++ putS r.move 1 ++ ⟨#[0]⟩ ++ padS r.payload
def encR (r : Rec) : ByteArray := if checkR r = 0 then bodyR r ++ putS (IntKind.i64.wrap (addU 0 (bodyR r))) 4 else ByteArray.empty
theorem checkR_ok {r : Rec} (h : checkR r = 0) : (1 ≤ r.kind ∧ r.kind ≤ 6) ∧ (0 ≤ r.block ∧ r.block ≤ 4294967295 ∧ 0 ≤ r.version ∧ r.version ≤ 1099511627776 ∧ 0 ≤ r.move ∧ r.move ≤ 255) ∧ r.payload.size ≤ 20 := by
  unfold checkR at h
  split at h
  · rename_i h1
    split at h
    · rename_i h2
      split at h
      · rename_i h3
        exact ⟨by simpa using h1, by simpa using h2, (by simpa using h3 : _ ∧ _).1⟩
      · cases h
    · cases h
  · cases h
theorem bodyR_size {r : Rec} (h : r.payload.size ≤ 20) : (bodyR r).size = 36 := by
  simp only [bodyR, ByteArray.size_append, putS_size, padS_size _ h]
  rfl
theorem encR_size {r : Rec} (h : checkR r = 0) : (encR r).size = 40 := by
  rw [encR, if_pos h, ByteArray.size_append, bodyR_size (checkR_ok h).2.2, putS_size]
theorem size0 {b : ByteArray} (h : b.size = 0) : b = ByteArray.empty := by
  cases b with
  | mk d =>
    have : d = #[] := by simpa [ByteArray.size] using h
    subst this
    rfl
end Go.Am
namespace Go.Am
theorem zoneAt_set (l : List Zone) (i a b : Nat) (z : Zone) (hi : i < l.length) : zoneAt (l.set i z) a b = if a = i then z.cell b else zoneAt l a b := by
  simp only [zoneAt]
  by_cases c : a = i
  · subst c
    simp [List.getD, hi]
  · rw [if_neg c]
    simp only [List.getD]
    rw [List.getElem?_set_ne (Ne.symm c)]
end Go.Am
namespace Go.Am
theorem RM.devS {H : List O} {d : Dev} {l : List Zone} {e n t : Nat} {g : Nat → Nat → C} {x : Bool} (id : Nat) (hid : getL H id = some (.arr e 3 n g)) (him : ∀ i, i < n → ∀ j, j < 3 → (g i j).imm = true)
    (ht : t = n) (hn : n = l.length) (hg : ∀ i, i < n → ∀ j, j < 3 → leF (g i j) (zoneAt l i j)) :
    RM 0 (.a [.int .i64 d.size, .int .i64 d.maxOpen, .int .i64 d.maxActive, .sl id 3 t t x]) H (({ d with zones := l } : Dev).s) [] := by
  subst ht
  exact RM.fz id hid (Nat.zero_le _) him (RM.wk 0 rfl (by cases (fzH id t g H) <;> trivial) (wkS.a ⟨wkC.imm rfl, wkC.imm rfl, wkC.imm rfl, wkC.fz rfl hn hg (fun e => by cases e), trivial⟩) (Nat.zero_le _))
/-- A row is laid over a copy. -/
theorem row_cells {L : List Zone} {k : Nat} {z : Zone} {c : C} {g0 : Nat → Nat → C} (hk : k < L.length) (hc : c = strsC z.sectors) (i j : Nat) (hj : j < 3) : updG (appG g0 0 (zoneAt L)) k 0 [.int .i64 z.state, .int .i64 z.durable, c] i j = zoneAt (L.set k z) i j := by
  subst hc
  rw [zoneAt_set L k i j z hk]
  simp only [updG, List.length_cons, List.length_nil, appG]
  by_cases h : i = k
  · rw [if_pos (by omega), if_pos h]
    match j, hj with
    | 0, _ => rfl
    | 1, _ => rfl
    | 2, _ => rfl
  · rw [if_neg (by omega), if_neg h, if_neg (by omega)]
    rfl
end Go.Am
namespace Go.Am
def roomD (d : Dev) (zone : Nat) : Dev := if (roomX d zone).1 = 0 then { d with zones := (roomX d zone).2 } else d
theorem shutAt_set (l : List Zone) (i : Nat) : shutAt l i = l.set i (shutZ (l.getD i default)) := rfl
theorem shutAt_state (l : List Zone) (i k : Nat) (hk : k < l.length) (hi : (l.getD i default).state = 1) (h : isOpen (l.getD k default).state = false) : (shutAt l i).getD k default = l.getD k default := by
  simp only [shutAt, List.getD]
  rw [List.getElem?_set_ne]
  intro e
  subst e
  rw [hi] at h
  simp [isOpen] at h
theorem firstOpen_state : ∀ (l : List Zone), firstOpen l < l.length → (l.getD (firstOpen l) default).state = 1
  | [], h => by simp at h
  | z :: r, h => by
    simp only [firstOpen] at h ⊢
    by_cases c : z.state = 1
    · rw [if_pos c]; simpa using c
    · rw [if_neg c] at h ⊢
      have := firstOpen_state r (by simpa using h)
      simpa using this
end Go.Am
namespace Go.Am
theorem app_cells2 (secs : List ByteArray) (s : ByteArray) (t : List C) (g0 : Nat → Nat → C) (i : Nat) (h : i < secs.length + 1) : appG (appG g0 0 (fun i _ => .str (secs.getD i ByteArray.empty))) secs.length (flatG 1 (.str s :: t)) i 0 = .str ((secs ++ [s]).getD i ByteArray.empty) := by
  have := app_cells secs s t i h
  simp only [appG] at this ⊢
  by_cases c : i < secs.length
  · rw [if_pos c] at this ⊢
    rw [if_neg (by omega)]
    exact this
  · rw [if_neg c] at this ⊢
    exact this
end Go.Am
end

section
namespace Go.Am
def modI (x n : Int) : Int := if n < 1 then 0 else (IntKind.i64.wrap (x.tmod n + n)).tmod n
theorem modI_range {x n : Int} (h : 1 ≤ n) (h' : n ≤ 4611686018427387904) : 0 ≤ modI x n ∧ modI x n < n := by
  unfold modI
  rw [if_neg (by omega)]
  have h1 := Int.tmod_lt_of_pos x (by omega : 0 < n)
  have h2 : -n < x.tmod n := by
    have := Int.neg_tmod x n
    have := Int.tmod_lt_of_pos (-x) (by omega : 0 < n)
    omega
  rw [wrap_id _ (by omega) (by omega)]
  exact ⟨Int.tmod_nonneg _ (by omega), Int.tmod_lt_of_pos _ (by omega)⟩
theorem modI_zero {x n : Int} (h : n < 1) : modI x n = 0 := if_pos h

/-- Dice: the numbers, and how many were given out. -/
structure DiceM where
  l : List Int
  at_ : Nat
def DiceM.rest (d : DiceM) : Int := (d.l.length : Int) - d.at_
def DiceM.next (d : DiceM) (n : Int) : Int := if d.l.length ≤ d.at_ then 0 else modI (d.l.getD d.at_ 0) n
def DiceM.step (d : DiceM) : DiceM := if d.l.length ≤ d.at_ then d else ⟨d.l, d.at_ + 1⟩
def DiceM.cells (d : DiceM) : List C := [intsC d.l, .int .i64 d.at_]
structure DiceM.ok (d : DiceM) : Prop where
  le : d.at_ ≤ d.l.length
  len : d.l.length ≤ 10000000
theorem DiceM.ok.step {d : DiceM} (h : d.ok) : d.step.ok := by
  unfold DiceM.step
  split
  · exact h
  · exact ⟨by dsimp only; omega, h.len⟩
theorem DiceM.next_range (d : DiceM) {n : Int} (h : 1 ≤ n) (h' : n ≤ 4611686018427387904) : 0 ≤ d.next n ∧ d.next n < n := by
  unfold DiceM.next
  split
  · omega
  · exact modI_range h h'
end Go.Am
namespace Go.Am
/-- How many sectors of each zone are volatile. -/
def volI (z : Zone) : Int := if z.durable < z.sectors.length then (z.sectors.length : Int) - max z.durable 0 else 0
def volL (l : List Zone) : List Int := l.map volI
theorem volL_get {l : List Zone} {k : Nat} (h : k < l.length) : (volL l).getD k default = volI (l.getD k default) := by simp [volL, List.getD, h]
@[simp] theorem volL_len (l : List Zone) : (volL l).length = l.length := by simp [volL]
theorem eqInts_snoc {l r : List Int} {k : Nat} (h : l.take k = r.take k) (h1 : k < l.length) (h2 : k < r.length) (he : l.getD k 0 = r.getD k 0) : l.take (k + 1) = r.take (k + 1) := by
  rw [List.take_succ_eq_append_getElem h1, List.take_succ_eq_append_getElem h2, h]
  simp [h1, h2] at he
  rw [he]
end Go.Am
namespace Go.Am
/-- A list that is made from its places. -/
def tabL {α : Type} (f : Nat → α) (n : Nat) : List α := (List.range n).map f
section
variable {α : Type} {f : Nat → α}
@[simp] theorem tabL_len (n : Nat) : (tabL f n).length = n := by simp [tabL]
@[simp] theorem tabL_zero : tabL f 0 = [] := rfl
theorem tabL_snoc (n : Nat) : tabL f (n + 1) = tabL f n ++ [f n] := by simp [tabL, List.range_succ]
theorem tabL_getD [Inhabited α] {n i : Nat} (h : i < n) : (tabL f n).getD i default = f i := by simp [tabL, List.getD, h]
end
theorem zoneAt_snoc {l : List Zone} {n : Nat} {x : Zone} (hn : n = l.length) {i j : Nat} (hi : i < l.length + 1) (hj : j < 3) : appG (zoneAt l) n (flatG 3 [.int .i64 x.state, .int .i64 x.durable, strsC x.sectors]) i j = zoneAt (l ++ [x]) i j :=
  rowG_snoc (f := Zone.cell) hn (fun j hj => by
    match j, hj with
    | 0, _ => rfl
    | 1, _ => rfl
    | 2, _ => rfl) hi hj
def syncZ (z : Zone) : Zone := { z with durable := z.sectors.length }
def keptN (z : Zone) (k : Int) : Int := z.durable + min (max k 0) (z.sectors.length - z.durable)
def crashZ (z : Zone) (k : Int) : Zone :=
  ⟨if z.state = 5 ∨ z.state = 4 then z.state else if keptN z k = 0 then 0 else 3, keptN z k, z.sectors.take (keptN z k).toNat⟩
def syncD (d : Dev) : Dev := if check d = 0 then { d with zones := d.zones.map syncZ } else dev0
def crashD (d : Dev) (keep : List Int) : Dev := if check d = 0 then { d with zones := tabL (fun i => crashZ (d.zones.getD i default) (keep.getD i 0)) d.zones.length } else dev0
theorem map_tabL {α β : Type} [Inhabited α] (f : α → β) (l : List α) : l.map f = tabL (fun i => f (l.getD i default)) l.length := by
  apply List.ext_getElem
  · simp
  · intro i h1 h2
    simp [tabL, List.getD, (by simpa using h1 : i < l.length)]
end Go.Am
namespace Go.Am
/-- A list of which the first k were changed. -/
def updI (f : Nat → Zone → Zone) (l : List Zone) (k : Nat) : List Zone := tabL (fun i => if i < k then f i (l.getD i default) else l.getD i default) l.length
def updL (f : Zone → Zone) (l : List Zone) (k : Nat) : List Zone := updI (fun _ => f) l k
variable {f : Nat → Zone → Zone} {l : List Zone}
@[simp] theorem updI_len (k : Nat) : (updI f l k).length = l.length := by simp [updI]
@[simp] theorem updL_len {f : Zone → Zone} (k : Nat) : (updL f l k).length = l.length := by simp [updL]
theorem tabL_id : tabL (fun i => l.getD i default) l.length = l := by
  rw [← map_tabL (fun z => z) l]; simp
theorem tabL_congr {α : Type} {f g : Nat → α} {n : Nat} (h : ∀ i, i < n → f i = g i) : tabL f n = tabL g n := by
  unfold tabL
  exact List.map_congr_left fun i hi => h i (by simpa using hi)
@[simp] theorem updI_zero : updI f l 0 = l := by
  conv => rhs; rw [← tabL_id (l := l)]
  exact tabL_congr fun i _ => by simp
@[simp] theorem updL_zero {f : Zone → Zone} : updL f l 0 = l := updI_zero
theorem updI_all : updI f l l.length = tabL (fun i => f i (l.getD i default)) l.length := tabL_congr fun i hi => by simp [hi]
theorem updL_all {f : Zone → Zone} : updL f l l.length = l.map f := by rw [updL, updI_all, map_tabL]
theorem updI_get {k i : Nat} (h : k ≤ i) (hi : i < l.length) : (updI f l k).getD i default = l.getD i default := by
  rw [updI, tabL_getD hi, if_neg (by omega)]
theorem updI_set {k : Nat} (h : k < l.length) : (updI f l k).set k (f k (l.getD k default)) = updI f l (k + 1) := by
  apply List.ext_getElem
  · simp
  · intro i h1 h2
    rw [List.getElem_set]
    have hi : i < l.length := by simpa using h2
    simp only [updI, tabL, List.getElem_map, List.getElem_range]
    by_cases c : k = i
    · subst c
      simp
    · rw [if_neg c]
      by_cases c2 : i < k
      · rw [if_pos c2, if_pos (by omega)]
      · rw [if_neg c2, if_neg (by omega)]
end Go.Am
namespace Go.Am
theorem zoneAt_dur {l : List Zone} {k : Nat} (hk : k < l.length) (du : Int) (i j : Nat) (hj : j < 3) : updG (zoneAt l) k 1 [.int .i64 du] i j = zoneAt (l.set k { l.getD k default with durable := du }) i j :=
  rowG_set (f := Zone.cell) hk (es := 3) (fun j hj => by
    match j, hj with
    | 0, _ => rfl
    | 1, _ => rfl
    | 2, _ => rfl) i j hj
theorem zoneAt_all {l : List Zone} {k : Nat} (hk : k < l.length) (st du : Int) (secs : List ByteArray) (i j : Nat) (hj : j < 3) : updG (zoneAt l) k 0 [.int .i64 st, .int .i64 du, strsC secs] i j = zoneAt (l.set k ⟨st, du, secs⟩) i j :=
  rowG_set (f := Zone.cell) hk (es := 3) (fun j hj => by
    match j, hj with
    | 0, _ => rfl
    | 1, _ => rfl
    | 2, _ => rfl) i j hj
end Go.Am
namespace Go.Am
/-- A zone with sectors of its own is laid into a row, and its sectors are frozen. -/
theorem fz_row {ρ : Nat → Nat} {n : Nat} {L : List Zone} {k id m : Nat} {st du : Int} {gs : Nat → Nat → C} {secs : List ByteArray} {x : Bool} (hk : k < L.length) (hm : m = secs.length) (hgs : ∀ a, a < m → gs a 0 = .str (secs.getD a ByteArray.empty)) (i j : Nat) (hj : j < 3) :
    WC ρ n (fzC id m gs (updG (zoneAt L) k 0 [.int .i64 st, .int .i64 du, .sl id 1 m m x] i j)) (zoneAt (L.set k ⟨st, du, secs⟩) i j) := by
  have hs : zoneAt (L.set k ⟨st, du, secs⟩) i j = if i = k then (Zone.cell ⟨st, du, secs⟩ j) else zoneAt L i j := zoneAt_set L k i j _ hk
  rw [hs]
  by_cases c : i = k
  · rw [if_pos c]
    have e : updG (zoneAt L) k 0 [.int .i64 st, .int .i64 du, .sl id 1 m m x] i j = lget [.int .i64 st, .int .i64 du, .sl id 1 m m x] j := by
      simp only [updG, List.length_cons, List.length_nil]
      rw [if_pos (by omega), Nat.sub_zero]
    rw [e]
    match j, hj with
    | 0, _ => exact WC.int rfl
    | 1, _ => exact WC.int rfl
    | 2, _ =>
      refine WC.fz rfl hm (fun a ha b hb => ?_) (fun e => by cases e)
      have : b = 0 := by omega
      subst this
      exact leF.of_eq (hgs a ha)
  · rw [if_neg c]
    have e : updG (zoneAt L) k 0 [.int .i64 st, .int .i64 du, .sl id 1 m m x] i j = zoneAt L i j := by
      simp only [updG]
      rw [if_neg (fun h => c h.1)]
    rw [e]
    exact WC.fzImm (zoneAt_imm _ _ _)
end Go.Am
namespace Go.Am
theorem take_getD {α : Type} {l : List α} {a n : Nat} {d : α} (h : a < n) : l.getD a d = (l.take n).getD a d := by simp [List.getD, List.getElem?_take, h]
end Go.Am
namespace Go.Am
def valueW (n : Int) (i : Nat) : Int := IntKind.u8.wrap (modI (IntKind.i64.wrap (n + IntKind.i64.wrap (i * n))) 251)
def valueB (n : Int) (i : Nat) : Int := if i = 0 then IntKind.u8.wrap (IntKind.i64.wrap (1 + modI n 255)) else valueW n i
def genG (f : Nat → Int) : Nat → Nat → C := fun i _ => .int .u8 (f i)
theorem genG_set {f : Nat → Int} {k : Nat} {v : Int} (i j : Nat) (hj : j < 1) : updG (genG f) k 0 [.int .u8 v] i j = genG (fun i => if i = k then v else f i) i j := by
  have : j = 0 := by omega
  subst this
  rw [updG_one]
  simp only [genG]
  split <;> rename_i h
  · rw [if_pos h.1]
  · rw [if_neg (fun e => h (by simp [e]))]
def valueS (n : Int) : ByteArray := bytesOf 16 (genG (valueB n))
theorem valueS_size (n : Int) : (valueS n).size = 16 := bytesOf_size _ _
def recD (d : DiceM) : DiceM := d.step.step.step
def recR (d : DiceM) (blocks version : Int) : Rec :=
  if d.step.step.next 4 = 3 then ⟨2, d.next blocks, version, 0, ByteArray.empty⟩ else ⟨1, d.next blocks, version, 0, valueS (d.step.next 200)⟩
end Go.Am
namespace Go.Am
def cmdN (d : DiceM) : Int := d.step.next 9
/-- The dice behind a command. -/
def cmdD (d : DiceM) (n : Int) : DiceM := if cmdN d = 0 ∨ cmdN d = 1 ∨ cmdN d = 2 ∨ cmdN d = 3 ∨ cmdN d = 4 then d.step.step else recD d.step.step.step
/-- The sector of a command. -/
def cmdS (d : DiceM) : ByteArray := encR (recR d.step.step.step 5 (IntKind.i64.wrap (1 + d.step.step.next 40)))
def cmdX (d : DiceM) (x : Dev) (n : Int) : Dev :=
  if cmdN d = 0 then resetD x (d.next n) else if cmdN d = 1 then finishD x (d.next n) else if cmdN d = 2 then openD x (d.next n) else if cmdN d = 3 then closeD x (d.next n)
  else if cmdN d = 4 then { x with zones := x.zones.map syncZ } else appendD x (d.next n) (cmdS d)
end Go.Am
namespace Go.Am
theorem zoneAt_st {l : List Zone} {k : Nat} (hk : k < l.length) (st : Int) (i j : Nat) (hj : j < 3) : updG (zoneAt l) k 0 [.int .i64 st] i j = zoneAt (l.set k { l.getD k default with state := st }) i j :=
  rowG_set (f := Zone.cell) hk (es := 3) (fun j hj => by
    match j, hj with
    | 0, _ => rfl
    | 1, _ => rfl
    | 2, _ => rfl) i j hj
end Go.Am
namespace Go.Am
theorem fz_secs {L : List Zone} {k id m : Nat} {gs : Nat → Nat → C} {secs : List ByteArray} {x : Bool} (hk : k < L.length) (hm : m = secs.length) (hgs : ∀ a, a < m → gs a 0 = .str (secs.getD a ByteArray.empty)) (i j : Nat) (hj : j < 3) :
    leF (fzC id m gs (updG (zoneAt L) k 2 [.sl id 1 m m x] i j)) (zoneAt (L.set k { L.getD k default with sectors := secs }) i j) ∧ (fzC id m gs (updG (zoneAt L) k 2 [.sl id 1 m m x] i j)).imm = true := by
  subst hm
  rw [zoneAt_set L k i j _ hk, updG_one]
  by_cases c : i = k ∧ j = 2
  · obtain ⟨rfl, rfl⟩ := c
    rw [if_pos rfl, if_pos ⟨rfl, rfl⟩, fzC_sl rfl]
    refine ⟨leF.isl rfl (fun a ha b hb => ?_) (fun e => by cases e), rfl⟩
    have : b = 0 := by omega
    subst this
    exact leF.of_eq (hgs a ha)
  · rw [if_neg c]
    have e : fzC id secs.length gs (zoneAt L i j) = zoneAt L i j := fzC_cell _ _ _ _ _
    rw [e]
    refine ⟨?_, zoneAt_imm _ _ _⟩
    by_cases c2 : i = k
    · subst c2
      rw [if_pos rfl]
      match j, hj with
      | 0, _ => exact leF.refl
      | 1, _ => exact leF.refl
      | 2, _ => exact absurd ⟨rfl, rfl⟩ c
    · rw [if_neg c2]
      exact leF.refl
end Go.Am
end

section
namespace Go.Am
/-! ### commands keep a device right -/
structure RightZ (z : Zone) (size : Int) : Prop where
  st : 0 ≤ z.state ∧ z.state ≤ 5
  len : (z.sectors.length : Int) ≤ size
  dur : 0 ≤ z.durable ∧ z.durable ≤ z.sectors.length
  emp : z.state = 0 ∨ z.state = 5 → z.sectors.length = 0
  full : z.state = 4 → z.durable = z.sectors.length
  part : z.state ≠ 0 → z.state ≠ 4 → z.state ≠ 5 → (z.sectors.length : Int) < size
  secs : ∀ s ∈ z.sectors, s.size = 40
theorem right_iff {z : Zone} {size : Int} : right z size = true ↔ RightZ z size := by
  simp only [right, Bool.and_eq_true, decide_eq_true_eq, secsOk, List.all_eq_true]
  constructor
  · rintro ⟨⟨h1, h2, h3, h4, h5, h6, h7, h8⟩, h9⟩
    exact ⟨⟨h1, h2⟩, h3, ⟨h4, h5⟩, h6, h7, h8, h9⟩
  · rintro ⟨⟨h1, h2⟩, h3, ⟨h4, h5⟩, h6, h7, h8, h9⟩
    exact ⟨⟨h1, h2, h3, h4, h5, h6, h7, h8⟩, h9⟩

theorem cnt_set (p : Zone → Bool) (z : Zone) : ∀ (l : List Zone) (i : Nat), i < l.length → ((l.set i z).filter p).length + (if p (l.getD i default) = true then 1 else 0) = (l.filter p).length + (if p z = true then 1 else 0)
  | [], i, h => by simp at h
  | x :: r, 0, _ => by
    simp only [List.set_cons_zero, List.filter_cons, List.getD_cons_zero]
    by_cases h1 : p x = true <;> by_cases h2 : p z = true <;> simp [h1, h2]
  | x :: r, i + 1, h => by
    have ih := cnt_set p z r i (by simpa using h)
    simp only [List.set_cons_succ, List.filter_cons, List.getD_cons_succ]
    by_cases h1 : p x = true
    · rw [if_pos h1, if_pos h1, List.length_cons, List.length_cons]; omega
    · rw [if_neg h1, if_neg h1]; exact ih
theorem cntOpen_set {l : List Zone} {i : Nat} (h : i < l.length) (z : Zone) : cntOpen (l.set i z) + (if isOpen (l.getD i default).state = true then 1 else 0) = cntOpen l + (if isOpen z.state = true then 1 else 0) := cnt_set (fun z => isOpen z.state) z l i h
theorem cntActive_set {l : List Zone} {i : Nat} (h : i < l.length) (z : Zone) : cntActive (l.set i z) + (if isActive (l.getD i default).state = true then 1 else 0) = cntActive l + (if isActive z.state = true then 1 else 0) := cnt_set (fun z => isActive z.state) z l i h

/-- The zones of a device are right. -/
def AllR (l : List Zone) (size : Int) : Prop := ∀ z ∈ l, RightZ z size
theorem Dev.ok.all {d : Dev} (h : d.ok) : AllR d.zones d.size := fun z hz => right_iff.1 (h.zones z hz)
theorem AllR.get {l : List Zone} {size : Int} (h : AllR l size) {i : Nat} (hi : i < l.length) : RightZ (l.getD i default) size := by
  rw [getD_eq _ _ hi]; exact h _ (List.getElem_mem hi)
theorem AllR.set {l : List Zone} {size : Int} (h : AllR l size) {i : Nat} {z : Zone} (hz : RightZ z size) : AllR (l.set i z) size := by
  intro x hx
  rcases List.mem_or_eq_of_mem_set hx with h1 | h1
  · exact h x h1
  · rw [h1]; exact hz
structure Dev.conf3 (d : Dev) : Prop where
  n : 1 ≤ d.zones.length ∧ d.zones.length ≤ 32
  size : 3 ≤ d.size ∧ d.size ≤ 64
  op : 1 ≤ d.maxOpen ∧ d.maxOpen ≤ d.maxActive ∧ d.maxActive ≤ d.zones.length
theorem confOk_iff {d : Dev} : confOk d = true ↔ d.conf3 := by
  simp only [confOk, decide_eq_true_eq]
  constructor
  · rintro ⟨h1, h2, h3, h4, h5, h6, h7⟩
    exact ⟨⟨h1, h2⟩, ⟨h3, h4⟩, h5, h6, h7⟩
  · rintro ⟨⟨h1, h2⟩, ⟨h3, h4⟩, h5, h6, h7⟩
    exact ⟨h1, h2, h3, h4, h5, h6, h7⟩
theorem Dev.ok.with {d : Dev} (h : d.ok) {l : List Zone} (hn : l.length = d.zones.length) (hr : AllR l d.size) (ho : (cntOpen l : Int) ≤ d.maxOpen) (ha : (cntActive l : Int) ≤ d.maxActive) : Dev.ok { d with zones := l } := by
  refine ⟨?_, fun z hz => right_iff.2 (hr z hz), ho, ha⟩
  have := confOk_iff.1 h.conf
  refine confOk_iff.2 ⟨?_, this.size, ?_⟩
  · dsimp only; rw [hn]; exact this.n
  · dsimp only; rw [hn]; exact this.op

theorem isOpen_iff {n : Int} : isOpen n = true ↔ n = 1 ∨ n = 2 := by simp [isOpen]
theorem isActive_iff {n : Int} : isActive n = true ↔ n = 1 ∨ n = 2 ∨ n = 3 := by simp [isActive]

theorem zone0_right {size : Int} (h : 0 ≤ size) : RightZ zone0 size := ⟨by decide, h, by decide, fun _ => rfl, fun h => (by cases h), fun h => absurd rfl h, fun s hs => (by cases hs)⟩
theorem reset_ok {d : Dev} (h : d.ok) (zone : Int) : (resetD d zone).ok := by
  unfold resetD
  split
  · rename_i he
    obtain ⟨_, h0, h1⟩ := beginE_zone he
    have hk : zone.toNat < d.zones.length := by omega
    have hc := confOk_iff.1 h.conf
    have e1 := cntOpen_set hk zone0
    have e2 := cntActive_set hk zone0
    have h1 := h.op
    have h2 := h.act
    rw [if_neg (show ¬ isOpen zone0.state = true by decide)] at e1
    rw [if_neg (show ¬ isActive zone0.state = true by decide)] at e2
    refine h.with (by simp) (h.all.set (zone0_right (by have := hc.size; omega))) ?_ ?_
    · split at e1 <;> omega
    · split at e2 <;> omega
  · exact h
theorem RightZ.fin {z : Zone} {size : Int} (h : RightZ z size) : RightZ (finishZ z) size := by
  unfold finishZ
  split
  · exact h
  · exact ⟨by dsimp only; omega, h.len, ⟨Int.natCast_nonneg _, Int.le_refl _⟩, fun e => by dsimp only at e; omega, fun _ => rfl, fun _ e => absurd rfl e, h.secs⟩
theorem fin_state (z : Zone) : (finishZ z).state = 4 := by
  unfold finishZ
  split
  · assumption
  · rfl
theorem finish_ok {d : Dev} (h : d.ok) (zone : Int) : (finishD d zone).ok := by
  unfold finishD
  split
  · rename_i he
    obtain ⟨_, h0, h1⟩ := beginE_zone he
    have hk : zone.toNat < d.zones.length := by omega
    have e1 := cntOpen_set hk (finishZ (d.zones.getD zone.toNat default))
    have e2 := cntActive_set hk (finishZ (d.zones.getD zone.toNat default))
    have h1 := h.op
    have h2 := h.act
    rw [fin_state] at e1 e2
    rw [if_neg (show ¬ isOpen 4 = true by decide)] at e1
    rw [if_neg (show ¬ isActive 4 = true by decide)] at e2
    refine h.with (by simp) (h.all.set (h.all.get hk).fin) ?_ ?_
    · split at e1 <;> omega
    · split at e2 <;> omega
  · exact h
theorem RightZ.shut {z : Zone} {size : Int} (h : RightZ z size) (ho : isOpen z.state = true) : RightZ (shutZ z) size := by
  have ho' := isOpen_iff.1 ho
  unfold shutZ
  by_cases c : z.sectors.length = 0
  · rw [if_pos c]
    exact ⟨by dsimp only; omega, h.len, h.dur, fun _ => c, fun e => (by cases e), fun e => absurd rfl e, h.secs⟩
  · rw [if_neg c]
    exact ⟨by dsimp only; omega, h.len, h.dur, fun e => by dsimp only at e; omega, fun e => (by cases e), fun _ _ _ => h.part (by omega) (by omega) (by omega), h.secs⟩
theorem shut_state (z : Zone) : isOpen (shutZ z).state = false ∧ ((shutZ z).state = 0 ∨ (shutZ z).state = 3) := by
  unfold shutZ
  split
  · exact ⟨rfl, .inl rfl⟩
  · exact ⟨rfl, .inr rfl⟩
theorem shutAt_cnt {l : List Zone} {i : Nat} (hi : i < l.length) (ho : isOpen (l.getD i default).state = true) : cntOpen (shutAt l i) + 1 = cntOpen l ∧ cntActive (shutAt l i) ≤ cntActive l := by
  have e1 := cntOpen_set hi (shutZ (l.getD i default))
  have e2 := cntActive_set hi (shutZ (l.getD i default))
  have hs := (shut_state (l.getD i default)).1
  rw [if_pos ho, if_neg (by rw [hs]; decide)] at e1
  have ha : isActive (l.getD i default).state = true := by
    have := isOpen_iff.1 ho
    exact isActive_iff.2 (by omega)
  rw [if_pos ha] at e2
  refine ⟨e1, ?_⟩
  have : cntActive (shutAt l i) + 1 = cntActive l + (if isActive (shutZ (l.getD i default)).state = true then 1 else 0) := e2
  split at this <;> omega
/-- What room makes of the zones. -/
structure RoomOk (d : Dev) (zone : Nat) (l : List Zone) : Prop where
  len : l.length = d.zones.length
  all : AllR l d.size
  op : (cntOpen l : Int) + 1 ≤ d.maxOpen
  act : (l.getD zone default).state = 3 ∧ (cntActive l : Int) ≤ d.maxActive ∨ (cntActive l : Int) + 1 ≤ d.maxActive
theorem room_ok {d : Dev} (h : d.ok) {zone : Nat} (hr : (roomX d zone).1 = 0) : RoomOk d zone (roomX d zone).2 := by
  have h1 := h.op
  have h2 := h.act
  by_cases c : d.maxOpen ≤ cntOpen d.zones
  · by_cases c2 : firstOpen d.zones < d.zones.length
    · have hs := firstOpen_state _ c2
      have ho : isOpen (d.zones.getD (firstOpen d.zones) default).state = true := isOpen_iff.2 (.inl hs)
      obtain ⟨e1, e2⟩ := shutAt_cnt c2 ho
      have e : roomX d zone = if ((shutAt d.zones (firstOpen d.zones)).getD zone default).state ≠ 3 ∧ d.maxActive ≤ cntActive (shutAt d.zones (firstOpen d.zones)) then (9, shutAt d.zones (firstOpen d.zones)) else (0, shutAt d.zones (firstOpen d.zones)) := by
        simp only [roomX]
        rw [if_pos c, if_pos c2]
      rw [e] at hr ⊢
      split at hr
      · cases hr
      · rename_i c3
        rw [if_neg c3]
        refine ⟨shutAt_len _ _, h.all.set ((h.all.get c2).shut ho), by dsimp only; omega, ?_⟩
        dsimp only
        by_cases c4 : ((shutAt d.zones (firstOpen d.zones)).getD zone default).state = 3
        · exact .inl ⟨c4, by omega⟩
        · right; omega
    · have e : roomX d zone = (8, d.zones) := by
        simp only [roomX]
        rw [if_pos c, if_neg c2]
      rw [e] at hr
      cases hr
  · have e : roomX d zone = if (d.zones.getD zone default).state ≠ 3 ∧ d.maxActive ≤ cntActive d.zones then (9, d.zones) else (0, d.zones) := by
      simp only [roomX]
      rw [if_neg c]
    rw [e] at hr ⊢
    split at hr
    · cases hr
    · rename_i c3
      rw [if_neg c3]
      refine ⟨rfl, h.all, by dsimp only; omega, ?_⟩
      dsimp only
      by_cases c4 : (d.zones.getD zone default).state = 3
      · exact .inl ⟨c4, by omega⟩
      · right; omega
/-- Opening leaves the counts within their bounds. -/
theorem openL_ok {d : Dev} (h : d.ok) {zone : Nat} (hk : zone < d.zones.length) (hr : isOpen (d.zones.getD zone default).state = true ∨ (roomX d zone).1 = 0) :
    (openL d zone).length = d.zones.length ∧ AllR (openL d zone) d.size ∧ (∀ z : Zone, (cntOpen ((openL d zone).set zone z) : Int) ≤ d.maxOpen) ∧ (∀ z : Zone, (cntActive ((openL d zone).set zone z) : Int) ≤ d.maxActive) := by
  have h1 := h.op
  have h2 := h.act
  unfold openL
  by_cases c : isOpen (d.zones.getD zone default).state = true
  · rw [if_pos c]
    have ha : isActive (d.zones.getD zone default).state = true := by
      have := isOpen_iff.1 c
      exact isActive_iff.2 (by omega)
    refine ⟨rfl, h.all, fun z => ?_, fun z => ?_⟩
    · have e := cntOpen_set hk z
      rw [if_pos c] at e
      split at e <;> omega
    · have e := cntActive_set hk z
      rw [if_pos ha] at e
      split at e <;> omega
  · rw [if_neg c]
    have hr0 := hr.resolve_left c
    have R := room_ok h hr0
    have hk' : zone < (roomX d zone).2.length := by rw [R.len]; exact hk
    refine ⟨R.len, R.all, fun z => ?_, fun z => ?_⟩
    · have e := cntOpen_set hk' z
      have := R.op
      split at e <;> split at e <;> omega
    · have e := cntActive_set hk' z
      rcases R.act with ⟨a1, a2⟩ | a1
      · rw [if_pos (isActive_iff.2 (by omega))] at e
        split at e <;> omega
      · split at e <;> split at e <;> omega

theorem openL_get (d : Dev) (zone k : Nat) : ((openL d zone).getD k default).sectors = (d.zones.getD k default).sectors := by
  unfold openL
  split
  · rfl
  · exact roomX_sectors d zone k
theorem openL_len (d : Dev) (zone : Nat) : (openL d zone).length = d.zones.length := by
  unfold openL
  split
  · rfl
  · exact roomX_len d zone
theorem shutAt_dur {l : List Zone} {i : Nat} (hi : i < l.length) (k : Nat) : ((shutAt l i).getD k default).durable = (l.getD k default).durable := by
  simp only [shutAt]
  by_cases c : k = i
  · subst c
    simp [List.getD, hi, shutZ]
  · simp only [List.getD]
    rw [List.getElem?_set_ne (Ne.symm c)]
theorem roomX_dur (d : Dev) (zone k : Nat) : ((roomX d zone).2.getD k default).durable = (d.zones.getD k default).durable := by
  simp only [roomX]
  split
  · rfl
  · rename_i l h
    have : (l.getD k default).durable = (d.zones.getD k default).durable := by
      split at h
      · split at h
        · rename_i h2
          cases h; exact shutAt_dur h2 _
        · cases h
      · cases h; rfl
    split <;> exact this
theorem openL_dur (d : Dev) (zone k : Nat) : ((openL d zone).getD k default).durable = (d.zones.getD k default).durable := by
  unfold openL
  split
  · rfl
  · exact roomX_dur d zone k

/-- What an opening needs. -/
theorem openE_zero {d : Dev} {zone : Int} (he : openE d zone = 0) : beginE d zone = 0 ∧ (d.zones.getD zone.toNat default).state ≠ 4 ∧ (isOpen (d.zones.getD zone.toNat default).state = true ∨ (roomX d zone.toNat).1 = 0) := by
  unfold openE at he
  split at he
  · rename_i h1
    split at he
    · cases he
    · rename_i h2
      split at he
      · exact ⟨h1, h2, .inl (by assumption)⟩
      · exact ⟨h1, h2, .inr he⟩
  · exact absurd he (by assumption)
theorem begin5 {d : Dev} {zone : Int} (h : beginE d zone = 0) : (d.zones.getD zone.toNat default).state ≠ 5 := by
  intro h5
  obtain ⟨hok, h0, h1⟩ := beginE_zone h
  have : beginE d zone = 6 := by
    simp only [beginE, check_ok.2 hok, if_pos, decide_eq_true (show 0 ≤ zone ∧ zone < d.zones.length from ⟨h0, h1⟩), if_pos h5]
  omega
theorem open_ok {d : Dev} (h : d.ok) (zone : Int) : (openD d zone).ok := by
  unfold openD
  split
  · rename_i he
    obtain ⟨hb, h4, hr⟩ := openE_zero he
    obtain ⟨_, h0, h1⟩ := beginE_zone hb
    have h5 := begin5 hb
    have hk : zone.toNat < d.zones.length := by omega
    obtain ⟨o1, o2, o3, o4⟩ := openL_ok h hk hr
    refine h.with (by simp [o1]) (o2.set ?_) (o3 _) (o4 _)
    have hz := h.all.get hk
    have hsz := (confOk_iff.1 h.conf).size
    have e := openL_get d zone.toNat zone.toNat
    have e2 := openL_dur d zone.toNat zone.toNat
    refine ⟨by dsimp only; omega, ?_, ?_, fun e => by dsimp only at e; omega, fun e => by dsimp only at e; omega, fun _ _ _ => ?_, ?_⟩
    · rw [e]; exact hz.len
    · rw [e, e2]; exact hz.dur
    · rw [e]
      by_cases c : (d.zones.getD zone.toNat default).state = 0
      · have := hz.emp (.inl c); omega
      · exact hz.part c h4 h5
    · rw [e]; exact hz.secs
  · exact h
theorem close_ok {d : Dev} (h : d.ok) (zone : Int) : (closeD d zone).ok := by
  unfold closeD
  split
  · rename_i he
    split
    · rename_i ho
      have hb : beginE d zone = 0 := by
        unfold closeE at he
        split at he
        · assumption
        · exact absurd he (by assumption)
      obtain ⟨_, h0, h1⟩ := beginE_zone hb
      have hk : zone.toNat < d.zones.length := by omega
      obtain ⟨e1, e2⟩ := shutAt_cnt hk ho
      have h1 := h.op
      have h2 := h.act
      exact h.with (shutAt_len _ _) (h.all.set ((h.all.get hk).shut ho)) (by omega) (by omega)
    · exact h
  · exact h
theorem appendE_zero {d : Dev} {zone : Int} {s : ByteArray} (he : appendE d zone s = 0) : beginE d zone = 0 ∧ s.size = 40 ∧ (d.zones.getD zone.toNat default).state ≠ 4 ∧ (isOpen (d.zones.getD zone.toNat default).state = true ∨ (roomX d zone.toNat).1 = 0) := by
  unfold appendE at he
  split at he
  · rename_i hc
    split at he
    · rename_i hr
      split at he
      · rename_i hs
        split at he
        · cases he
        · rename_i h5
          split at he
          · cases he
          · rename_i h4
            have hb : beginE d zone = 0 := by simp only [beginE, hc, if_pos, hr, if_neg h5]
            split at he
            · exact ⟨hb, hs, h4, .inl (by assumption)⟩
            · exact ⟨hb, hs, h4, .inr he⟩
      · cases he
    · cases he
  · exact absurd he (by assumption)
theorem append_ok {d : Dev} (h : d.ok) (zone : Int) (s : ByteArray) : (appendD d zone s).ok := by
  unfold appendD
  split
  · rename_i he
    obtain ⟨hb, hs, h4, hr⟩ := appendE_zero he
    obtain ⟨_, h0, h1⟩ := beginE_zone hb
    have h5 := begin5 hb
    have hk : zone.toNat < d.zones.length := by omega
    obtain ⟨o1, o2, o3, o4⟩ := openL_ok h hk hr
    refine h.with (by simp [o1]) (o2.set ?_) (o3 _) (o4 _)
    have hz := h.all.get hk
    have hsz := (confOk_iff.1 h.conf).size
    have e := openL_get d zone.toNat zone.toNat
    have e2 := openL_dur d zone.toNat zone.toNat
    have hlt : ((d.zones.getD zone.toNat default).sectors.length : Int) < d.size := by
      by_cases c : (d.zones.getD zone.toNat default).state = 0
      · have := hz.emp (.inl c); omega
      · exact hz.part c h4 h5
    have hsec : ∀ t ∈ ((openL d zone.toNat).getD zone.toNat default).sectors ++ [s], t.size = 40 := by
      intro t ht
      rcases List.mem_append.1 ht with ht | ht
      · rw [e] at ht; exact hz.secs t ht
      · rw [List.mem_singleton.1 ht]; exact hs
    have hd := hz.dur
    unfold grow
    split
    · rename_i hf
      rw [e] at hf
      refine ⟨by dsimp only; omega, ?_, ?_, fun e => by dsimp only at e; omega, fun _ => ?_, fun _ e => absurd rfl e, hsec⟩ <;> (dsimp only; rw [List.length_append, e]; simp only [List.length_cons, List.length_nil]; omega)
    · rename_i hf
      rw [e] at hf
      have hst : ∀ n : Int, (if isOpen n = true then n else 1) = 1 ∨ (if isOpen n = true then n else 1) = 2 := by
        intro n
        split
        · rename_i ho; exact isOpen_iff.1 ho
        · exact .inl rfl
      have hst := hst ((openL d zone.toNat).getD zone.toNat default).state
      refine ⟨by dsimp only; omega, ?_, ?_, fun e => by dsimp only at e; omega, fun e => by dsimp only at e; omega, fun _ _ _ => ?_, hsec⟩ <;> (dsimp only; rw [List.length_append, e]; try rw [e2]) <;> (simp only [List.length_cons, List.length_nil]; omega)
  · exact h
theorem sync_right {z : Zone} {size : Int} (h : RightZ z size) : RightZ (syncZ z) size :=
  ⟨h.st, h.len, ⟨Int.natCast_nonneg _, Int.le_refl _⟩, h.emp, fun _ => rfl, h.part, h.secs⟩
theorem sync_cnt (l : List Zone) : cntOpen (l.map syncZ) = cntOpen l ∧ cntActive (l.map syncZ) = cntActive l := by
  simp only [cntOpen, cntActive, List.filter_map, List.length_map]
  exact ⟨rfl, rfl⟩
theorem syncAll_ok {d : Dev} (h : d.ok) : Dev.ok { d with zones := d.zones.map syncZ } := by
  refine h.with (by simp) ?_ (by rw [(sync_cnt _).1]; exact h.op) (by rw [(sync_cnt _).2]; exact h.act)
  intro z hz
  obtain ⟨x, hx, rfl⟩ := List.mem_map.1 hz
  exact sync_right (h.all x hx)
theorem cmdX_ok {x : Dev} (h : x.ok) (d : DiceM) (n : Int) : (cmdX d x n).ok := by
  unfold cmdX
  split
  · exact reset_ok h _
  split
  · exact finish_ok h _
  split
  · exact open_ok h _
  split
  · exact close_ok h _
  split
  · exact syncAll_ok h
  · exact append_ok h _ _
theorem reset_len (d : Dev) (z : Int) : (resetD d z).zones.length = d.zones.length := by unfold resetD; split <;> simp
theorem finish_len (d : Dev) (z : Int) : (finishD d z).zones.length = d.zones.length := by unfold finishD; split <;> simp
theorem open_len (d : Dev) (z : Int) : (openD d z).zones.length = d.zones.length := by unfold openD; split <;> simp [openL_len]
theorem close_len (d : Dev) (z : Int) : (closeD d z).zones.length = d.zones.length := by
  unfold closeD
  split
  · split
    · exact shutAt_len _ _
    · rfl
  · rfl
theorem append_len (d : Dev) (z : Int) (s : ByteArray) : (appendD d z s).zones.length = d.zones.length := by unfold appendD; split <;> simp [openL_len]
theorem cmdX_len (x : Dev) (d : DiceM) (n : Int) : (cmdX d x n).zones.length = x.zones.length := by
  unfold cmdX
  split
  · exact reset_len _ _
  split
  · exact finish_len _ _
  split
  · exact open_len _ _
  split
  · exact close_len _ _
  split
  · simp
  · exact append_len _ _ _
end Go.Am
namespace Go.Am
def DiceM.left (d : DiceM) : Nat := d.l.length - d.at_
theorem step_left {d : DiceM} : d.step.left = d.left - 1 ∧ d.step.l = d.l := by
  unfold DiceM.step DiceM.left
  split
  · exact ⟨by omega, rfl⟩
  · exact ⟨by dsimp only; omega, rfl⟩
theorem cmdD_left (d : DiceM) (n : Int) (h : 0 < d.left) : (cmdD d n).left < d.left := by
  have h1 := (step_left (d := d)).1
  have h2 := (step_left (d := d.step)).1
  have h3 := (step_left (d := d.step.step)).1
  have h4 := (step_left (d := d.step.step.step)).1
  have h5 := (step_left (d := d.step.step.step.step)).1
  have h6 := (step_left (d := d.step.step.step.step.step)).1
  unfold cmdD
  split
  · omega
  · simp only [recD]; omega
theorem cmdD_ok {d : DiceM} (h : d.ok) (n : Int) : (cmdD d n).ok := by
  unfold cmdD
  split
  · exact h.step.step
  · exact h.step.step.step.step.step.step
/-- The device behind commands. -/
def devF : Nat → DiceM → Dev → Int → Dev
  | 0, _, x, _ => x
  | f + 1, d, x, n => if 0 < d.left then devF f (cmdD d n) (cmdX d x n) n else x
theorem devF_fuel : ∀ (f g : Nat) (d : DiceM) (x : Dev) (n : Int), d.left ≤ f → d.left ≤ g → devF f d x n = devF g d x n
  | 0, 0, _, _, _, _, _ => rfl
  | 0, g + 1, d, x, n, h, _ => by simp only [devF]; rw [if_neg (by omega)]
  | f + 1, 0, d, x, n, _, h => by simp only [devF]; rw [if_neg (by omega)]
  | f + 1, g + 1, d, x, n, h1, h2 => by
    simp only [devF]
    split
    · rename_i h
      have := cmdD_left d n h
      exact devF_fuel f g _ _ _ (by omega) (by omega)
    · rfl
def devN (d : DiceM) : Int := 2 + d.next 4
def devX0 (d : DiceM) : Dev := newX (devN d) (3 + d.step.next 3) (1 + d.step.step.next 2) 2
def deviceD (l : List Int) : Dev := devF l.length (DiceM.step (DiceM.step (DiceM.step ⟨l, 0⟩))) (devX0 ⟨l, 0⟩) (devN ⟨l, 0⟩)
theorem devN_range (d : DiceM) : 2 ≤ devN d ∧ devN d ≤ 5 := by
  have := d.next_range (n := 4) (by omega) (by omega)
  unfold devN; omega
theorem cnt_rep (p : Zone → Bool) (hp : p zone0 = false) (n : Nat) : ((List.replicate n zone0).filter p).length = 0 := by
  rw [List.length_eq_zero_iff, List.filter_eq_nil_iff]
  intro z hz
  rw [List.mem_replicate] at hz
  rw [hz.2, hp]
  decide
theorem new_ok {zones size op act : Int} (h1 : 1 ≤ zones) (h2 : zones ≤ 32) (h3 : 3 ≤ size) (h4 : size ≤ 64) (h5 : 1 ≤ op) (h6 : op ≤ act) (h7 : act ≤ zones) : (newX zones size op act).ok := by
  refine ⟨confOk_iff.2 ⟨?_, ⟨h3, h4⟩, h5, h6, ?_⟩, fun z hz => ?_, ?_, ?_⟩
  · simp only [newX, List.length_replicate]; omega
  · simp only [newX, List.length_replicate]; omega
  · simp only [newX, List.mem_replicate] at hz
    rw [hz.2]
    exact right_iff.2 (zone0_right (by simp only [newX]; omega))
  · have : cntOpen (newX zones size op act).zones = 0 := cnt_rep _ (by decide) _
    rw [this]; simp only [newX]; omega
  · have : cntActive (newX zones size op act).zones = 0 := cnt_rep _ (by decide) _
    rw [this]; simp only [newX]; omega
theorem devX0_ok (d : DiceM) : (devX0 d).ok ∧ ((devX0 d).zones.length : Int) = devN d := by
  have h1 := devN_range d
  have h2 := d.step.next_range (n := 3) (by omega) (by omega)
  have h3 := d.step.step.next_range (n := 2) (by omega) (by omega)
  refine ⟨new_ok (by omega) (by omega) (by omega) (by omega) (by omega) (by omega) (by omega), ?_⟩
  simp only [devX0, newX, List.length_replicate]; omega
theorem devF_ok : ∀ (f : Nat) (d : DiceM) (x : Dev) (n : Int), x.ok → (devF f d x n).ok ∧ (devF f d x n).zones.length = x.zones.length
  | 0, _, x, _, h => ⟨h, rfl⟩
  | f + 1, d, x, n, h => by
    simp only [devF]
    split
    · obtain ⟨h1, h2⟩ := devF_ok f (cmdD d n) (cmdX d x n) n (cmdX_ok h d n)
      exact ⟨h1, h2.trans (cmdX_len x d n)⟩
    · exact ⟨h, rfl⟩
theorem deviceD_ok (l : List Int) : (deviceD l).ok ∧ ((deviceD l).zones.length : Int) = devN ⟨l, 0⟩ := by
  obtain ⟨h1, h2⟩ := devX0_ok ⟨l, 0⟩
  obtain ⟨h3, h4⟩ := devF_ok l.length (DiceM.step (DiceM.step (DiceM.step ⟨l, 0⟩))) _ (devN ⟨l, 0⟩) h1
  exact ⟨h3, by rw [deviceD, h4]; exact h2⟩
/-- A device in which one thing is changed. -/
def oddD (x : Dev) (what at_ by_ : Int) : Dev :=
  if x.zones.length = 0 then x else
    let k := (modI at_ x.zones.length).toNat
    let z := x.zones.getD k default
    let m := modI what 9
    if m = 0 then { x with zones := x.zones.set k { z with state := IntKind.i64.wrap (modI by_ 8 - 1) } }
    else if m = 1 then { x with zones := x.zones.set k { z with durable := IntKind.i64.wrap (IntKind.i64.wrap (z.durable + modI by_ 5) - 2) } }
    else if m = 2 then { x with zones := x.zones.set k { z with sectors := z.sectors ++ [⟨#[120]⟩] } }
    else if m = 3 then { x with size := IntKind.i64.wrap (IntKind.i64.wrap (x.size + modI by_ 5) - 2) }
    else if m = 4 then { x with maxOpen := modI by_ 5 }
    else if m = 5 then { x with maxActive := modI by_ 6 }
    else if m = 6 then { x with zones := [] }
    else if m = 7 then { x with zones := x.zones.set k ⟨5, 0, []⟩ }
    else x
end Go.Am
namespace Go.Am
/-- All whole numbers of a device fit. -/
structure Zone.fits (z : Zone) : Prop where
  st : -9223372036854775808 ≤ z.state ∧ z.state ≤ 9223372036854775807
  du : -9223372036854775808 ≤ z.durable ∧ z.durable ≤ 9223372036854775807
def Dev.dur (d : Dev) : Prop := ∀ i, (d.zones.getD i default).durable ≤ 9223372036854775807
theorem default_dur : (default : Zone).durable ≤ 9223372036854775807 := by decide
theorem Dev.ok.dur {d : Dev} (h : d.ok) : d.dur := by
  intro i
  by_cases hi : i < d.zones.length
  · have h1 := (h.all.get hi).dur
    have h2 := h.small.s i
    omega
  · have : d.zones.getD i default = default := by simp [List.getD, Nat.le_of_not_lt hi]
    rw [this]
    exact default_dur
theorem dur_set {l : List Zone} (h : ∀ i, (l.getD i default).durable ≤ 9223372036854775807) {k : Nat} {z : Zone} (hz : z.durable ≤ 9223372036854775807) (i : Nat) : ((l.set k z).getD i default).durable ≤ 9223372036854775807 := by
  by_cases c : i = k
  · subst c
    by_cases hi : i < l.length
    · have : (l.set i z).getD i default = z := by simp [List.getD, hi]
      rw [this]; exact hz
    · rw [List.set_eq_of_length_le (by omega)]; exact h i
  · have : (l.set k z).getD i default = l.getD i default := by
      simp only [List.getD]
      rw [List.getElem?_set_ne (Ne.symm c)]
    rw [this]; exact h i
theorem sec_set {l : List Zone} (h : ∀ i, (l.getD i default).sectors.length ≤ 10000000) {k : Nat} {z : Zone} (hz : z.sectors.length ≤ 10000000) (i : Nat) : ((l.set k z).getD i default).sectors.length ≤ 10000000 := by
  by_cases c : i = k
  · subst c
    by_cases hi : i < l.length
    · have : (l.set i z).getD i default = z := by simp [List.getD, hi]
      rw [this]; exact hz
    · rw [List.set_eq_of_length_le (by omega)]; exact h i
  · have : (l.set k z).getD i default = l.getD i default := by
      simp only [List.getD]
      rw [List.getElem?_set_ne (Ne.symm c)]
    rw [this]; exact h i
theorem wrap_le (x : Int) : IntKind.i64.wrap x ≤ 9223372036854775807 := by
  rw [IntKind.wrap_i64]; omega
theorem odd_fit {x : Dev} (h : x.ok) (what at_ by_ : Int) : (oddD x what at_ by_).small ∧ (oddD x what at_ by_).dur := by
  have hs := h.small
  have hd := h.dur
  have hsec : ∀ i, (x.zones.getD i default).sectors.length ≤ 64 := by
    intro i
    by_cases hi : i < x.zones.length
    · have h1 := (h.all.get hi).len
      have h2 := (confOk_iff.1 h.conf).size
      omega
    · have : x.zones.getD i default = default := by simp [List.getD, Nat.le_of_not_lt hi]
      rw [this]; exact Nat.zero_le _
  have hz := hs.z
  have key : ∀ (k : Nat) (z : Zone), z.sectors.length ≤ 10000000 → z.durable ≤ 9223372036854775807 → Dev.small { x with zones := x.zones.set k z } ∧ Dev.dur { x with zones := x.zones.set k z } := fun k z h1 h2 =>
    ⟨⟨by simpa using hz, sec_set hs.s h1⟩, dur_set hd h2⟩
  have same : ∀ a b c : Int, Dev.small ⟨a, b, c, x.zones⟩ ∧ Dev.dur ⟨a, b, c, x.zones⟩ := fun _ _ _ => ⟨⟨hz, hs.s⟩, hd⟩
  unfold oddD
  split
  · exact ⟨hs, hd⟩
  · dsimp only
    repeat' split
    · exact key _ _ (hs.s _) (hd _)
    · exact key _ _ (hs.s _) (wrap_le _)
    · refine key _ _ ?_ (hd _)
      have := hsec (modI at_ x.zones.length).toNat
      simp only [List.length_append, List.length_cons, List.length_nil]; omega
    · exact same _ _ _
    · exact same _ _ _
    · exact same _ _ _
    · exact ⟨⟨Nat.zero_le _, fun i => (by simp [List.getD]; exact Nat.zero_le _)⟩, fun i => (by simp [List.getD]; exact default_dur)⟩
    · exact key _ _ (Nat.zero_le _) (by decide)
    · exact ⟨hs, hd⟩

end Go.Am
end

section
namespace Go.Am
theorem kept_range {z : Zone} (h : 0 ≤ z.durable ∧ z.durable ≤ z.sectors.length) (k : Int) : z.durable ≤ keptN z k ∧ keptN z k ≤ z.sectors.length := by
  unfold keptN; omega
theorem crash_len {z : Zone} (h : 0 ≤ z.durable ∧ z.durable ≤ z.sectors.length) (k : Int) : ((crashZ z k).sectors.length : Int) = keptN z k := by
  have := kept_range h k
  simp only [crashZ, List.length_take]; omega
theorem crashZ_right {z : Zone} {size : Int} (h : RightZ z size) (k : Int) : RightZ (crashZ z k) size := by
  have hk := kept_range h.dur k
  have hl := crash_len h.dur k
  have h1 := h.dur
  have h2 := h.len
  have hst : (crashZ z k).state = if z.state = 5 ∨ z.state = 4 then z.state else if keptN z k = 0 then 0 else 3 := rfl
  have hd : (crashZ z k).durable = keptN z k := rfl
  have h3 := h.st
  refine ⟨?_, by omega, by omega, ?_, fun _ => by omega, ?_, ?_⟩
  · rw [hst]; split
    · exact h3
    · split <;> omega
  · rw [hst]
    intro e
    split at e
    · have := h.emp (by omega); omega
    · split at e <;> omega
  · rw [hst]
    intro e1 e2 e3
    split at e1
    · omega
    · rename_i c
      have hne : keptN z k ≠ 0 := by
        intro e; rw [if_pos e] at e1; exact e1 rfl
      have : z.state ≠ 0 := by
        intro e
        have := h.emp (.inl e); omega
      have := h.part this (by omega) (by omega)
      omega
  · intro s hs
    exact h.secs s (List.mem_of_mem_take hs)
theorem crashZ_open (z : Zone) (k : Int) : isOpen (crashZ z k).state = false := by
  have hst : (crashZ z k).state = if z.state = 5 ∨ z.state = 4 then z.state else if keptN z k = 0 then 0 else 3 := rfl
  rw [hst]
  simp only [isOpen, decide_eq_false_iff_not]
  split
  · omega
  · split <;> omega
theorem crashZ_active {z : Zone} {size : Int} (h : RightZ z size) (k : Int) (ha : isActive (crashZ z k).state = true) : isActive z.state = true := by
  have hst : (crashZ z k).state = if z.state = 5 ∨ z.state = 4 then z.state else if keptN z k = 0 then 0 else 3 := rfl
  rw [hst] at ha
  have ha := isActive_iff.1 ha
  have h3 := h.st
  have hk := kept_range h.dur k
  have h1 := h.dur
  refine isActive_iff.2 ?_
  split at ha
  · omega
  · split at ha
    · omega
    · rename_i c1 c2
      have : z.state ≠ 0 := by
        intro e
        have := h.emp (.inl e); omega
      omega
/-- What a crash makes of the zones. -/
def crashL (l : List Zone) (keep : List Int) : List Zone := tabL (fun i => crashZ (l.getD i default) (keep.getD i 0)) l.length
@[simp] theorem crashL_len (l : List Zone) (keep : List Int) : (crashL l keep).length = l.length := by simp [crashL]
theorem crashL_get {l : List Zone} {keep : List Int} {i : Nat} (h : i < l.length) : (crashL l keep).getD i default = crashZ (l.getD i default) (keep.getD i 0) := by
  rw [crashL, tabL_getD h]
theorem crashL_cons (z : Zone) (r : List Zone) (keep : List Int) : crashL (z :: r) keep = crashZ z (keep.getD 0 0) :: crashL r keep.tail := by
  simp only [crashL, tabL, List.length_cons]
  rw [List.range_succ_eq_map]
  simp only [List.map_cons, List.getD_cons_zero, List.map_map]
  congr 1
  refine List.map_congr_left fun i _ => ?_
  simp only [Function.comp, List.getD_cons_succ]
  congr 1
  cases keep <;> simp
theorem crash_cnt : ∀ (l : List Zone) (keep : List Int) {size : Int}, AllR l size → cntOpen (crashL l keep) = 0 ∧ cntActive (crashL l keep) ≤ cntActive l
  | [], _, _, _ => ⟨rfl, Nat.le_refl _⟩
  | z :: r, keep, size, h => by
    obtain ⟨h1, h2⟩ := crash_cnt r keep.tail (fun x hx => h x (by simp [hx]))
    rw [crashL_cons]
    have hz := h z (by simp)
    have ho := crashZ_open z (keep.getD 0 0)
    have ha := crashZ_active hz (keep.getD 0 0)
    simp only [cntOpen, cntActive, List.filter_cons] at h1 h2 ⊢
    constructor
    · rw [if_neg (by rw [ho]; decide)]; exact h1
    · by_cases c : isActive (crashZ z (keep.getD 0 0)).state = true
      · rw [if_pos c, if_pos (ha c), List.length_cons, List.length_cons]; omega
      · rw [if_neg c]
        split
        · rw [List.length_cons]; omega
        · exact h2
theorem crash_all {l : List Zone} {size : Int} (h : AllR l size) (keep : List Int) : AllR (crashL l keep) size := by
  intro z hz
  simp only [crashL, tabL, List.mem_map, List.mem_range] at hz
  obtain ⟨i, hi, rfl⟩ := hz
  exact crashZ_right (h.get hi) _
theorem crashD_eq {d : Dev} (h : d.ok) (keep : List Int) : crashD d keep = { d with zones := crashL d.zones keep } := by
  simp only [crashD, check_ok.2 h]; rfl
theorem crash_ok {d : Dev} (h : d.ok) (keep : List Int) : (crashD d keep).ok := by
  rw [crashD_eq h]
  have h1 := h.op
  have h2 := h.act
  obtain ⟨c1, c2⟩ := crash_cnt d.zones keep h.all
  exact h.with (by simp) (crash_all h.all keep) (by have := (confOk_iff.1 h.conf).op; omega) (by omega)
theorem crashZ_twice {z : Zone} {size : Int} (h : RightZ z size) (k m : Int) : crashZ (crashZ z k) m = crashZ z k := by
  have hk := kept_range h.dur k
  have hl := crash_len h.dur k
  have h1 := h.dur
  have e : keptN (crashZ z k) m = keptN z k := by
    have hd : (crashZ z k).durable = keptN z k := rfl
    simp only [keptN] at hk hl ⊢
    rw [show (crashZ z k).durable = _ from hd, hl]
    simp only [keptN]; omega
  have hst : (crashZ z k).state = if z.state = 5 ∨ z.state = 4 then z.state else if keptN z k = 0 then 0 else 3 := rfl
  have e1 : (if (crashZ z k).state = 5 ∨ (crashZ z k).state = 4 then (crashZ z k).state else if keptN (crashZ z k) m = 0 then 0 else 3) = (crashZ z k).state := by
    rw [e, hst]
    split
    · rfl
    · split
      · rfl
      · rfl
  have e2 : (crashZ z k).sectors.take (keptN (crashZ z k) m).toNat = (crashZ z k).sectors := by
    rw [e]
    exact List.take_of_length_le (by omega)
  show Zone.mk _ _ _ = _
  rw [e1, e2, e]
  rfl
theorem crashL_twice {l : List Zone} {size : Int} (h : AllR l size) (keep more : List Int) : crashL (crashL l keep) more = crashL l keep := by
  apply List.ext_getElem
  · simp
  · intro i h1 h2
    have hi : i < l.length := by simpa using h2
    have e1 : (crashL (crashL l keep) more)[i] = (crashL (crashL l keep) more).getD i default := by simp [List.getD, hi]
    have e2 : (crashL l keep)[i] = (crashL l keep).getD i default := by simp [List.getD, hi]
    rw [e1, e2, crashL_get (by simpa using hi), crashL_get hi, crashZ_twice (h.get hi)]
theorem crash_twice {d : Dev} (h : d.ok) (keep more : List Int) : crashD (crashD d keep) more = crashD d keep := by
  rw [crashD_eq (crash_ok h keep), crashD_eq h]
  dsimp only
  rw [crashL_twice h.all]
theorem syncD_eq {d : Dev} (h : d.ok) : syncD d = { d with zones := d.zones.map syncZ } := by
  simp only [syncD, check_ok.2 h]; rfl
theorem sync_ok {d : Dev} (h : d.ok) : (syncD d).ok := by
  rw [syncD_eq h]; exact syncAll_ok h
theorem sync_twice {d : Dev} (h : d.ok) : syncD (syncD d) = syncD d := by
  rw [syncD_eq (sync_ok h), syncD_eq h]
  dsimp only
  rw [List.map_map]
  rfl
theorem map_get {f : Zone → Zone} {l : List Zone} {i : Nat} (h : i < l.length) : (l.map f).getD i default = f (l.getD i default) := by simp [List.getD, h]
theorem sync_crash_len {d : Dev} (h : d.ok) (keep : List Int) {i : Nat} (hi : i < d.zones.length) : (((crashD (syncD d) keep).zones.getD i default).sectors.length : Int) = (d.zones.getD i default).sectors.length := by
  rw [crashD_eq (sync_ok h), syncD_eq h]
  dsimp only
  rw [crashL_get (by simpa using hi), map_get hi]
  have hr := (sync_right (h.all.get hi))
  rw [crash_len hr.dur]
  have h1 := (h.all.get hi).dur
  simp only [keptN, syncZ]; omega
theorem crash_get {d : Dev} (h : d.ok) (keep : List Int) {i : Nat} (hi : i < d.zones.length) : (crashD d keep).zones.getD i default = crashZ (d.zones.getD i default) (keep.getD i 0) := by
  rw [crashD_eq h]; exact crashL_get hi
theorem crashD_len {d : Dev} (h : d.ok) (keep : List Int) : (crashD d keep).zones.length = d.zones.length := by rw [crashD_eq h]; simp
theorem syncD_len {d : Dev} (h : d.ok) : (syncD d).zones.length = d.zones.length := by rw [syncD_eq h]; simp
end Go.Am
namespace Go.Am
theorem append_getD {α : Type} {l r : List α} {o : Nat} {d : α} (h : o < l.length) : (l ++ r).getD o d = l.getD o d := by
  simp only [List.getD]
  rw [List.getElem?_append_left h]
theorem room_err {d : Dev} (h : d.ok) (zone : Nat) : ((roomX d zone).1 = 8 → (cntOpen d.zones : Int) = d.maxOpen) ∧ ((roomX d zone).1 = 9 → d.maxActive ≤ cntActive d.zones) := by
  have h1 := h.op
  by_cases c : d.maxOpen ≤ cntOpen d.zones
  · refine ⟨fun _ => by omega, fun h9 => ?_⟩
    by_cases c2 : firstOpen d.zones < d.zones.length
    · have hs := firstOpen_state _ c2
      have ho : isOpen (d.zones.getD (firstOpen d.zones) default).state = true := isOpen_iff.2 (.inl hs)
      obtain ⟨e1, e2⟩ := shutAt_cnt c2 ho
      have e : roomX d zone = if ((shutAt d.zones (firstOpen d.zones)).getD zone default).state ≠ 3 ∧ d.maxActive ≤ cntActive (shutAt d.zones (firstOpen d.zones)) then (9, shutAt d.zones (firstOpen d.zones)) else (0, shutAt d.zones (firstOpen d.zones)) := by
        simp only [roomX]
        rw [if_pos c, if_pos c2]
      rw [e] at h9
      split at h9
      · omega
      · cases h9
    · have e : roomX d zone = (8, d.zones) := by
        simp only [roomX]
        rw [if_pos c, if_neg c2]
      rw [e] at h9
      cases h9
  · have e : roomX d zone = if (d.zones.getD zone default).state ≠ 3 ∧ d.maxActive ≤ cntActive d.zones then (9, d.zones) else (0, d.zones) := by
      simp only [roomX]
      rw [if_neg c]
    rw [e]
    split
    · rename_i c3
      exact ⟨fun e => (by cases e), fun _ => c3.2⟩
    · exact ⟨fun e => (by cases e), fun e => (by cases e)⟩
theorem begin_vals {d : Dev} (h : d.ok) (z : Int) : beginE d z = 0 ∨ beginE d z = 5 ∨ beginE d z = 6 := by
  simp only [beginE, check_ok.2 h, if_pos]
  split
  · split
    · exact .inr (.inr rfl)
    · exact .inl rfl
  · exact .inr (.inl rfl)
theorem openE_err {d : Dev} (h : d.ok) (z : Int) : (openE d z = 8 → (cntOpen d.zones : Int) = d.maxOpen) ∧ (openE d z = 9 → d.maxActive ≤ cntActive d.zones) := by
  obtain ⟨r1, r2⟩ := room_err h z.toNat
  have hb := begin_vals h z
  unfold openE
  split
  · split
    · exact ⟨fun e => (by cases e), fun e => (by cases e)⟩
    · split
      · exact ⟨fun e => (by cases e), fun e => (by cases e)⟩
      · exact ⟨r1, r2⟩
  · exact ⟨fun e => (by omega), fun e => (by omega)⟩
theorem appendE_err {d : Dev} (h : d.ok) (z : Int) (s : ByteArray) : (appendE d z s = 8 → (cntOpen d.zones : Int) = d.maxOpen) ∧ (appendE d z s = 9 → d.maxActive ≤ cntActive d.zones) := by
  obtain ⟨r1, r2⟩ := room_err h z.toNat
  simp only [appendE, check_ok.2 h, if_pos]
  split
  · split
    · split
      · exact ⟨fun e => (by cases e), fun e => (by cases e)⟩
      · split
        · exact ⟨fun e => (by cases e), fun e => (by cases e)⟩
        · split
          · exact ⟨fun e => (by cases e), fun e => (by cases e)⟩
          · exact ⟨r1, r2⟩
    · exact ⟨fun e => (by cases e), fun e => (by cases e)⟩
  · exact ⟨fun e => (by cases e), fun e => (by cases e)⟩
theorem closeE_vals {d : Dev} (h : d.ok) (z : Int) : closeE d z = 0 ∨ closeE d z = 5 ∨ closeE d z = 6 := by
  have hb := begin_vals h z
  unfold closeE
  split
  · split
    · exact .inl rfl
    · exact .inr (.inr rfl)
  · exact hb
theorem open_le_active : ∀ l : List Zone, cntOpen l ≤ cntActive l
  | [] => Nat.le_refl _
  | z :: r => by
    have ih := open_le_active r
    simp only [cntOpen, cntActive, List.filter_cons] at ih ⊢
    by_cases c : isOpen z.state = true
    · have : isActive z.state = true := by
        have := isOpen_iff.1 c
        exact isActive_iff.2 (by omega)
      rw [if_pos c, if_pos this, List.length_cons, List.length_cons]; omega
    · rw [if_neg c]
      split
      · rw [List.length_cons]; omega
      · exact ih

/-- A zone that is filled, and its device. -/
def fillZ (n : Int) (secs : List ByteArray) : Zone := if secs.length = 0 then zone0 else if (secs.length : Int) = n then ⟨4, n, secs⟩ else ⟨1, 0, secs⟩
def fillD (n : Int) (z : Nat) (secs : List ByteArray) : Dev := ⟨n, 1, 2, (List.replicate 4 zone0).set z (fillZ n secs)⟩
theorem fillZ_sec (n : Int) (secs : List ByteArray) : (fillZ n secs).sectors = secs := by
  unfold fillZ
  split
  · rename_i h
    exact (List.length_eq_zero_iff.1 h).symm
  · split <;> rfl
theorem fillZ_right {n : Int} (hn : 3 ≤ n) {secs : List ByteArray} (hl : (secs.length : Int) ≤ n) (h : ∀ s ∈ secs, s.size = 40) : RightZ (fillZ n secs) n := by
  unfold fillZ
  split
  · exact zone0_right (by omega)
  · split
    · exact ⟨⟨by dsimp only; omega, by dsimp only; omega⟩, hl, by dsimp only; omega, fun e => by dsimp only at e; omega, fun _ => by dsimp only; omega, fun _ e => absurd rfl e, h⟩
    · exact ⟨⟨by dsimp only; omega, by dsimp only; omega⟩, hl, by dsimp only; omega, fun e => by dsimp only at e; omega, fun e => (by cases e), fun _ _ _ => by dsimp only; omega, h⟩
theorem fillD_get {n : Int} {z : Nat} (hz : z < 4) (secs : List ByteArray) : (fillD n z secs).zones.getD z default = fillZ n secs := by
  simp [fillD, List.getD, hz]
theorem cnt_fill (p : Zone → Bool) (hp : p zone0 = false) {z : Nat} (hz : z < 4) (x : Zone) : (((List.replicate 4 zone0).set z x).filter p).length = if p x = true then 1 else 0 := by
  have e := cnt_set p x (List.replicate 4 zone0) z (by simpa using hz)
  have e0 : (List.replicate 4 zone0).getD z default = zone0 := by
    rw [getD_eq _ _ (by simpa using hz)]
    exact List.getElem_replicate ..
  rw [e0, cnt_rep p hp, hp, if_neg (by decide)] at e
  omega
theorem fillD_ok {n : Int} (hn : 3 ≤ n ∧ n ≤ 64) {z : Nat} (hz : z < 4) {secs : List ByteArray} (hl : (secs.length : Int) ≤ n) (h : ∀ s ∈ secs, s.size = 40) : (fillD n z secs).ok := by
  refine ⟨confOk_iff.2 ⟨by simp [fillD], hn, by simp [fillD]⟩, fun x hx => ?_, ?_, ?_⟩
  · refine right_iff.2 ?_
    rcases List.mem_or_eq_of_mem_set hx with h1 | h1
    · rw [(List.mem_replicate.1 h1).2]; exact zone0_right (by simp only [fillD]; omega)
    · rw [h1]; exact fillZ_right hn.1 hl h
  · have : cntOpen (fillD n z secs).zones = _ := cnt_fill (fun z => isOpen z.state) (by decide) hz _
    rw [this]
    show ((_ : Nat) : Int) ≤ 1
    split <;> decide
  · have : cntActive (fillD n z secs).zones = _ := cnt_fill (fun z => isActive z.state) (by decide) hz _
    rw [this]
    show ((_ : Nat) : Int) ≤ 2
    split <;> decide
theorem fillD_zero (n : Int) (z : Nat) (hz : z < 4) : fillD n z [] = newX 4 n 1 2 := by
  simp only [fillD, newX, fillZ, List.length_nil, if_pos]
  congr 1
  match z, hz with
  | 0, _ => rfl
  | 1, _ => rfl
  | 2, _ => rfl
  | 3, _ => rfl
theorem fillD_append {n : Int} (hn : 3 ≤ n ∧ n ≤ 64) {z : Nat} (hz : z < 4) {secs : List ByteArray} (hl : (secs.length : Int) < n) (h : ∀ s ∈ secs, s.size = 40) {s : ByteArray} (hs : s.size = 40) :
    appendE (fillD n z secs) z s = 0 ∧ appendI (fillD n z secs) z s = secs.length ∧ appendD (fillD n z secs) z s = fillD n z (secs ++ [s]) := by
  have ok := fillD_ok hn hz (by omega) h
  have hg := fillD_get (n := n) hz secs
  have hst : (fillZ n secs).state = 0 ∧ secs.length = 0 ∨ (fillZ n secs).state = 1 ∧ (fillZ n secs).durable = 0 ∧ secs.length ≠ 0 := by
    unfold fillZ
    split
    · left; exact ⟨rfl, by assumption⟩
    · right
      rw [if_neg (by omega)]
      exact ⟨rfl, rfl, by assumption⟩
  have hr : (fillZ n secs).state = 0 → roomX (fillD n z secs) z = (0, (fillD n z secs).zones) := by
    intro h0
    have e1 : cntOpen (fillD n z secs).zones = 0 := by
      have : cntOpen (fillD n z secs).zones = _ := cnt_fill (fun z => isOpen z.state) (by decide) hz _
      rw [this, h0]; decide
    have e2 : cntActive (fillD n z secs).zones = 0 := by
      have : cntActive (fillD n z secs).zones = _ := cnt_fill (fun z => isActive z.state) (by decide) hz _
      rw [this, h0]; decide
    simp only [roomX, e1, e2]
    rw [if_neg (by simp [fillD])]
    dsimp only
    rw [e2, if_neg (by simp [fillD])]
  have hE : appendE (fillD n z secs) z s = 0 := by
    simp only [appendE, check_ok.2 ok, if_pos]
    rw [decide_eq_true (by simp [fillD]; omega), if_pos rfl, if_pos hs, Int.toNat_natCast, hg, if_neg (by omega), if_neg (by omega)]
    rcases hst with ⟨h0, _⟩ | ⟨h1, _, _⟩
    · rw [h0, if_neg (by decide), hr h0]
    · rw [h1, if_pos (by decide)]
  have hL : openL (fillD n z secs) z = (fillD n z secs).zones := by
    simp only [openL, hg]
    split
    · rfl
    · rename_i c
      rcases hst with ⟨h0, _⟩ | ⟨h1, _, _⟩
      · rw [hr h0]
      · rw [h1] at c; exact absurd rfl c
  refine ⟨hE, ?_, ?_⟩
  · rw [show appendI _ _ _ = _ from if_pos hE, Int.toNat_natCast, hg, fillZ_sec]
  · rw [show appendD _ _ _ = _ from if_pos hE, Int.toNat_natCast, hL, hg]
    have eg : grow (fillZ n secs) n s = fillZ n (secs ++ [s]) := by
      unfold grow
      rw [fillZ_sec]
      have hl1 : (secs ++ [s]).length = secs.length + 1 := by simp
      by_cases c : (secs.length : Int) + 1 = n
      · rw [if_pos c]
        simp only [fillZ, hl1]
        rw [if_neg (by omega), if_pos (by omega)]
      · rw [if_neg c]
        have e3 : fillZ n (secs ++ [s]) = ⟨1, 0, secs ++ [s]⟩ := by
          unfold fillZ
          rw [hl1, if_neg (by omega), if_neg (by omega)]
        rw [e3]
        by_cases h2 : secs.length = 0
        · have e4 : fillZ n secs = zone0 := if_pos h2
          rw [e4]; rfl
        · have e4 : fillZ n secs = ⟨1, 0, secs⟩ := by
            unfold fillZ
            rw [if_neg h2, if_neg (by omega)]
          rw [e4]; rfl
    show (⟨n, 1, 2, ((List.replicate 4 zone0).set z (fillZ n secs)).set z (grow (fillZ n secs) n s)⟩ : Dev) = _
    rw [eg, List.set_set]
    rfl
end Go.Am
namespace Go.Am
theorem fillZ_full {n : Int} {secs : List ByteArray} (h0 : secs.length ≠ 0) (h : (secs.length : Int) = n) : fillZ n secs = ⟨4, n, secs⟩ := by
  unfold fillZ
  rw [if_neg h0, if_pos h]
theorem fillZ_part {n : Int} {secs : List ByteArray} (h0 : secs.length ≠ 0) (h : (secs.length : Int) ≠ n) : fillZ n secs = ⟨1, 0, secs⟩ := by
  unfold fillZ
  rw [if_neg h0, if_neg h]
theorem fillD_full {n : Int} (hn : 3 ≤ n ∧ n ≤ 64) {z : Nat} (hz : z < 4) {secs : List ByteArray} (hl : (secs.length : Int) = n) (h : ∀ s ∈ secs, s.size = 40) {s : ByteArray} (hs : s.size = 40) :
    appendE (fillD n z secs) z s = 7 ∧ appendI (fillD n z secs) z s = 0 ∧ appendD (fillD n z secs) z s = fillD n z secs := by
  have ok := fillD_ok hn hz (by omega) h
  have hg := fillD_get (n := n) hz secs
  rw [fillZ_full (by omega) hl] at hg
  have hE : appendE (fillD n z secs) z s = 7 := by
    simp only [appendE, check_ok.2 ok, if_pos]
    rw [decide_eq_true (by simp [fillD]; omega), if_pos rfl, if_pos hs, Int.toNat_natCast, hg, if_neg (show ¬ (4 : Int) = 5 by decide), if_pos rfl]
  refine ⟨hE, ?_, ?_⟩
  · unfold appendI; rw [hE]; rfl
  · unfold appendD; rw [hE]; rfl
end Go.Am
namespace Go.Am
def lightS (l : List ByteArray) : Nat := (l.map fun s => s.size / 20).sum
def lightZ (z : Zone) : Nat := 5 + z.sectors.length + lightS z.sectors
def lightN (l : List Zone) : Nat := (l.map lightZ).sum
theorem sum_take {α : Type} [Inhabited α] (f : α → Nat) (l : List α) (k : Nat) (h : k < l.length) : ((l.take (k + 1)).map f).sum = ((l.take k).map f).sum + f (l.getD k default) := by
  rw [List.take_succ_eq_append_getElem h, getD_eq l k h, List.map_append, List.sum_append]
  simp only [List.map_cons, List.map_nil, List.sum_cons, List.sum_nil, Nat.add_zero]
theorem sum_take_le {α : Type} (f : α → Nat) (l : List α) (k : Nat) : ((l.take k).map f).sum ≤ (l.map f).sum := by
  conv => rhs; rw [← List.take_append_drop k l, List.map_append, List.sum_append]
  omega
end Go.Am
end
