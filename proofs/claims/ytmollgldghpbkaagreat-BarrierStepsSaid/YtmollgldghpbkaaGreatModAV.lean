/- Contracts, lemmas; no condition. -/
import Derived.Test.YtmollgldghpbkaaGreatAmCV
import Derived.Test.YtmollgldghpbkaaGreatAmDV
import Derived.Laws.Bits64
import Derived.Test.YtmollgldghpbkaaGreatAmEV
set_option linter.all false
section
namespace Go.Am
structure Zone where
 state : Int
 durable : Int
 sectors : List ByteArray
 deriving DecidableEq
instance : Inhabited Zone := ⟨⟨0, 0, []⟩⟩
structure Dev where
 size : Int
 maxOpen : Int
 maxActive : Int
 zones : List Zone
 deriving DecidableEq
def QbW (l : List ByteArray) : C := .isl 1 l.length (fun i _ => .str (l.getD i ByteArray.empty)) false
def Zone.cell (z : Zone) : Nat → C
 | 0 => .int .i64 z.state
 | 1 => .int .i64 z.durable
 | _ => QbW z.sectors
def Zone.s (z : Zone) : S := .a [.int .i64 z.state, .int .i64 z.durable, QbW z.sectors]
def QaK (l : List Zone) : Nat → Nat → C := fun i j => (l.getD i default).cell j
def Qc2 (l : List Zone) : C := .isl 3 l.length (QaK l) false
def Dev.s (d : Dev) : S := .a [.int .i64 d.size, .int .i64 d.maxOpen, .int .i64 d.maxActive, Qc2 d.zones]
def QK (s : Int) : Bool := decide (s = 1 ∨ s = 2)
def QR (s : Int) : Bool := decide (s = 1 ∨ s = 2 ∨ s = 3)
def QP (l : List Zone) : Nat := (l.filter fun z => QK z.state).length
def Qt (l : List Zone) : Nat := (l.filter fun z => QR z.state).length
theorem QaM {α : Type} [Inhabited α] (l : List α) (i : Nat) (h : i < l.length) : l.getD i default = l[i] := by simp [List.getD, h]
theorem Qhx (l : List Zone) (k : Nat) (h : k < l.length) : QP (l.take (k + 1)) = QP (l.take k) + if QK (l.getD k default).state then 1 else 0 := by
 rw [List.take_succ_eq_append_getElem h, QaM l k h]
 simp only [QP, List.filter_append, List.length_append, List.filter_cons, List.filter_nil]
 split <;> rfl
theorem Qf3 (l : List Zone) (k : Nat) (h : k < l.length) : Qt (l.take (k + 1)) = Qt (l.take k) + if QR (l.getD k default).state then 1 else 0 := by
 rw [List.take_succ_eq_append_getElem h, QaM l k h]
 simp only [Qt, List.filter_append, List.length_append, List.filter_cons, List.filter_nil]
 split <;> rfl
theorem Qjt (l : List Zone) : QP l ≤ l.length := List.length_filter_le _ _
theorem Qhz (l : List Zone) : Qt l ≤ l.length := List.length_filter_le _ _
theorem Qa (x : Int) (h0 : -9223372036854775808 ≤ x) (h1 : x ≤ 9223372036854775807) : IntKind.i64.wrap x = x := by
 rw [IntKind.wrap_i64]; omega
end Go.Am
end

section
namespace Go.Am
def Qco (l : List ByteArray) : Bool := l.all fun s => decide (s.size = 40)
def right (z : Zone) (size : Int) : Bool :=
 decide (0 ≤ z.state ∧ z.state ≤ 5 ∧ (z.sectors.length : Int) ≤ size ∧ 0 ≤ z.durable ∧ z.durable ≤ z.sectors.length ∧ (z.state = 0 ∨ z.state = 5 → z.sectors.length = 0) ∧ (z.state = 4 → z.durable = z.sectors.length) ∧
  (z.state ≠ 0 → z.state ≠ 4 → z.state ≠ 5 → (z.sectors.length : Int) < size)) && Qco z.sectors
def Qbu (d : Dev) : Bool :=
 decide (1 ≤ d.zones.length ∧ d.zones.length ≤ 32 ∧ 3 ≤ d.size ∧ d.size ≤ 64 ∧ 1 ≤ d.maxOpen ∧ d.maxOpen ≤ d.maxActive ∧ d.maxActive ≤ d.zones.length)
def check (d : Dev) : Int :=
 if Qbu d then
  if d.zones.all (fun z => right z d.size) then
   if decide ((QP d.zones : Int) ≤ d.maxOpen ∧ (Qt d.zones : Int) ≤ d.maxActive) then 0 else 6
  else 6
 else 11
end Go.Am
namespace Go.Am
theorem Qil (l : List ByteArray) (k : Nat) (h : k < l.length) : Qco (l.take (k + 1)) = (Qco (l.take k) && decide ((l.getD k ByteArray.empty).size = 40)) := by
 rw [List.take_succ_eq_append_getElem h]
 simp only [Qco, List.all_append]
 simp [h]
theorem Qjs (l : List ByteArray) (k : Nat) (h : k < l.length) (hb : (l.getD k ByteArray.empty).size ≠ 40) : Qco l = false := by
 rw [Qco, List.all_eq_false]
 refine ⟨l[k], List.getElem_mem h, ?_⟩
 simpa [h] using hb
end Go.Am
namespace Go.Am
theorem Qmz {α : Type} [Inhabited α] (l : List α) (p : α → Bool) (k : Nat) (h : k < l.length) : (l.take (k + 1)).all p = ((l.take k).all p && p (l.getD k default)) := by
 rw [List.take_succ_eq_append_getElem h, QaM l k h]
 simp only [List.all_append, List.all_cons, List.all_nil, Bool.and_true]
theorem QgW {α : Type} [Inhabited α] (l : List α) (p : α → Bool) (k : Nat) (h : k < l.length) (hb : p (l.getD k default) = false) : l.all p = false := by
 rw [QaM l k h] at hb
 rw [List.all_eq_false]
 exact ⟨l[k], List.getElem_mem h, by simp [hb]⟩
end Go.Am
namespace Go.Am
def Qe2 (a b : Zone) : Bool := decide (a.state = b.state ∧ a.durable = b.durable ∧ a.sectors.length = b.sectors.length) && decide (a.sectors = b.sectors)
end Go.Am
namespace Go.Am
theorem QwF {l r : List ByteArray} {k : Nat} (h : l.take k = r.take k) (h1 : k < l.length) (h2 : k < r.length) (he : l.getD k ByteArray.empty = r.getD k ByteArray.empty) : l.take (k + 1) = r.take (k + 1) := by
 rw [List.take_succ_eq_append_getElem h1, List.take_succ_eq_append_getElem h2, h]
 simp [h1, h2] at he
 rw [he]
def Qbc : List Zone → List Zone → Bool
 | [], [] => true
 | a :: r, b :: r' => Qe2 a b && Qbc r r'
 | _, _ => false
theorem Qnd : ∀ (a b : List Zone) (k : Nat), k < a.length → k < b.length → Qbc (a.take (k + 1)) (b.take (k + 1)) = (Qbc (a.take k) (b.take k) && Qe2 (a.getD k default) (b.getD k default))
 | x :: r, y :: r', 0, _, _ => by simp [Qbc]
 | x :: r, y :: r', k + 1, h1, h2 => by
  have := Qnd r r' k (by simpa using h1) (by simpa using h2)
  simp only [List.take_succ_cons, Qbc, List.getD_cons_succ, this, Bool.and_assoc]
 | [], _, _, h, _ => by simp at h
 | _ :: _, [], _, _, h => by simp at h
theorem Ql2 : ∀ (a b : List Zone) (k : Nat), k < a.length → k < b.length → Qe2 (a.getD k default) (b.getD k default) = false → Qbc a b = false
 | x :: r, y :: r', 0, _, _, h => by simp at h; simp [Qbc, h]
 | x :: r, y :: r', k + 1, h1, h2, h => by
  have := Ql2 r r' k (by simpa using h1) (by simpa using h2) (by simpa using h)
  simp [Qbc, this]
 | [], _, _, h, _, _ => by simp at h
 | _ :: _, [], _, _, h, _ => by simp at h
def same (a b : Dev) : Bool := decide (a.size = b.size ∧ a.maxOpen = b.maxOpen ∧ a.maxActive = b.maxActive ∧ a.zones.length = b.zones.length) && Qbc a.zones b.zones
def zone0 : Zone := ⟨0, 0, []⟩
def dev0 : Dev := ⟨0, 0, 0, []⟩
def newX (zones size op act : Int) : Dev := ⟨size, op, act, List.replicate zones.toNat zone0⟩
def newE (zones size op act : Int) : Int := if decide (1 ≤ zones ∧ zones ≤ 32) then check (newX zones size op act) else 11
def newD (zones size op act : Int) : Dev := if newE zones size op act = 0 then newX zones size op act else dev0
def Dev.cells (d : Dev) : List C := [.int .i64 d.size, .int .i64 d.maxOpen, .int .i64 d.maxActive, Qc2 d.zones]
end Go.Am
namespace Go.Am
theorem QdX (z : List C) (hz : z = [.int .i64 0, .int .i64 0, .nils]) (n i j : Nat) (hi : i < n) (hj : j < 3) : leF (Qbo z i j) (QaK (List.replicate n zone0) i j) := by
 subst hz
 have : (List.replicate n zone0).getD i default = zone0 := by simp [List.getD, hi]
 simp only [QaK, this]
 match j, hj with
 | 0, _ => exact leF.refl
 | 1, _ => exact leF.refl
 | 2, _ => exact leF.nil rfl
theorem QkW (z : List C) (hz : z = [.int .i64 0, .int .i64 0, .nils]) (n i : Nat) (hi : i < n) (j : Nat) (hj : j < 3) : (Qbo z i j).imm = true := by
 subst hz
 match j, hj with
 | 0, _ => rfl
 | 1, _ => rfl
 | 2, _ => rfl
end Go.Am
namespace Go.Am
def QvK (l : List ByteArray) : C := .isl 1 l.length (fun i _ => .str (l.getD i ByteArray.empty)) true
def Zone.cellT (z : Zone) : Nat → C
 | 0 => .int .i64 z.state
 | 1 => .int .i64 z.durable
 | _ => QvK z.sectors
def Qh6 (l : List Zone) : Nat → Nat → C := fun i j => (l.getD i default).cellT j
def zoneAtK (l : List Zone) (k : Nat) : Nat → Nat → C := fun i j => if i < k then (l.getD i default).cellT j else (l.getD i default).cell j
end Go.Am
namespace Go.Am
structure Dev.small (d : Dev) : Prop where
 z : d.zones.length ≤ 10000000
 s : ∀ i, (d.zones.getD i default).sectors.length ≤ 10000000
end Go.Am
namespace Go.Am
theorem Qua (z : Zone) (j : Nat) : (z.cell j).imm = true := by
 match j with
 | 0 => rfl
 | 1 => rfl
 | _ + 2 => rfl
theorem QsG (z : Zone) (j : Nat) : (z.cellT j).imm = true := by
 match j with
 | 0 => rfl
 | 1 => rfl
 | _ + 2 => rfl
theorem QbI (l : List Zone) (i j : Nat) : (QaK l i j).imm = true := Qua _ _
theorem QiA (l : List Zone) (i j : Nat) : (Qh6 l i j).imm = true := QsG _ _
theorem wkC.of_eq {ρ : Nat → Nat} {n : Nat} {c c' : C} (hc : c'.imm = true) (h : c = c') : wkC ρ n c c' := by subst h; exact wkC.imm hc
end Go.Am
namespace Go.Am
theorem Qcb (g : Nat → Nat → C) (k j0 : Nat) (x : C) (i j : Nat) : updG g k j0 [x] i j = if i = k ∧ j = j0 then x else g i j := by
 simp only [updG, List.length_cons, List.length_nil]
 by_cases h : i = k ∧ j = j0
 ·obtain ⟨rfl, rfl⟩ := h
  rw [if_pos om, if_pos ⟨rfl, rfl⟩]
  simp [lget, getL]
 ·rw [if_neg om, if_neg h]
theorem Qm8 (id n : Nat) (g : Nat → Nat → C) (z : Zone) (j : Nat) : fzC id n g (z.cell j) = z.cell j := by
 match j with
 | 0 => rfl
 | 1 => rfl
 | _ + 2 => rfl
end Go.Am
namespace Go.Am
theorem Qk1 {z : Zone} {size : Int} (h : right z size = true) : (z.sectors.length : Int) ≤ size := by
 simp only [right, Bool.and_eq_true, decide_eq_true_eq] at h
 exact h.1.2.2.1
structure Dev.ok (d : Dev) : Prop where
 conf : Qbu d = true
 zones : ∀ z ∈ d.zones, right z d.size = true
 op : (QP d.zones : Int) ≤ d.maxOpen
 act : (Qt d.zones : Int) ≤ d.maxActive
theorem check_ok {d : Dev} : check d = 0 ↔ d.ok := by
 unfold check
 constructor
 ·intro h
  split at h
  ·rename_i h1
   split at h
   ·rename_i h2
    split at h
    ·rename_i h3
     simp only [decide_eq_true_eq] at h3
     exact ⟨h1, List.all_eq_true.1 h2, h3.1, h3.2⟩
    ·cases h
   ·cases h
  ·cases h
 ·intro h
  rw [if_pos h.conf, if_pos (List.all_eq_true.2 h.zones), if_pos (decide_eq_true ⟨h.op, h.act⟩)]
theorem Dev.ok.small {d : Dev} (h : d.ok) : d.small := by
 have hc := h.conf
 simp only [Qbu, decide_eq_true_eq] at hc
 refine ⟨om, fun i => ?_⟩
 by_cases hi : i < d.zones.length
 ·have hm : d.zones.getD i default ∈ d.zones := by
   rw [QaM _ _ hi]; exact List.getElem_mem hi
  have := Qk1 (h.zones _ hm)
  omega
 ·have : d.zones.getD i default = default := by simp [List.getD, Nat.le_of_not_lt hi]
  rw [this]
  exact Nat.zero_le _
def Qai (d : Dev) (zone : Int) : Int :=
 if check d = 0 then if decide (0 ≤ zone ∧ zone < d.zones.length) then if (d.zones.getD zone.toNat default).state = 5 then 6 else 0 else 5 else check d
def Dev.own (d : Dev) (id : Nat) : List C := [.int .i64 d.size, .int .i64 d.maxOpen, .int .i64 d.maxActive, .sl id 3 d.zones.length d.zones.length true]
def beginQ (d : Dev) (zone : Int) (s : S) (H : List O) : Prop :=
 if Qai d zone = 0 then s = .t [.inr (d.own 0), .inl (.int .i64 0)] ∧ H = [.arr 117 3 d.zones.length (Qh6 d.zones)]
 else s = .t [.inr d.cells, .inl (.int .i64 (Qai d zone))] ∧ H = []
end Go.Am
namespace Go.Am
def Qa7 (z : Zone) : Zone := { z with state := if z.sectors.length = 0 then 0 else 3 }
def Qac (l : List Zone) (i : Nat) : List Zone := l.set i (Qa7 (l.getD i default))
end Go.Am
namespace Go.Am
def Q6 : List Zone → Nat
 | [] => 0
 | z :: r => if z.state = 1 then 0 else Q6 r + 1
def Qr (d : Dev) (zone : Nat) : Int × List Zone :=
 let l := if d.maxOpen ≤ QP d.zones then (if Q6 d.zones < d.zones.length then some (Qac d.zones (Q6 d.zones)) else none) else some d.zones
 match l with
 | none => (8, d.zones)
 | some l => if (l.getD zone default).state ≠ 3 ∧ d.maxActive ≤ Qt l then (9, l) else (0, l)
end Go.Am
namespace Go.Am
theorem QtL (z : Zone) (j : Nat) : leF (z.cellT j) (z.cell j) := by
 match j with
 | 0 => exact leF.refl
 | 1 => exact leF.refl
 | _ + 2 => exact leF.flag
theorem Qqn (l : List Zone) (i j : Nat) : leF (Qh6 l i j) (QaK l i j) := QtL _ _
end Go.Am
namespace Go.Am
theorem QfU : ∀ (l : List Zone) (k : Nat), k < l.length → (∀ i, i < k → (l.getD i default).state ≠ 1) → (l.getD k default).state = 1 → Q6 l = k
 | [], k, h, _, _ => by simp at h
 | z :: r, 0, _, _, h => by simp at h; simp [Q6, h]
 | z :: r, k + 1, h, hn, hk => by
  have h0 := hn 0 om
  simp at h0
  have := QfU r k (by simpa using h) (fun i hi => by simpa using hn (i + 1) om) (by simpa using hk)
  simp [Q6, h0, this]
theorem Qf4 : ∀ (l : List Zone), (∀ i, i < l.length → (l.getD i default).state ≠ 1) → Q6 l = l.length
 | [], _ => rfl
 | z :: r, hn => by
  have h0 := hn 0 (by simp)
  simp at h0
  have := Qf4 r (fun i hi => by simpa using hn (i + 1) (by simpa using hi))
  simp [Q6, h0, this]
theorem QeA (l : List Zone) (i : Nat) : (Qac l i).length = l.length := by simp [Qac]
end Go.Am
namespace Go.Am
def Dev.out (d : Dev) (e : Int) : S := .t [.inr d.cells, .inl (.int .i64 e)]
theorem RM.devG {H : List O} {d : Dev} {l : List Zone} {e n : Nat} {g : Nat → Nat → C} {x : Bool} {er er' : Int} (id : Nat) (hid : getL H id = some (.arr e 3 n g)) (him : ∀ i, i < n → ∀ j, j < 3 → (g i j).imm = true)
  (hn : n = l.length) (hg : ∀ i, i < n → ∀ j, j < 3 → leF (g i j) (QaK l i j)) (he : er = er') :
  RM 0 (.t [.inr [.int .i64 d.size, .int .i64 d.maxOpen, .int .i64 d.maxActive, .sl id 3 n n x], .inl (.int .i64 er)]) H (Dev.out { d with zones := l } er') [] := by
 subst he
 exact RM.fz id hid (Nat.zero_le _) him (RM.wk 0 rfl (by cases (fzH id n g H) <;> trivial) (wkS.t ⟨⟨wkC.imm rfl, wkC.imm rfl, wkC.imm rfl, wkC.fz rfl hn hg (fun e => by cases e), trivial⟩, wkC.imm rfl, trivial⟩) (Nat.zero_le _))
theorem RM.dev {H : List O} {d : Dev} {l : List Zone} {e n : Nat} {x : Bool} {er er' : Int} (id : Nat) (hid : getL H id = some (.arr e 3 n (Qh6 l))) (hn : n = l.length) (he : er = er') :
  RM 0 (.t [.inr [.int .i64 d.size, .int .i64 d.maxOpen, .int .i64 d.maxActive, .sl id 3 n n x], .inl (.int .i64 er)]) H (Dev.out { d with zones := l } er') [] :=
 RM.devG id hid (fun i _ j _ => QiA _ _ _) hn (fun i _ j _ => Qqn _ _ _) he
theorem Qr5 {σ : Nat → Nat} {Hc : List O} : ∀ (H : List O) (k : Nat), Qd2 σ [] Hc k H = H
 | [], _ => rfl
 | o :: r, k => by simp only [Qd2, idx, Qr5 r (k + 1)]
def QhJ (d : Dev) (zone : Int) : Dev := if Qai d zone = 0 then { d with zones := d.zones.set zone.toNat zone0 } else d
def Qeo (d : Dev) (zone off : Int) : Int := if Qai d zone = 0 then if decide (0 ≤ off ∧ off < (d.zones.getD zone.toNat default).sectors.length) then 0 else 10 else Qai d zone
def Qa4 (d : Dev) (zone off : Int) : ByteArray := if Qeo d zone off = 0 then (d.zones.getD zone.toNat default).sectors.getD off.toNat ByteArray.empty else ByteArray.empty
theorem QbT {d : Dev} {zone : Int} (h : Qai d zone = 0) : d.ok ∧ 0 ≤ zone ∧ zone < d.zones.length := by
 unfold Qai at h
 split at h
 ·rename_i h1
  split at h
  ·rename_i h2
   exact ⟨check_ok.1 h1, by simpa using h2⟩
  ·cases h
 ·rename_i h1
  exact absurd h h1
end Go.Am
namespace Go.Am
def QdR (z : Zone) : Zone := if z.state = 4 then z else { z with state := 4, durable := z.sectors.length }
def Qgc (d : Dev) (zone : Int) : Dev := if Qai d zone = 0 then { d with zones := d.zones.set zone.toNat (QdR (d.zones.getD zone.toNat default)) } else d
def QrD (d : Dev) (zone : Int) : Int :=
 if Qai d zone = 0 then if (d.zones.getD zone.toNat default).state = 4 then 7 else if QK (d.zones.getD zone.toNat default).state then 0 else (Qr d zone.toNat).1 else Qai d zone
def Qa5 (d : Dev) (zone : Nat) : List Zone := if QK (d.zones.getD zone default).state then d.zones else (Qr d zone).2
def Qi2 (d : Dev) (zone : Int) : Dev := if QrD d zone = 0 then { d with zones := (Qa5 d zone.toNat).set zone.toNat { (Qa5 d zone.toNat).getD zone.toNat default with state := 2 } } else d
def Qtg (d : Dev) (zone : Int) : Int := if Qai d zone = 0 then if QR (d.zones.getD zone.toNat default).state then 0 else 6 else Qai d zone
def Qh0 (d : Dev) (zone : Int) : Dev := if Qtg d zone = 0 then if QK (d.zones.getD zone.toNat default).state then { d with zones := Qac d.zones zone.toNat } else d else d
theorem Qk2 (d : Dev) (zone : Nat) : (Qr d zone).2.length = d.zones.length := by
 simp only [Qr]
 split
 ·rfl
 ·rename_i l h
  have : l.length = d.zones.length := by
   split at h
   ·split at h
    ·cases h; exact QeA _ _
    ·cases h
   ·cases h; rfl
  split <;> exact this
end Go.Am
namespace Go.Am
def Q9 (d : Dev) (zone : Int) (s : ByteArray) : Int :=
 if check d = 0 then if decide (0 ≤ zone ∧ zone < d.zones.length) then if s.size = 40 then
  if (d.zones.getD zone.toNat default).state = 5 then 6 else if (d.zones.getD zone.toNat default).state = 4 then 7 else if QK (d.zones.getD zone.toNat default).state then 0 else (Qr d zone.toNat).1
 else 2 else 5 else check d
def grow (z : Zone) (size : Int) (s : ByteArray) : Zone :=
 if (z.sectors.length : Int) + 1 = size then ⟨4, size, z.sectors ++ [s]⟩ else ⟨if QK z.state then z.state else 1, z.durable, z.sectors ++ [s]⟩
def Qaa (d : Dev) (zone : Int) (s : ByteArray) : Dev :=
 if Q9 d zone s = 0 then { d with zones := (Qa5 d zone.toNat).set zone.toNat (grow ((Qa5 d zone.toNat).getD zone.toNat default) d.size s) } else d
def Qe (d : Dev) (zone : Int) (s : ByteArray) : Int := if Q9 d zone s = 0 then (d.zones.getD zone.toNat default).sectors.length else 0
def Dev.out3 (d : Dev) (i e : Int) : S := .t [.inr d.cells, .inl (.int .i64 i), .inl (.int .i64 e)]
end Go.Am
namespace Go.Am
theorem Qtq (secs : List ByteArray) (s : ByteArray) (t : List C) (i : Nat) (h : i < secs.length + 1) : appG (fun i _ => .str (secs.getD i ByteArray.empty)) secs.length (QaC 1 (.str s :: t)) i 0 = .str ((secs ++ [s]).getD i ByteArray.empty) := by
 simp only [appG]
 by_cases c : i < secs.length
 ·rw [if_pos c]
  simp [List.getD, List.getElem?_append_left c]
 ·have : i = secs.length := by omega
  subst this
  rw [if_neg c]
  simp [QaC, lget, getL, List.getD]
theorem Qkx (l : List Zone) (i k : Nat) (hi : i < l.length) : ((Qac l i).getD k default).sectors = (l.getD k default).sectors := by
 simp only [Qac]
 by_cases c : k = i
 ·subst c
  simp [List.getD, hi, Qa7]
 ·simp only [List.getD]
  rw [List.getElem?_set_ne (Ne.symm c)]
theorem QgR (d : Dev) (zone k : Nat) : ((Qr d zone).2.getD k default).sectors = (d.zones.getD k default).sectors := by
 simp only [Qr]
 split
 ·rfl
 ·rename_i l h
  have : (l.getD k default).sectors = (d.zones.getD k default).sectors := by
   split at h
   ·split at h
    ·rename_i h2
     cases h; exact Qkx _ _ _ h2
    ·cases h
   ·cases h; rfl
  split <;> exact this
end Go.Am
namespace Go.Am
end Go.Am
namespace Go.Am
theorem Ql5 (l : List Zone) (i k : Nat) (h : QK (l.getD k default).state = false) : QK ((Qac l i).getD k default).state = false := by
 simp only [Qac]
 by_cases c : k = i
 ·subst c
  by_cases hk : k < l.length
  ·have : (l.set k (Qa7 (l.getD k default))).getD k default = Qa7 (l.getD k default) := by simp [List.getD, hk]
   rw [this]
   simp only [Qa7]
   split <;> decide
  ·rw [List.set_eq_of_length_le om]; exact h
 ·simp only [List.getD] at h ⊢
  rw [List.getElem?_set_ne (Ne.symm c)]
  exact h
theorem Qnf (d : Dev) (zone k : Nat) (h : QK (d.zones.getD k default).state = false) : QK ((Qr d zone).2.getD k default).state = false := by
 simp only [Qr]
 split
 ·exact h
 ·rename_i l hl
  have : QK (l.getD k default).state = false := by
   split at hl
   ·split at hl
    ·cases hl; exact Ql5 _ _ _ h
    ·cases hl
   ·cases hl; exact h
  split <;> exact this
end Go.Am
namespace Go.Am
def putB (n : Int) (i : Nat) : Int := IntKind.u8.wrap (n.fdiv (2 ^ (min (IntKind.u64.wrap (IntKind.i64.wrap (8 * (i : Int)))).toNat IntKind.i64.bits)))
def putS (n : Int) (size : Nat) : ByteArray := QaV size fun i _ => .int .u8 (putB n i)
end Go.Am
namespace Go.Am
def putG (n : Int) (k : Nat) : Nat → Nat → C := fun i _ => if i < k then .int .u8 (putB n i) else .int .u8 0
theorem Qgo (n : Int) (k i j : Nat) : (putG n k i j).imm = true := by
 unfold putG
 split <;> rfl
end Go.Am
namespace Go.Am
theorem Ql7 {n : Nat} {g g' : Nat → Nat → C} (h : ∀ i, i < n → g i 0 = g' i 0) : QaV n g = QaV n g' := by
 unfold QaV
 congr 2
 refine List.map_congr_left fun i hi => ?_
 rw [h i (by simpa using hi)]
theorem QeP (n : Nat) (g : Nat → Nat → C) : (QaV n g).size = n := by simp [QaV, ByteArray.size]
theorem Qgs (n : Int) (k : Nat) : QaV k (putG n k) = putS n k := Ql7 fun i hi => by simp [putG, hi]
theorem Qar (n : Int) (k : Nat) : (putS n k).size = k := QeP _ _
end Go.Am
namespace Go.Am
def xorU (x y : Int) : Int := IntKind.u32.wrap (BitVec.ofInt IntKind.u32.bits x ^^^ BitVec.ofInt IntKind.u32.bits y).toNat
def andU (x y : Int) : Int := IntKind.u32.wrap (BitVec.ofInt IntKind.u32.bits x &&& BitVec.ofInt IntKind.u32.bits y).toNat
def notU (x : Int) : Int := xorU 4294967295 x
def QuG (x : Int) : Int := x.fdiv (2 ^ min (1 : Int).toNat IntKind.u32.bits)
def Qsw (x : Int) : Int := if andU x 1 = 1 then xorU (QuG x) 3988292384 else QuG x
def Qj0 (f : Int → Int) : Nat → Int → Int
 | 0, x => x
 | n + 1, x => f (Qj0 f n x)
end Go.Am
namespace Go.Am
def Qs5 (b : ByteArray) (k : Nat) : Int := IntKind.u32.wrap ((b.data.toList.getD k 0).toNat : Int)
def Qms (sum : Int) (b : ByteArray) : Nat → Int
 | 0 => notU sum
 | k + 1 => Qj0 Qsw 8 (xorU (Qms sum b k) (Qs5 b k))
def addU (sum : Int) (b : ByteArray) : Int := notU (Qms sum b b.size)
theorem Qt3 (x : Int) : 0 ≤ IntKind.u32.wrap x ∧ IntKind.u32.wrap x < 4294967296 := by
 rw [IntKind.wrap_u32]; omega
theorem Qky (sum : Int) (b : ByteArray) : 0 ≤ addU sum b ∧ addU sum b < 4294967296 := Qt3 _
end Go.Am
namespace Go.Am
def padS (b : ByteArray) : ByteArray := if b.size < 20 then b ++ QaV (20 - b.size) (fun _ _ => .int .u8 0) else b
theorem Qb6 (b : ByteArray) (h : b.size ≤ 20) : (padS b).size = 20 := by
 unfold padS
 split
 ·rw [ByteArray.size_append, QeP]; omega
 ·omega
end Go.Am
namespace Go.Am
structure Rec where
 kind : Int
 block : Int
 version : Int
 move : Int
 payload : ByteArray
 deriving DecidableEq
def Rec.s (r : Rec) : S := .a [.int .i64 r.kind, .int .i64 r.block, .int .i64 r.version, .int .i64 r.move, .str r.payload]
def Qa0 (r : Rec) : Int :=
 if decide (1 ≤ r.kind ∧ r.kind ≤ 6) then
  if decide (0 ≤ r.block ∧ r.block ≤ 4294967295 ∧ 0 ≤ r.version ∧ r.version ≤ 1099511627776 ∧ 0 ≤ r.move ∧ r.move ≤ 255) then
   if decide (r.payload.size ≤ 20 ∧ (r.kind = 1 → r.payload.size = 16) ∧ (r.kind = 2 → r.payload.size = 0)) then 0 else 2
  else 1
 else 3
def Qjn (r : Rec) : ByteArray :=
 ⟨#[90, 65]⟩ ++ putS r.kind 1 ++ putS r.payload.size 1 ++ putS r.block 4 ++ putS r.version 6 ++ putS r.move 1 ++ ⟨#[0]⟩ ++ padS r.payload
def encR (r : Rec) : ByteArray := if Qa0 r = 0 then Qjn r ++ putS (IntKind.i64.wrap (addU 0 (Qjn r))) 4 else ByteArray.empty
theorem Qfj {r : Rec} (h : Qa0 r = 0) : (1 ≤ r.kind ∧ r.kind ≤ 6) ∧ (0 ≤ r.block ∧ r.block ≤ 4294967295 ∧ 0 ≤ r.version ∧ r.version ≤ 1099511627776 ∧ 0 ≤ r.move ∧ r.move ≤ 255) ∧ r.payload.size ≤ 20 := by
 unfold Qa0 at h
 split at h
 ·rename_i h1
  split at h
  ·rename_i h2
   split at h
   ·rename_i h3
    exact ⟨by simpa using h1, by simpa using h2, (by simpa using h3 : _ ∧ _).1⟩
   ·cases h
  ·cases h
 ·cases h
theorem QjF {r : Rec} (h : r.payload.size ≤ 20) : (Qjn r).size = 36 := by
 simp only [Qjn, ByteArray.size_append, Qar, Qb6 _ h]
 rfl
theorem Qsf {r : Rec} (h : Qa0 r = 0) : (encR r).size = 40 := by
 rw [encR, if_pos h, ByteArray.size_append, QjF (Qfj h).2.2, Qar]
theorem QuM {b : ByteArray} (h : b.size = 0) : b = ByteArray.empty := by
 cases b with
 | mk d =>
  have : d = #[] := by simpa [ByteArray.size] using h
  subst this
  rfl
end Go.Am
namespace Go.Am
theorem QpU (l : List Zone) (i a b : Nat) (z : Zone) (hi : i < l.length) : QaK (l.set i z) a b = if a = i then z.cell b else QaK l a b := by
 simp only [QaK]
 by_cases c : a = i
 ·subst c
  simp [List.getD, hi]
 ·rw [if_neg c]
  simp only [List.getD]
  rw [List.getElem?_set_ne (Ne.symm c)]
end Go.Am
namespace Go.Am
theorem RM.devS {H : List O} {d : Dev} {l : List Zone} {e n t : Nat} {g : Nat → Nat → C} {x : Bool} (id : Nat) (hid : getL H id = some (.arr e 3 n g)) (him : ∀ i, i < n → ∀ j, j < 3 → (g i j).imm = true)
  (ht : t = n) (hn : n = l.length) (hg : ∀ i, i < n → ∀ j, j < 3 → leF (g i j) (QaK l i j)) :
  RM 0 (.a [.int .i64 d.size, .int .i64 d.maxOpen, .int .i64 d.maxActive, .sl id 3 t t x]) H (({ d with zones := l } : Dev).s) [] := by
 subst ht
 exact RM.fz id hid (Nat.zero_le _) him (RM.wk 0 rfl (by cases (fzH id t g H) <;> trivial) (wkS.a ⟨wkC.imm rfl, wkC.imm rfl, wkC.imm rfl, wkC.fz rfl hn hg (fun e => by cases e), trivial⟩) (Nat.zero_le _))
theorem Qlu {L : List Zone} {k : Nat} {z : Zone} {c : C} {g0 : Nat → Nat → C} (hk : k < L.length) (hc : c = QbW z.sectors) (i j : Nat) (hj : j < 3) : updG (appG g0 0 (QaK L)) k 0 [.int .i64 z.state, .int .i64 z.durable, c] i j = QaK (L.set k z) i j := by
 subst hc
 rw [QpU L k i j z hk]
 simp only [updG, List.length_cons, List.length_nil, appG]
 by_cases h : i = k
 ·rw [if_pos om, if_pos h]
  match j, hj with
  | 0, _ => rfl
  | 1, _ => rfl
  | 2, _ => rfl
 ·rw [if_neg om, if_neg h, if_neg om]
  rfl
end Go.Am
namespace Go.Am
def Qcc (d : Dev) (zone : Nat) : Dev := if (Qr d zone).1 = 0 then { d with zones := (Qr d zone).2 } else d
theorem QnK (l : List Zone) (i k : Nat) (hk : k < l.length) (hi : (l.getD i default).state = 1) (h : QK (l.getD k default).state = false) : (Qac l i).getD k default = l.getD k default := by
 simp only [Qac, List.getD]
 rw [List.getElem?_set_ne]
 intro e
 subst e
 rw [hi] at h
 simp [QK] at h
theorem Qfq : ∀ (l : List Zone), Q6 l < l.length → (l.getD (Q6 l) default).state = 1
 | [], h => by simp at h
 | z :: r, h => by
  simp only [Q6] at h ⊢
  by_cases c : z.state = 1
  ·rw [if_pos c]; simpa using c
  ·rw [if_neg c] at h ⊢
   have := Qfq r (by simpa using h)
   simpa using this
end Go.Am
namespace Go.Am
theorem Qeq (secs : List ByteArray) (s : ByteArray) (t : List C) (g0 : Nat → Nat → C) (i : Nat) (h : i < secs.length + 1) : appG (appG g0 0 (fun i _ => .str (secs.getD i ByteArray.empty))) secs.length (QaC 1 (.str s :: t)) i 0 = .str ((secs ++ [s]).getD i ByteArray.empty) := by
 have := Qtq secs s t i h
 simp only [appG] at this ⊢
 by_cases c : i < secs.length
 ·rw [if_pos c] at this ⊢
  rw [if_neg om]
  exact this
 ·rw [if_neg c] at this ⊢
  exact this
end Go.Am
end

section
namespace Go.Am
def modI (x n : Int) : Int := if n < 1 then 0 else (IntKind.i64.wrap (x.tmod n + n)).tmod n
theorem Qq5 {x n : Int} (h : 1 ≤ n) (h' : n ≤ 4611686018427387904) : 0 ≤ modI x n ∧ modI x n < n := by
 unfold modI
 rw [if_neg om]
 have h1 := Int.tmod_lt_of_pos x (by omega : 0 < n)
 have h2 : -n < x.tmod n := by
  have := Int.neg_tmod x n
  have := Int.tmod_lt_of_pos (-x) (by omega : 0 < n)
  omega
 rw [Qa _ om om]
 exact ⟨Int.tmod_nonneg _ om, Int.tmod_lt_of_pos _ om⟩
theorem Qsn {x n : Int} (h : n < 1) : modI x n = 0 := if_pos h
structure DiceM where
 l : List Int
 at_ : Nat
def DiceM.rest (d : DiceM) : Int := (d.l.length : Int) - d.at_
def DiceM.next (d : DiceM) (n : Int) : Int := if d.l.length ≤ d.at_ then 0 else modI (d.l.getD d.at_ 0) n
def DiceM.step (d : DiceM) : DiceM := if d.l.length ≤ d.at_ then d else ⟨d.l, d.at_ + 1⟩
def DiceM.cells (d : DiceM) : List C := [Qi d.l, .int .i64 d.at_]
structure DiceM.ok (d : DiceM) : Prop where
 le : d.at_ ≤ d.l.length
 len : d.l.length ≤ 10000000
theorem DiceM.ok.step {d : DiceM} (h : d.ok) : d.step.ok := by
 unfold DiceM.step
 split
 ·exact h
 ·exact ⟨by dsimp only; omega, h.len⟩
theorem DiceM.next_range (d : DiceM) {n : Int} (h : 1 ≤ n) (h' : n ≤ 4611686018427387904) : 0 ≤ d.next n ∧ d.next n < n := by
 unfold DiceM.next
 split
 ·omega
 ·exact Qq5 h h'
end Go.Am
namespace Go.Am
def volI (z : Zone) : Int := if z.durable < z.sectors.length then (z.sectors.length : Int) - max z.durable 0 else 0
def volL (l : List Zone) : List Int := l.map volI
theorem Qxi {l : List Zone} {k : Nat} (h : k < l.length) : (volL l).getD k default = volI (l.getD k default) := by simp [volL, List.getD, h]
@[simp] theorem volL_len (l : List Zone) : (volL l).length = l.length := by simp [volL]
end Go.Am
namespace Go.Am
def tabL {α : Type} (f : Nat → α) (n : Nat) : List α := (List.range n).map f
section
variable {α : Type} {f : Nat → α}
@[simp] theorem tabL_len (n : Nat) : (tabL f n).length = n := by simp [tabL]
@[simp] theorem tabL_zero : tabL f 0 = [] := rfl
theorem Qs1 (n : Nat) : tabL f (n + 1) = tabL f n ++ [f n] := by simp [tabL, List.range_succ]
theorem Qtx [Inhabited α] {n i : Nat} (h : i < n) : (tabL f n).getD i default = f i := by simp [tabL, List.getD, h]
end
theorem Qwr {l : List Zone} {n : Nat} {x : Zone} (hn : n = l.length) {i j : Nat} (hi : i < l.length + 1) (hj : j < 3) : appG (QaK l) n (QaC 3 [.int .i64 x.state, .int .i64 x.durable, QbW x.sectors]) i j = QaK (l ++ [x]) i j :=
 Qb8 (f := Zone.cell) hn (fun j hj => by
  match j, hj with
  | 0, _ => rfl
  | 1, _ => rfl
  | 2, _ => rfl) hi hj
def QdC (z : Zone) : Zone := { z with durable := z.sectors.length }
def QrN (z : Zone) (k : Int) : Int := z.durable + min (max k 0) (z.sectors.length - z.durable)
def Qvr (z : Zone) (k : Int) : Zone :=
 ⟨if z.state = 5 ∨ z.state = 4 then z.state else if QrN z k = 0 then 0 else 3, QrN z k, z.sectors.take (QrN z k).toNat⟩
def Qbn (d : Dev) : Dev := if check d = 0 then { d with zones := d.zones.map QdC } else dev0
def crashD (d : Dev) (keep : List Int) : Dev := if check d = 0 then { d with zones := tabL (fun i => Qvr (d.zones.getD i default) (keep.getD i 0)) d.zones.length } else dev0
theorem QnV {α β : Type} [Inhabited α] (f : α → β) (l : List α) : l.map f = tabL (fun i => f (l.getD i default)) l.length := by
 apply List.ext_getElem
 ·simp
 ·intro i h1 h2
  simp [tabL, List.getD, (by simpa using h1 : i < l.length)]
end Go.Am
namespace Go.Am
def updI (f : Nat → Zone → Zone) (l : List Zone) (k : Nat) : List Zone := tabL (fun i => if i < k then f i (l.getD i default) else l.getD i default) l.length
def updL (f : Zone → Zone) (l : List Zone) (k : Nat) : List Zone := updI (fun _ => f) l k
variable {f : Nat → Zone → Zone} {l : List Zone}
@[simp] theorem updI_len (k : Nat) : (updI f l k).length = l.length := by simp [updI]
@[simp] theorem updL_len {f : Zone → Zone} (k : Nat) : (updL f l k).length = l.length := by simp [updL]
theorem QuS : tabL (fun i => l.getD i default) l.length = l := by
 rw [← QnV (fun z => z) l]; simp
theorem Qka {α : Type} {f g : Nat → α} {n : Nat} (h : ∀ i, i < n → f i = g i) : tabL f n = tabL g n := by
 unfold tabL
 exact List.map_congr_left fun i hi => h i (by simpa using hi)
@[simp] theorem updI_zero : updI f l 0 = l := by
 conv => rhs; rw [← QuS (l := l)]
 exact Qka fun i _ => by simp
@[simp] theorem updL_zero {f : Zone → Zone} : updL f l 0 = l := updI_zero
theorem QuF : updI f l l.length = tabL (fun i => f i (l.getD i default)) l.length := Qka fun i hi => by simp [hi]
theorem Qul {f : Zone → Zone} : updL f l l.length = l.map f := by rw [updL, QuF, QnV]
theorem Que {k i : Nat} (h : k ≤ i) (hi : i < l.length) : (updI f l k).getD i default = l.getD i default := by
 rw [updI, Qtx hi, if_neg om]
theorem Qus {k : Nat} (h : k < l.length) : (updI f l k).set k (f k (l.getD k default)) = updI f l (k + 1) := by
 apply List.ext_getElem
 ·simp
 ·intro i h1 h2
  rw [List.getElem_set]
  have hi : i < l.length := by simpa using h2
  simp only [updI, tabL, List.getElem_map, List.getElem_range]
  by_cases c : k = i
  ·subst c
   simp
  ·rw [if_neg c]
   by_cases c2 : i < k
   ·rw [if_pos c2, if_pos om]
   ·rw [if_neg c2, if_neg om]
end Go.Am
namespace Go.Am
theorem Qqk {l : List Zone} {k : Nat} (hk : k < l.length) (du : Int) (i j : Nat) (hj : j < 3) : updG (QaK l) k 1 [.int .i64 du] i j = QaK (l.set k { l.getD k default with durable := du }) i j :=
 QcC (f := Zone.cell) hk (es := 3) (fun j hj => by
  match j, hj with
  | 0, _ => rfl
  | 1, _ => rfl
  | 2, _ => rfl) i j hj
end Go.Am
namespace Go.Am
end Go.Am
namespace Go.Am
theorem QaJ {α : Type} {l : List α} {a n : Nat} {d : α} (h : a < n) : l.getD a d = (l.take n).getD a d := by simp [List.getD, List.getElem?_take, h]
end Go.Am
namespace Go.Am
def QnY (n : Int) (i : Nat) : Int := IntKind.u8.wrap (modI (IntKind.i64.wrap (n + IntKind.i64.wrap (i * n))) 251)
def Qvt (n : Int) (i : Nat) : Int := if i = 0 then IntKind.u8.wrap (IntKind.i64.wrap (1 + modI n 255)) else QnY n i
def genG (f : Nat → Int) : Nat → Nat → C := fun i _ => .int .u8 (f i)
theorem QgE {f : Nat → Int} {k : Nat} {v : Int} (i j : Nat) (hj : j < 1) : updG (genG f) k 0 [.int .u8 v] i j = genG (fun i => if i = k then v else f i) i j := by
 have : j = 0 := by omega
 subst this
 rw [Qcb]
 simp only [genG]
 split <;> rename_i h
 ·rw [if_pos h.1]
 ·rw [if_neg (fun e => h (by simp [e]))]
def QdH (n : Int) : ByteArray := QaV 16 (genG (Qvt n))
def recD (d : DiceM) : DiceM := d.step.step.step
def recR (d : DiceM) (blocks version : Int) : Rec :=
 if d.step.step.next 4 = 3 then ⟨2, d.next blocks, version, 0, ByteArray.empty⟩ else ⟨1, d.next blocks, version, 0, QdH (d.step.next 200)⟩
end Go.Am
namespace Go.Am
def cmdN (d : DiceM) : Int := d.step.next 9
def cmdD (d : DiceM) (n : Int) : DiceM := if cmdN d = 0 ∨ cmdN d = 1 ∨ cmdN d = 2 ∨ cmdN d = 3 ∨ cmdN d = 4 then d.step.step else recD d.step.step.step
def cmdS (d : DiceM) : ByteArray := encR (recR d.step.step.step 5 (IntKind.i64.wrap (1 + d.step.step.next 40)))
def cmdX (d : DiceM) (x : Dev) (n : Int) : Dev :=
 if cmdN d = 0 then QhJ x (d.next n) else if cmdN d = 1 then Qgc x (d.next n) else if cmdN d = 2 then Qi2 x (d.next n) else if cmdN d = 3 then Qh0 x (d.next n)
 else if cmdN d = 4 then { x with zones := x.zones.map QdC } else Qaa x (d.next n) (cmdS d)
end Go.Am
namespace Go.Am
theorem QmK {l : List Zone} {k : Nat} (hk : k < l.length) (st : Int) (i j : Nat) (hj : j < 3) : updG (QaK l) k 0 [.int .i64 st] i j = QaK (l.set k { l.getD k default with state := st }) i j :=
 QcC (f := Zone.cell) hk (es := 3) (fun j hj => by
  match j, hj with
  | 0, _ => rfl
  | 1, _ => rfl
  | 2, _ => rfl) i j hj
end Go.Am
namespace Go.Am
theorem Qn0 {L : List Zone} {k id m : Nat} {gs : Nat → Nat → C} {secs : List ByteArray} {x : Bool} (hk : k < L.length) (hm : m = secs.length) (hgs : ∀ a, a < m → gs a 0 = .str (secs.getD a ByteArray.empty)) (i j : Nat) (hj : j < 3) :
  leF (fzC id m gs (updG (QaK L) k 2 [.sl id 1 m m x] i j)) (QaK (L.set k { L.getD k default with sectors := secs }) i j) ∧ (fzC id m gs (updG (QaK L) k 2 [.sl id 1 m m x] i j)).imm = true := by
 subst hm
 rw [QpU L k i j _ hk, Qcb]
 by_cases c : i = k ∧ j = 2
 ·obtain ⟨rfl, rfl⟩ := c
  rw [if_pos rfl, if_pos ⟨rfl, rfl⟩, Qtu rfl]
  refine ⟨leF.isl rfl (fun a ha b hb => ?_) (fun e => by cases e), rfl⟩
  have : b = 0 := by omega
  subst this
  exact leF.of_eq (hgs a ha)
 ·rw [if_neg c]
  have e : fzC id secs.length gs (QaK L i j) = QaK L i j := Qm8 _ _ _ _ _
  rw [e]
  refine ⟨?_, QbI _ _ _⟩
  by_cases c2 : i = k
  ·subst c2
   rw [if_pos rfl]
   match j, hj with
   | 0, _ => exact leF.refl
   | 1, _ => exact leF.refl
   | 2, _ => exact absurd ⟨rfl, rfl⟩ c
  ·rw [if_neg c2]
   exact leF.refl
end Go.Am
end
