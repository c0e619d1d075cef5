/- Contracts, lemmas; no condition. -/
import Derived.Test.YtkelkepdcfogaaaGreatP08D
import Derived.Test.YtkelkepdcfogaaaGreatP11D
import Derived.Laws.Bits64
import Derived.Test.YtkelkepdcfogaaaGreatA26D
import Derived.Test.YtkelkepdcfogaaaGreatP12D
import Derived.Test.YtkelkepdcfogaaaGreatEnvD
import Derived.KernelRfl
set_option linter.all false
section
namespace Go.Am
structure Zone where
 state : Int
 durable : Int
 sectors : List ByteArray
 deriving DecidableEq
instance : Inhabited Zone := ⟨⟨0, 0, []⟩⟩
structure Dev where
 size : Int
 maxOpen : Int
 maxActive : Int
 zones : List Zone
 deriving DecidableEq
def Qbq (l : List ByteArray) : C := .isl 1 l.length (fun i _ => .str (l.getD i ByteArray.empty)) false
def Zone.cell (z : Zone) : Nat → C
 | 0 => .int .i64 z.state
 | 1 => .int .i64 z.durable
 | _ => Qbq z.sectors
def Zone.s (z : Zone) : S := .a [.int .i64 z.state, .int .i64 z.durable, Qbq z.sectors]
def Qx (l : List Zone) : Nat → Nat → C := fun i j => (l.getD i default).cell j
def Qdl (l : List Zone) : C := .isl 3 l.length (Qx l) false
def Dev.s (d : Dev) : S := .a [.int .i64 d.size, .int .i64 d.maxOpen, .int .i64 d.maxActive, Qdl d.zones]
def Qt (s : Int) : Bool := decide (s = 1 ∨ s = 2)
def QN (s : Int) : Bool := decide (s = 1 ∨ s = 2 ∨ s = 3)
def QL (l : List Zone) : Nat := (l.filter fun z => Qt z.state).length
def Qm (l : List Zone) : Nat := (l.filter fun z => QN z.state).length
theorem QdG {α : Type} [Inhabited α] (l : List α) (i : Nat) (h : i < l.length) : l.getD i default = l[i] := by simp [List.getD, h]
theorem Qg4 (l : List Zone) (k : Nat) (h : k < l.length) : QL (l.take (k + 1)) = QL (l.take k) + if Qt (l.getD k default).state then 1 else 0 := by
 rw [List.take_succ_eq_append_getElem h, QdG l k h]
 simp only [QL, List.filter_append, List.length_append, List.filter_cons, List.filter_nil]
 split <;> rfl
theorem QfL (l : List Zone) (k : Nat) (h : k < l.length) : Qm (l.take (k + 1)) = Qm (l.take k) + if QN (l.getD k default).state then 1 else 0 := by
 rw [List.take_succ_eq_append_getElem h, QdG l k h]
 simp only [Qm, List.filter_append, List.length_append, List.filter_cons, List.filter_nil]
 split <;> rfl
theorem Qi8 (l : List Zone) : QL l ≤ l.length := List.length_filter_le _ _
theorem Qg8 (l : List Zone) : Qm l ≤ l.length := List.length_filter_le _ _
theorem Qa (x : Int) (h0 : -9223372036854775808 ≤ x) (h1 : x ≤ 9223372036854775807) : IntKind.i64.wrap x = x := by
 rw [IntKind.wrap_i64]; omega
end Go.Am
end

section
namespace Go.Am
def Qcv (l : List ByteArray) : Bool := l.all fun s => decide (s.size = 40)
def right (z : Zone) (size : Int) : Bool :=
 decide (0 ≤ z.state ∧ z.state ≤ 5 ∧ (z.sectors.length : Int) ≤ size ∧ 0 ≤ z.durable ∧ z.durable ≤ z.sectors.length ∧ (z.state = 0 ∨ z.state = 5 → z.sectors.length = 0) ∧ (z.state = 4 → z.durable = z.sectors.length) ∧
  (z.state ≠ 0 → z.state ≠ 4 → z.state ≠ 5 → (z.sectors.length : Int) < size)) && Qcv z.sectors
def Qb1 (d : Dev) : Bool :=
 decide (1 ≤ d.zones.length ∧ d.zones.length ≤ 32 ∧ 3 ≤ d.size ∧ d.size ≤ 64 ∧ 1 ≤ d.maxOpen ∧ d.maxOpen ≤ d.maxActive ∧ d.maxActive ≤ d.zones.length)
def check (d : Dev) : Int :=
 if Qb1 d then
  if d.zones.all (fun z => right z d.size) then
   if decide ((QL d.zones : Int) ≤ d.maxOpen ∧ (Qm d.zones : Int) ≤ d.maxActive) then 0 else 6
  else 6
 else 11
end Go.Am
namespace Go.Am
theorem Qh7 (l : List ByteArray) (k : Nat) (h : k < l.length) : Qcv (l.take (k + 1)) = (Qcv (l.take k) && decide ((l.getD k ByteArray.empty).size = 40)) := by
 rw [List.take_succ_eq_append_getElem h]
 simp only [Qcv, List.all_append]
 simp [h]
theorem QiN (l : List ByteArray) (k : Nat) (h : k < l.length) (hb : (l.getD k ByteArray.empty).size ≠ 40) : Qcv l = false := by
 rw [Qcv, List.all_eq_false]
 refine ⟨l[k], List.getElem_mem h, ?_⟩
 simpa [h] using hb
end Go.Am
namespace Go.Am
theorem Qnh {α : Type} [Inhabited α] (l : List α) (p : α → Bool) (k : Nat) (h : k < l.length) : (l.take (k + 1)).all p = ((l.take k).all p && p (l.getD k default)) := by
 rw [List.take_succ_eq_append_getElem h, QdG l k h]
 simp only [List.all_append, List.all_cons, List.all_nil, Bool.and_true]
theorem QgH {α : Type} [Inhabited α] (l : List α) (p : α → Bool) (k : Nat) (h : k < l.length) (hb : p (l.getD k default) = false) : l.all p = false := by
 rw [QdG l k h] at hb
 rw [List.all_eq_false]
 exact ⟨l[k], List.getElem_mem h, by simp [hb]⟩
end Go.Am
namespace Go.Am
def QeL (a b : Zone) : Bool := decide (a.state = b.state ∧ a.durable = b.durable ∧ a.sectors.length = b.sectors.length) && decide (a.sectors = b.sectors)
end Go.Am
namespace Go.Am
def Qbk : List Zone → List Zone → Bool
 | [], [] => true
 | a :: r, b :: r' => QeL a b && Qbk r r'
 | _, _ => false
theorem Qnm : ∀ (a b : List Zone) (k : Nat), k < a.length → k < b.length → Qbk (a.take (k + 1)) (b.take (k + 1)) = (Qbk (a.take k) (b.take k) && QeL (a.getD k default) (b.getD k default))
 | x :: r, y :: r', 0, _, _ => by simp [Qbk]
 | x :: r, y :: r', k + 1, h1, h2 => by
  have := Qnm r r' k (by simpa using h1) (by simpa using h2)
  simp only [List.take_succ_cons, Qbk, List.getD_cons_succ, this, Bool.and_assoc]
 | [], _, _, h, _ => by simp at h
 | _ :: _, [], _, _, h => by simp at h
theorem Qlr : ∀ (a b : List Zone) (k : Nat), k < a.length → k < b.length → QeL (a.getD k default) (b.getD k default) = false → Qbk a b = false
 | x :: r, y :: r', 0, _, _, h => by simp at h; simp [Qbk, h]
 | x :: r, y :: r', k + 1, h1, h2, h => by
  have := Qlr r r' k (by simpa using h1) (by simpa using h2) (by simpa using h)
  simp [Qbk, this]
 | [], _, _, h, _, _ => by simp at h
 | _ :: _, [], _, _, h, _ => by simp at h
def same (a b : Dev) : Bool := decide (a.size = b.size ∧ a.maxOpen = b.maxOpen ∧ a.maxActive = b.maxActive ∧ a.zones.length = b.zones.length) && Qbk a.zones b.zones
def zone0 : Zone := ⟨0, 0, []⟩
def dev0 : Dev := ⟨0, 0, 0, []⟩
def newX (zones size op act : Int) : Dev := ⟨size, op, act, List.replicate zones.toNat zone0⟩
def newE (zones size op act : Int) : Int := if decide (1 ≤ zones ∧ zones ≤ 32) then check (newX zones size op act) else 11
def newD (zones size op act : Int) : Dev := if newE zones size op act = 0 then newX zones size op act else dev0
def Dev.cells (d : Dev) : List C := [.int .i64 d.size, .int .i64 d.maxOpen, .int .i64 d.maxActive, Qdl d.zones]
end Go.Am
namespace Go.Am
theorem Qfs (z : List C) (hz : z = [.int .i64 0, .int .i64 0, .nils]) (n i j : Nat) (hi : i < n) (hj : j < 3) : leF (QcK z i j) (Qx (List.replicate n zone0) i j) := by
 subst hz
 have : (List.replicate n zone0).getD i default = zone0 := by simp [List.getD, hi]
 simp only [Qx, this]
 match j, hj with
 | 0, _ => exact leF.refl
 | 1, _ => exact leF.refl
 | 2, _ => exact leF.nil rfl
theorem Qg1 (z : List C) (hz : z = [.int .i64 0, .int .i64 0, .nils]) (n i : Nat) (hi : i < n) (j : Nat) (hj : j < 3) : (QcK z i j).imm = true := by
 subst hz
 match j, hj with
 | 0, _ => rfl
 | 1, _ => rfl
 | 2, _ => rfl
end Go.Am
namespace Go.Am
def Qwe (l : List ByteArray) : C := .isl 1 l.length (fun i _ => .str (l.getD i ByteArray.empty)) true
def Zone.cellT (z : Zone) : Nat → C
 | 0 => .int .i64 z.state
 | 1 => .int .i64 z.durable
 | _ => Qwe z.sectors
def QhH (l : List Zone) : Nat → Nat → C := fun i j => (l.getD i default).cellT j
def zoneAtK (l : List Zone) (k : Nat) : Nat → Nat → C := fun i j => if i < k then (l.getD i default).cellT j else (l.getD i default).cell j
end Go.Am
namespace Go.Am
structure Dev.small (d : Dev) : Prop where
 z : d.zones.length ≤ 10000000
 s : ∀ i, (d.zones.getD i default).sectors.length ≤ 10000000
end Go.Am
namespace Go.Am
theorem Qt6 (z : Zone) (j : Nat) : (z.cell j).imm = true := by
 match j with
 | 0 => rfl
 | 1 => rfl
 | _ + 2 => rfl
theorem QsP (z : Zone) (j : Nat) : (z.cellT j).imm = true := by
 match j with
 | 0 => rfl
 | 1 => rfl
 | _ + 2 => rfl
theorem QA (l : List Zone) (i j : Nat) : (Qx l i j).imm = true := Qt6 _ _
theorem Qbv (l : List Zone) (i j : Nat) : (QhH l i j).imm = true := QsP _ _
theorem wkC.of_eq {ρ : Nat → Nat} {n : Nat} {c c' : C} (hc : c'.imm = true) (h : c = c') : wkC ρ n c c' := by subst h; exact wkC.imm hc
end Go.Am
namespace Go.Am
theorem Qbm (g : Nat → Nat → C) (k j0 : Nat) (x : C) (i j : Nat) : updG g k j0 [x] i j = if i = k ∧ j = j0 then x else g i j := by
 simp only [updG, List.length_cons, List.length_nil]
 by_cases h : i = k ∧ j = j0
 ·obtain ⟨rfl, rfl⟩ := h
  rw [if_pos (by omega), if_pos ⟨rfl, rfl⟩]
  simp [lget, getL]
 ·rw [if_neg (by omega), if_neg h]
theorem QtU (id n : Nat) (g : Nat → Nat → C) (z : Zone) (j : Nat) : fzC id n g (z.cell j) = z.cell j := by
 match j with
 | 0 => rfl
 | 1 => rfl
 | _ + 2 => rfl
end Go.Am
namespace Go.Am
theorem QsA {z : Zone} {size : Int} (h : right z size = true) : (z.sectors.length : Int) ≤ size := by
 simp only [right, Bool.and_eq_true, decide_eq_true_eq] at h
 exact h.1.2.2.1
structure Dev.ok (d : Dev) : Prop where
 conf : Qb1 d = true
 zones : ∀ z ∈ d.zones, right z d.size = true
 op : (QL d.zones : Int) ≤ d.maxOpen
 act : (Qm d.zones : Int) ≤ d.maxActive
theorem check_ok {d : Dev} : check d = 0 ↔ d.ok := by
 unfold check
 constructor
 ·intro h
  split at h
  ·rename_i h1
   split at h
   ·rename_i h2
    split at h
    ·rename_i h3
     simp only [decide_eq_true_eq] at h3
     exact ⟨h1, List.all_eq_true.1 h2, h3.1, h3.2⟩
    ·cases h
   ·cases h
  ·cases h
 ·intro h
  rw [if_pos h.conf, if_pos (List.all_eq_true.2 h.zones), if_pos (decide_eq_true ⟨h.op, h.act⟩)]
theorem Dev.ok.small {d : Dev} (h : d.ok) : d.small := by
 have hc := h.conf
 simp only [Qb1, decide_eq_true_eq] at hc
 refine ⟨by omega, fun i => ?_⟩
 by_cases hi : i < d.zones.length
 ·have hm : d.zones.getD i default ∈ d.zones := by
   rw [QdG _ _ hi]; exact List.getElem_mem hi
  have := QsA (h.zones _ hm)
  omega
 ·have : d.zones.getD i default = default := by simp [List.getD, Nat.le_of_not_lt hi]
  rw [this]
  exact Nat.zero_le _
def QS (d : Dev) (zone : Int) : Int :=
 if check d = 0 then if decide (0 ≤ zone ∧ zone < d.zones.length) then if (d.zones.getD zone.toNat default).state = 5 then 6 else 0 else 5 else check d
def Dev.own (d : Dev) (id : Nat) : List C := [.int .i64 d.size, .int .i64 d.maxOpen, .int .i64 d.maxActive, .sl id 3 d.zones.length d.zones.length true]
def beginQ (d : Dev) (zone : Int) (s : S) (H : List O) : Prop :=
 if QS d zone = 0 then s = .t [.inr (d.own 0), .inl (.int .i64 0)] ∧ H = [.arr 46 3 d.zones.length (QhH d.zones)]
 else s = .t [.inr d.cells, .inl (.int .i64 (QS d zone))] ∧ H = []
end Go.Am
namespace Go.Am
def Qbc (z : Zone) : Zone := { z with state := if z.sectors.length = 0 then 0 else 3 }
def QY (l : List Zone) (i : Nat) : List Zone := l.set i (Qbc (l.getD i default))
end Go.Am
namespace Go.Am
def Q1 : List Zone → Nat
 | [] => 0
 | z :: r => if z.state = 1 then 0 else Q1 r + 1
def Qj (d : Dev) (zone : Nat) : Int × List Zone :=
 let l := if d.maxOpen ≤ QL d.zones then (if Q1 d.zones < d.zones.length then some (QY d.zones (Q1 d.zones)) else none) else some d.zones
 match l with
 | none => (8, d.zones)
 | some l => if (l.getD zone default).state ≠ 3 ∧ d.maxActive ≤ Qm l then (9, l) else (0, l)
end Go.Am
namespace Go.Am
theorem Quc (z : Zone) (j : Nat) : leF (z.cellT j) (z.cell j) := by
 match j with
 | 0 => exact leF.refl
 | 1 => exact leF.refl
 | _ + 2 => exact leF.flag
theorem QqS (l : List Zone) (i j : Nat) : leF (QhH l i j) (Qx l i j) := Quc _ _
end Go.Am
namespace Go.Am
theorem QfC : ∀ (l : List Zone) (k : Nat), k < l.length → (∀ i, i < k → (l.getD i default).state ≠ 1) → (l.getD k default).state = 1 → Q1 l = k
 | [], k, h, _, _ => by simp at h
 | z :: r, 0, _, _, h => by simp at h; simp [Q1, h]
 | z :: r, k + 1, h, hn, hk => by
  have h0 := hn 0 (by omega)
  simp at h0
  have := QfC r k (by simpa using h) (fun i hi => by simpa using hn (i + 1) (by omega)) (by simpa using hk)
  simp [Q1, h0, this]
theorem QfE : ∀ (l : List Zone), (∀ i, i < l.length → (l.getD i default).state ≠ 1) → Q1 l = l.length
 | [], _ => rfl
 | z :: r, hn => by
  have h0 := hn 0 (by simp)
  simp at h0
  have := QfE r (fun i hi => by simpa using hn (i + 1) (by simpa using hi))
  simp [Q1, h0, this]
theorem Qee (l : List Zone) (i : Nat) : (QY l i).length = l.length := by simp [QY]
end Go.Am
namespace Go.Am
def Dev.out (d : Dev) (e : Int) : S := .t [.inr d.cells, .inl (.int .i64 e)]
theorem RM.devG {H : List O} {d : Dev} {l : List Zone} {e n : Nat} {g : Nat → Nat → C} {x : Bool} {er er' : Int} (id : Nat) (hid : getL H id = some (.arr e 3 n g)) (him : ∀ i, i < n → ∀ j, j < 3 → (g i j).imm = true)
  (hn : n = l.length) (hg : ∀ i, i < n → ∀ j, j < 3 → leF (g i j) (Qx l i j)) (he : er = er') :
  RM 0 (.t [.inr [.int .i64 d.size, .int .i64 d.maxOpen, .int .i64 d.maxActive, .sl id 3 n n x], .inl (.int .i64 er)]) H (Dev.out { d with zones := l } er') [] := by
 subst he
 exact RM.fz id hid (Nat.zero_le _) him (RM.wk 0 rfl (by cases (fzH id n g H) <;> trivial) (wkS.t ⟨⟨wkC.imm rfl, wkC.imm rfl, wkC.imm rfl, wkC.fz rfl hn hg (fun e => by cases e), trivial⟩, wkC.imm rfl, trivial⟩) (Nat.zero_le _))
theorem RM.dev {H : List O} {d : Dev} {l : List Zone} {e n : Nat} {x : Bool} {er er' : Int} (id : Nat) (hid : getL H id = some (.arr e 3 n (QhH l))) (hn : n = l.length) (he : er = er') :
  RM 0 (.t [.inr [.int .i64 d.size, .int .i64 d.maxOpen, .int .i64 d.maxActive, .sl id 3 n n x], .inl (.int .i64 er)]) H (Dev.out { d with zones := l } er') [] :=
 RM.devG id hid (fun i _ j _ => Qbv _ _ _) hn (fun i _ j _ => QqS _ _ _) he
theorem Qsn {σ : Nat → Nat} {Hc : List O} : ∀ (H : List O) (k : Nat), QcY σ [] Hc k H = H
 | [], _ => rfl
 | o :: r, k => by simp only [QcY, idx, Qsn r (k + 1)]
def QaL (d : Dev) (zone : Int) : Dev := if QS d zone = 0 then { d with zones := d.zones.set zone.toNat zone0 } else d
def QgD (d : Dev) (zone off : Int) : Int := if QS d zone = 0 then if decide (0 ≤ off ∧ off < (d.zones.getD zone.toNat default).sectors.length) then 0 else 10 else QS d zone
def QcU (d : Dev) (zone off : Int) : ByteArray := if QgD d zone off = 0 then (d.zones.getD zone.toNat default).sectors.getD off.toNat ByteArray.empty else ByteArray.empty
theorem Qac {d : Dev} {zone : Int} (h : QS d zone = 0) : d.ok ∧ 0 ≤ zone ∧ zone < d.zones.length := by
 unfold QS at h
 split at h
 ·rename_i h1
  split at h
  ·rename_i h2
   exact ⟨check_ok.1 h1, by simpa using h2⟩
  ·cases h
 ·rename_i h1
  exact absurd h h1
end Go.Am
namespace Go.Am
def QbI (z : Zone) : Zone := if z.state = 4 then z else { z with state := 4, durable := z.sectors.length }
def Qaq (d : Dev) (zone : Int) : Dev := if QS d zone = 0 then { d with zones := d.zones.set zone.toNat (QbI (d.zones.getD zone.toNat default)) } else d
def QqY (d : Dev) (zone : Int) : Int :=
 if QS d zone = 0 then if (d.zones.getD zone.toNat default).state = 4 then 7 else if Qt (d.zones.getD zone.toNat default).state then 0 else (Qj d zone.toNat).1 else QS d zone
def openL (d : Dev) (zone : Nat) : List Zone := if Qt (d.zones.getD zone default).state then d.zones else (Qj d zone).2
def Qjj (d : Dev) (zone : Int) : Dev := if QqY d zone = 0 then { d with zones := (openL d zone.toNat).set zone.toNat { (openL d zone.toNat).getD zone.toNat default with state := 2 } } else d
def Qsx (d : Dev) (zone : Int) : Int := if QS d zone = 0 then if QN (d.zones.getD zone.toNat default).state then 0 else 6 else QS d zone
def Qhq (d : Dev) (zone : Int) : Dev := if Qsx d zone = 0 then if Qt (d.zones.getD zone.toNat default).state then { d with zones := QY d.zones zone.toNat } else d else d
theorem Qlc (d : Dev) (zone : Nat) : (Qj d zone).2.length = d.zones.length := by
 simp only [Qj]
 split
 ·rfl
 ·rename_i l h
  have : l.length = d.zones.length := by
   split at h
   ·split at h
    ·cases h; exact Qee _ _
    ·cases h
   ·cases h; rfl
  split <;> exact this
end Go.Am
namespace Go.Am
def QV (d : Dev) (zone : Int) (s : ByteArray) : Int :=
 if check d = 0 then if decide (0 ≤ zone ∧ zone < d.zones.length) then if s.size = 40 then
  if (d.zones.getD zone.toNat default).state = 5 then 6 else if (d.zones.getD zone.toNat default).state = 4 then 7 else if Qt (d.zones.getD zone.toNat default).state then 0 else (Qj d zone.toNat).1
 else 2 else 5 else check d
def grow (z : Zone) (size : Int) (s : ByteArray) : Zone :=
 if (z.sectors.length : Int) + 1 = size then ⟨4, size, z.sectors ++ [s]⟩ else ⟨if Qt z.state then z.state else 1, z.durable, z.sectors ++ [s]⟩
def Qy (d : Dev) (zone : Int) (s : ByteArray) : Dev :=
 if QV d zone s = 0 then { d with zones := (openL d zone.toNat).set zone.toNat (grow ((openL d zone.toNat).getD zone.toNat default) d.size s) } else d
def Qa7 (d : Dev) (zone : Int) (s : ByteArray) : Int := if QV d zone s = 0 then (d.zones.getD zone.toNat default).sectors.length else 0
def Dev.out3 (d : Dev) (i e : Int) : S := .t [.inr d.cells, .inl (.int .i64 i), .inl (.int .i64 e)]
end Go.Am
namespace Go.Am
theorem Qs4 (secs : List ByteArray) (s : ByteArray) (t : List C) (i : Nat) (h : i < secs.length + 1) : appG (fun i _ => .str (secs.getD i ByteArray.empty)) secs.length (Q4 1 (.str s :: t)) i 0 = .str ((secs ++ [s]).getD i ByteArray.empty) := by
 simp only [appG]
 by_cases c : i < secs.length
 ·rw [if_pos c]
  simp [List.getD, List.getElem?_append_left c]
 ·have : i = secs.length := by omega
  subst this
  rw [if_neg c]
  simp [Q4, lget, getL, List.getD]
theorem Qka (l : List Zone) (i k : Nat) (hi : i < l.length) : ((QY l i).getD k default).sectors = (l.getD k default).sectors := by
 simp only [QY]
 by_cases c : k = i
 ·subst c
  simp [List.getD, hi, Qbc]
 ·simp only [List.getD]
  rw [List.getElem?_set_ne (Ne.symm c)]
theorem QgJ (d : Dev) (zone k : Nat) : ((Qj d zone).2.getD k default).sectors = (d.zones.getD k default).sectors := by
 simp only [Qj]
 split
 ·rfl
 ·rename_i l h
  have : (l.getD k default).sectors = (d.zones.getD k default).sectors := by
   split at h
   ·split at h
    ·rename_i h2
     cases h; exact Qka _ _ _ h2
    ·cases h
   ·cases h; rfl
  split <;> exact this
end Go.Am
namespace Go.Am
end Go.Am
namespace Go.Am
theorem Qln (l : List Zone) (i k : Nat) (h : Qt (l.getD k default).state = false) : Qt ((QY l i).getD k default).state = false := by
 simp only [QY]
 by_cases c : k = i
 ·subst c
  by_cases hk : k < l.length
  ·have : (l.set k (Qbc (l.getD k default))).getD k default = Qbc (l.getD k default) := by simp [List.getD, hk]
   rw [this]
   simp only [Qbc]
   split <;> decide
  ·rw [List.set_eq_of_length_le (by omega)]; exact h
 ·simp only [List.getD] at h ⊢
  rw [List.getElem?_set_ne (Ne.symm c)]
  exact h
theorem Qnn (d : Dev) (zone k : Nat) (h : Qt (d.zones.getD k default).state = false) : Qt ((Qj d zone).2.getD k default).state = false := by
 simp only [Qj]
 split
 ·exact h
 ·rename_i l hl
  have : Qt (l.getD k default).state = false := by
   split at hl
   ·split at hl
    ·cases hl; exact Qln _ _ _ h
    ·cases hl
   ·cases hl; exact h
  split <;> exact this
end Go.Am
namespace Go.Am
def putB (n : Int) (i : Nat) : Int := IntKind.u8.wrap (n.fdiv (2 ^ (min (IntKind.u64.wrap (IntKind.i64.wrap (8 * (i : Int)))).toNat IntKind.i64.bits)))
def putS (n : Int) (size : Nat) : ByteArray := QP size fun i _ => .int .u8 (putB n i)
end Go.Am
namespace Go.Am
def putG (n : Int) (k : Nat) : Nat → Nat → C := fun i _ => if i < k then .int .u8 (putB n i) else .int .u8 0
theorem Qgt (n : Int) (k i j : Nat) : (putG n k i j).imm = true := by
 unfold putG
 split <;> rfl
end Go.Am
namespace Go.Am
theorem QgL {n : Nat} {g g' : Nat → Nat → C} (h : ∀ i, i < n → g i 0 = g' i 0) : QP n g = QP n g' := by
 unfold QP
 congr 2
 refine List.map_congr_left fun i hi => ?_
 rw [h i (by simpa using hi)]
theorem Qbf (n : Nat) (g : Nat → Nat → C) : (QP n g).size = n := by simp [QP, ByteArray.size]
theorem Qgq (n : Int) (k : Nat) : QP k (putG n k) = putS n k := QgL fun i hi => by simp [putG, hi]
theorem Qp (n : Int) (k : Nat) : (putS n k).size = k := Qbf _ _
end Go.Am
namespace Go.Am
def xorU (x y : Int) : Int := IntKind.u32.wrap (BitVec.ofInt IntKind.u32.bits x ^^^ BitVec.ofInt IntKind.u32.bits y).toNat
def andU (x y : Int) : Int := IntKind.u32.wrap (BitVec.ofInt IntKind.u32.bits x &&& BitVec.ofInt IntKind.u32.bits y).toNat
def notU (x : Int) : Int := xorU 4294967295 x
def QhF (x : Int) : Int := x.fdiv (2 ^ min (1 : Int).toNat IntKind.u32.bits)
def QaY (x : Int) : Int := if andU x 1 = 1 then xorU (QhF x) 3988292384 else QhF x
def Qbb (f : Int → Int) : Nat → Int → Int
 | 0, x => x
 | n + 1, x => f (Qbb f n x)
end Go.Am
namespace Go.Am
def QaH (b : ByteArray) (k : Nat) : Int := IntKind.u32.wrap ((b.data.toList.getD k 0).toNat : Int)
def Q3 (sum : Int) (b : ByteArray) : Nat → Int
 | 0 => notU sum
 | k + 1 => Qbb QaY 8 (xorU (Q3 sum b k) (QaH b k))
def addU (sum : Int) (b : ByteArray) : Int := notU (Q3 sum b b.size)
theorem Qis (x : Int) : 0 ≤ IntKind.u32.wrap x ∧ IntKind.u32.wrap x < 4294967296 := by
 rw [IntKind.wrap_u32]; omega
theorem QhI (sum : Int) (b : ByteArray) : 0 ≤ addU sum b ∧ addU sum b < 4294967296 := Qis _
end Go.Am
namespace Go.Am
def padS (b : ByteArray) : ByteArray := if b.size < 20 then b ++ QP (20 - b.size) (fun _ _ => .int .u8 0) else b
theorem Qbu (b : ByteArray) (h : b.size ≤ 20) : (padS b).size = 20 := by
 unfold padS
 split
 ·rw [ByteArray.size_append, Qbf]; omega
 ·omega
end Go.Am
namespace Go.Am
structure Rec where
 kind : Int
 block : Int
 version : Int
 move : Int
 payload : ByteArray
 deriving DecidableEq
def Rec.s (r : Rec) : S := .a [.int .i64 r.kind, .int .i64 r.block, .int .i64 r.version, .int .i64 r.move, .str r.payload]
def QC (r : Rec) : Int :=
 if decide (1 ≤ r.kind ∧ r.kind ≤ 6) then
  if decide (0 ≤ r.block ∧ r.block ≤ 4294967295 ∧ 0 ≤ r.version ∧ r.version ≤ 1099511627776 ∧ 0 ≤ r.move ∧ r.move ≤ 255) then
   if decide (r.payload.size ≤ 20 ∧ (r.kind = 1 → r.payload.size = 16) ∧ (r.kind = 2 → r.payload.size = 0)) then 0 else 2
  else 1
 else 3
def QaJ (r : Rec) : ByteArray :=
 ⟨#[90, 65]⟩ ++ putS r.kind 1 ++ putS r.payload.size 1 ++ putS r.block 4 ++ putS r.version 6 ++ putS r.move 1 ++ ⟨#[0]⟩ ++ padS r.payload
def encR (r : Rec) : ByteArray := if QC r = 0 then QaJ r ++ putS (IntKind.i64.wrap (addU 0 (QaJ r))) 4 else ByteArray.empty
theorem QaR {r : Rec} (h : QC r = 0) : (1 ≤ r.kind ∧ r.kind ≤ 6) ∧ (0 ≤ r.block ∧ r.block ≤ 4294967295 ∧ 0 ≤ r.version ∧ r.version ≤ 1099511627776 ∧ 0 ≤ r.move ∧ r.move ≤ 255) ∧ r.payload.size ≤ 20 := by
 unfold QC at h
 split at h
 ·rename_i h1
  split at h
  ·rename_i h2
   split at h
   ·rename_i h3
    exact ⟨by simpa using h1, by simpa using h2, (by simpa using h3 : _ ∧ _).1⟩
   ·cases h
  ·cases h
 ·cases h
theorem QiX {r : Rec} (h : r.payload.size ≤ 20) : (QaJ r).size = 36 := by
 simp only [QaJ, ByteArray.size_append, Qp, Qbu _ h]
 rfl
theorem QgY {r : Rec} (h : QC r = 0) : (encR r).size = 40 := by
 rw [encR, if_pos h, ByteArray.size_append, QiX (QaR h).2.2, Qp]
theorem Qv5 {b : ByteArray} (h : b.size = 0) : b = ByteArray.empty := by
 cases b with
 | mk d =>
  have : d = #[] := by simpa [ByteArray.size] using h
  subst this
  rfl
end Go.Am
namespace Go.Am
theorem Qgr (l : List Zone) (i a b : Nat) (z : Zone) (hi : i < l.length) : Qx (l.set i z) a b = if a = i then z.cell b else Qx l a b := by
 simp only [Qx]
 by_cases c : a = i
 ·subst c
  simp [List.getD, hi]
 ·rw [if_neg c]
  simp only [List.getD]
  rw [List.getElem?_set_ne (Ne.symm c)]
end Go.Am
namespace Go.Am
theorem RM.devS {H : List O} {d : Dev} {l : List Zone} {e n t : Nat} {g : Nat → Nat → C} {x : Bool} (id : Nat) (hid : getL H id = some (.arr e 3 n g)) (him : ∀ i, i < n → ∀ j, j < 3 → (g i j).imm = true)
  (ht : t = n) (hn : n = l.length) (hg : ∀ i, i < n → ∀ j, j < 3 → leF (g i j) (Qx l i j)) :
  RM 0 (.a [.int .i64 d.size, .int .i64 d.maxOpen, .int .i64 d.maxActive, .sl id 3 t t x]) H (({ d with zones := l } : Dev).s) [] := by
 subst ht
 exact RM.fz id hid (Nat.zero_le _) him (RM.wk 0 rfl (by cases (fzH id t g H) <;> trivial) (wkS.a ⟨wkC.imm rfl, wkC.imm rfl, wkC.imm rfl, wkC.fz rfl hn hg (fun e => by cases e), trivial⟩) (Nat.zero_le _))
theorem QhA {L : List Zone} {k : Nat} {z : Zone} {c : C} {g0 : Nat → Nat → C} (hk : k < L.length) (hc : c = Qbq z.sectors) (i j : Nat) (hj : j < 3) : updG (appG g0 0 (Qx L)) k 0 [.int .i64 z.state, .int .i64 z.durable, c] i j = Qx (L.set k z) i j := by
 subst hc
 rw [Qgr L k i j z hk]
 simp only [updG, List.length_cons, List.length_nil, appG]
 by_cases h : i = k
 ·rw [if_pos (by omega), if_pos h]
  match j, hj with
  | 0, _ => rfl
  | 1, _ => rfl
  | 2, _ => rfl
 ·rw [if_neg (by omega), if_neg h, if_neg (by omega)]
  rfl
end Go.Am
namespace Go.Am
def QbK (d : Dev) (zone : Nat) : Dev := if (Qj d zone).1 = 0 then { d with zones := (Qj d zone).2 } else d
theorem QnQ (l : List Zone) (i k : Nat) (hk : k < l.length) (hi : (l.getD i default).state = 1) (h : Qt (l.getD k default).state = false) : (QY l i).getD k default = l.getD k default := by
 simp only [QY, List.getD]
 rw [List.getElem?_set_ne]
 intro e
 subst e
 rw [hi] at h
 simp [Qt] at h
theorem Qe1 : ∀ (l : List Zone), Q1 l < l.length → (l.getD (Q1 l) default).state = 1
 | [], h => by simp at h
 | z :: r, h => by
  simp only [Q1] at h ⊢
  by_cases c : z.state = 1
  ·rw [if_pos c]; simpa using c
  ·rw [if_neg c] at h ⊢
   have := Qe1 r (by simpa using h)
   simpa using this
end Go.Am
namespace Go.Am
theorem QcG (secs : List ByteArray) (s : ByteArray) (t : List C) (g0 : Nat → Nat → C) (i : Nat) (h : i < secs.length + 1) : appG (appG g0 0 (fun i _ => .str (secs.getD i ByteArray.empty))) secs.length (Q4 1 (.str s :: t)) i 0 = .str ((secs ++ [s]).getD i ByteArray.empty) := by
 have := Qs4 secs s t i h
 simp only [appG] at this ⊢
 by_cases c : i < secs.length
 ·rw [if_pos c] at this ⊢
  rw [if_neg (by omega)]
  exact this
 ·rw [if_neg c] at this ⊢
  exact this
end Go.Am
end

section
namespace Go.Am
def modI (x n : Int) : Int := if n < 1 then 0 else (IntKind.i64.wrap (x.tmod n + n)).tmod n
theorem Qdk {x n : Int} (h : 1 ≤ n) (h' : n ≤ 4611686018427387904) : 0 ≤ modI x n ∧ modI x n < n := by
 unfold modI
 rw [if_neg (by omega)]
 have h1 := Int.tmod_lt_of_pos x (by omega : 0 < n)
 have h2 : -n < x.tmod n := by
  have := Int.neg_tmod x n
  have := Int.tmod_lt_of_pos (-x) (by omega : 0 < n)
  omega
 rw [Qa _ (by omega) (by omega)]
 exact ⟨Int.tmod_nonneg _ (by omega), Int.tmod_lt_of_pos _ (by omega)⟩
theorem Qta {x n : Int} (h : n < 1) : modI x n = 0 := if_pos h
structure DiceM where
 l : List Int
 at_ : Nat
def DiceM.rest (d : DiceM) : Int := (d.l.length : Int) - d.at_
def DiceM.next (d : DiceM) (n : Int) : Int := if d.l.length ≤ d.at_ then 0 else modI (d.l.getD d.at_ 0) n
def DiceM.step (d : DiceM) : DiceM := if d.l.length ≤ d.at_ then d else ⟨d.l, d.at_ + 1⟩
def DiceM.cells (d : DiceM) : List C := [QbY d.l, .int .i64 d.at_]
structure DiceM.ok (d : DiceM) : Prop where
 le : d.at_ ≤ d.l.length
 len : d.l.length ≤ 10000000
theorem DiceM.ok.step {d : DiceM} (h : d.ok) : d.step.ok := by
 unfold DiceM.step
 split
 ·exact h
 ·exact ⟨by dsimp only; omega, h.len⟩
theorem DiceM.next_range (d : DiceM) {n : Int} (h : 1 ≤ n) (h' : n ≤ 4611686018427387904) : 0 ≤ d.next n ∧ d.next n < n := by
 unfold DiceM.next
 split
 ·omega
 ·exact Qdk h h'
end Go.Am
namespace Go.Am
def volI (z : Zone) : Int := if z.durable < z.sectors.length then (z.sectors.length : Int) - max z.durable 0 else 0
def volL (l : List Zone) : List Int := l.map volI
@[simp] theorem volL_len (l : List Zone) : (volL l).length = l.length := by simp [volL]
end Go.Am
namespace Go.Am
def tabL {α : Type} (f : Nat → α) (n : Nat) : List α := (List.range n).map f
section
variable {α : Type} {f : Nat → α}
@[simp] theorem tabL_len (n : Nat) : (tabL f n).length = n := by simp [tabL]
@[simp] theorem tabL_zero : tabL f 0 = [] := rfl
theorem QkK (n : Nat) : tabL f (n + 1) = tabL f n ++ [f n] := by simp [tabL, List.range_succ]
theorem QkV [Inhabited α] {n i : Nat} (h : i < n) : (tabL f n).getD i default = f i := by simp [tabL, List.getD, h]
end
def QhJ (z : Zone) : Zone := { z with durable := z.sectors.length }
def Qqt (z : Zone) (k : Int) : Int := z.durable + min (max k 0) (z.sectors.length - z.durable)
def Qvx (z : Zone) (k : Int) : Zone :=
 ⟨if z.state = 5 ∨ z.state = 4 then z.state else if Qqt z k = 0 then 0 else 3, Qqt z k, z.sectors.take (Qqt z k).toNat⟩
def syncD (d : Dev) : Dev := if check d = 0 then { d with zones := d.zones.map QhJ } else dev0
def crashD (d : Dev) (keep : List Int) : Dev := if check d = 0 then { d with zones := tabL (fun i => Qvx (d.zones.getD i default) (keep.getD i 0)) d.zones.length } else dev0
theorem Qtv {α β : Type} [Inhabited α] (f : α → β) (l : List α) : l.map f = tabL (fun i => f (l.getD i default)) l.length := by
 apply List.ext_getElem
 ·simp
 ·intro i h1 h2
  simp [tabL, List.getD, (by simpa using h1 : i < l.length)]
end Go.Am
namespace Go.Am
def updI (f : Nat → Zone → Zone) (l : List Zone) (k : Nat) : List Zone := tabL (fun i => if i < k then f i (l.getD i default) else l.getD i default) l.length
def updL (f : Zone → Zone) (l : List Zone) (k : Nat) : List Zone := updI (fun _ => f) l k
variable {f : Nat → Zone → Zone} {l : List Zone}
@[simp] theorem updI_len (k : Nat) : (updI f l k).length = l.length := by simp [updI]
@[simp] theorem updL_len {f : Zone → Zone} (k : Nat) : (updL f l k).length = l.length := by simp [updL]
theorem Qvb : tabL (fun i => l.getD i default) l.length = l := by
 rw [← Qtv (fun z => z) l]; simp
theorem Qq8 {α : Type} {f g : Nat → α} {n : Nat} (h : ∀ i, i < n → f i = g i) : tabL f n = tabL g n := by
 unfold tabL
 exact List.map_congr_left fun i hi => h i (by simpa using hi)
@[simp] theorem updI_zero : updI f l 0 = l := by
 conv => rhs; rw [← Qvb (l := l)]
 exact Qq8 fun i _ => by simp
@[simp] theorem updL_zero {f : Zone → Zone} : updL f l 0 = l := updI_zero
end Go.Am
namespace Go.Am
theorem Qrp {l : List Zone} {k : Nat} (hk : k < l.length) (du : Int) (i j : Nat) (hj : j < 3) : updG (Qx l) k 1 [.int .i64 du] i j = Qx (l.set k { l.getD k default with durable := du }) i j :=
 Qc0 (f := Zone.cell) hk (es := 3) (fun j hj => by
  match j, hj with
  | 0, _ => rfl
  | 1, _ => rfl
  | 2, _ => rfl) i j hj
end Go.Am
namespace Go.Am
end Go.Am
namespace Go.Am
theorem Q6 {α : Type} {l : List α} {a n : Nat} {d : α} (h : a < n) : l.getD a d = (l.take n).getD a d := by simp [List.getD, List.getElem?_take, h]
end Go.Am
namespace Go.Am
def Qsc (n : Int) (i : Nat) : Int := IntKind.u8.wrap (modI (IntKind.i64.wrap (n + IntKind.i64.wrap (i * n))) 251)
def QvN (n : Int) (i : Nat) : Int := if i = 0 then IntKind.u8.wrap (IntKind.i64.wrap (1 + modI n 255)) else Qsc n i
def genG (f : Nat → Int) : Nat → Nat → C := fun i _ => .int .u8 (f i)
theorem QnO {f : Nat → Int} {k : Nat} {v : Int} (i j : Nat) (hj : j < 1) : updG (genG f) k 0 [.int .u8 v] i j = genG (fun i => if i = k then v else f i) i j := by
 have : j = 0 := by omega
 subst this
 rw [Qbm]
 simp only [genG]
 split <;> rename_i h
 ·rw [if_pos h.1]
 ·rw [if_neg (fun e => h (by simp [e]))]
def QfK (n : Int) : ByteArray := QP 16 (genG (QvN n))
def recD (d : DiceM) : DiceM := d.step.step.step
def recR (d : DiceM) (blocks version : Int) : Rec :=
 if d.step.step.next 4 = 3 then ⟨2, d.next blocks, version, 0, ByteArray.empty⟩ else ⟨1, d.next blocks, version, 0, QfK (d.step.next 200)⟩
end Go.Am
namespace Go.Am
def cmdN (d : DiceM) : Int := d.step.next 9
def cmdD (d : DiceM) (n : Int) : DiceM := if cmdN d = 0 ∨ cmdN d = 1 ∨ cmdN d = 2 ∨ cmdN d = 3 ∨ cmdN d = 4 then d.step.step else recD d.step.step.step
def cmdS (d : DiceM) : ByteArray := encR (recR d.step.step.step 5 (IntKind.i64.wrap (1 + d.step.step.next 40)))
def cmdX (d : DiceM) (x : Dev) (n : Int) : Dev :=
 if cmdN d = 0 then QaL x (d.next n) else if cmdN d = 1 then Qaq x (d.next n) else if cmdN d = 2 then Qjj x (d.next n) else if cmdN d = 3 then Qhq x (d.next n)
 else if cmdN d = 4 then { x with zones := x.zones.map QhJ } else Qy x (d.next n) (cmdS d)
end Go.Am
namespace Go.Am
theorem Qtg {l : List Zone} {k : Nat} (hk : k < l.length) (st : Int) (i j : Nat) (hj : j < 3) : updG (Qx l) k 0 [.int .i64 st] i j = Qx (l.set k { l.getD k default with state := st }) i j :=
 Qc0 (f := Zone.cell) hk (es := 3) (fun j hj => by
  match j, hj with
  | 0, _ => rfl
  | 1, _ => rfl
  | 2, _ => rfl) i j hj
end Go.Am
namespace Go.Am
theorem QpG {L : List Zone} {k id m : Nat} {gs : Nat → Nat → C} {secs : List ByteArray} {x : Bool} (hk : k < L.length) (hm : m = secs.length) (hgs : ∀ a, a < m → gs a 0 = .str (secs.getD a ByteArray.empty)) (i j : Nat) (hj : j < 3) :
  leF (fzC id m gs (updG (Qx L) k 2 [.sl id 1 m m x] i j)) (Qx (L.set k { L.getD k default with sectors := secs }) i j) ∧ (fzC id m gs (updG (Qx L) k 2 [.sl id 1 m m x] i j)).imm = true := by
 subst hm
 rw [Qgr L k i j _ hk, Qbm]
 by_cases c : i = k ∧ j = 2
 ·obtain ⟨rfl, rfl⟩ := c
  rw [if_pos rfl, if_pos ⟨rfl, rfl⟩, QrK rfl]
  refine ⟨leF.isl rfl (fun a ha b hb => ?_) (fun e => by cases e), rfl⟩
  have : b = 0 := by omega
  subst this
  exact leF.of_eq (hgs a ha)
 ·rw [if_neg c]
  have e : fzC id secs.length gs (Qx L i j) = Qx L i j := QtU _ _ _ _ _
  rw [e]
  refine ⟨?_, QA _ _ _⟩
  by_cases c2 : i = k
  ·subst c2
   rw [if_pos rfl]
   match j, hj with
   | 0, _ => exact leF.refl
   | 1, _ => exact leF.refl
   | 2, _ => exact absurd ⟨rfl, rfl⟩ c
  ·rw [if_neg c2]
   exact leF.refl
end Go.Am
end

section
open Go Go.Am
namespace Go.Proofs
set_option maxRecDepth 20000
section
variable {H : Type} {enc : TypeId × Value → H}
def anyD {α : Type} : α → DataW H → Prop := fun _ _ => True
theorem Rd.any {t : TypeId} {n : Nat} {α : Type} {cell : α → Nat → C} {good : α → DataW H → Prop} (h : Rd enc Tryz.prog t n α cell good) : Rd enc Tryz.prog t n α cell anyD :=
 ⟨h.cells, fun W sp fuel cs x hx => by
  obtain ⟨h1, a, h2, -⟩ := h.out W sp fuel cs x hx
  exact ⟨h1, a, h2, trivial⟩⟩
theorem Qvw : Rd enc Tryz.prog 3 1 Int (fun n _ => .int .i64 n) anyD := Rd.any (Rd.int Tryz.underlying3 (by kernel_rfl))
theorem Qvq : Rd enc Tryz.prog 22 1 (List Int) (fun l _ => QbY l) anyD := Rd.any (Rd.slice Tryz.underlying22 (by kernel_rfl) (by decide) (Qvw (enc := enc)))
theorem QvD {t : TypeId} {α : Type} {cell : α → Nat → C} (R : Rd enc Tryz.prog t 1 α cell anyD) {W : World} {sp : Nat → Bool} {v : Value} {d : DataW H} {ps : List MemPlace} (hv : v.cells = #[v])
  (h : DataW.Trod enc Tryz.prog W 0 sp true t v d ps) : ∃ a, ∀ μ, RepS (Qaw W) [] μ (.c (cell a 0)) v := by
 obtain ⟨fuel, hf⟩ := h
 obtain ⟨hl, a, a1, -⟩ := R.out W sp fuel _ _ hf
 obtain ⟨u, u1, u2⟩ := a1 0 (by decide)
 rw [hv] at u1
 simp at u1
 subst u1
 exact ⟨a, fun μ => RepF.toC [] μ _ _ u2⟩
end
end Go.Proofs
end

section
open Go Go.Am
namespace Go.Proofs
set_option maxRecDepth 20000
structure Evt where
 ret : Bool
 queue : Int
 serial : Int
 kind : Int
 block : Int
 data : ByteArray
 err : Int
 rdata : ByteArray
 deriving DecidableEq
instance : Inhabited Evt := ⟨⟨false, 0, 0, 0, 0, ByteArray.empty, 0, ByteArray.empty⟩⟩
def Evt.cell (e : Evt) : Nat → C
 | 0 => .bool e.ret
 | 1 => .int .i64 e.queue
 | 2 => .int .i64 e.serial
 | 3 => .int .i64 e.kind
 | 4 => .int .i64 e.block
 | 5 => .str e.data
 | 6 => .int .i64 e.err
 | 7 => .str e.rdata
 | _ => .junk
def Evt.cells (e : Evt) : List C := [.bool e.ret, .int .i64 e.queue, .int .i64 e.serial, .int .i64 e.kind, .int .i64 e.block, .str e.data, .int .i64 e.err, .str e.rdata]
def evG (l : List Evt) : Nat → Nat → C := rowG Evt.cell l
def evC (l : List Evt) : C := .isl 8 l.length (evG l) false
theorem Qb7 (e : Evt) (j : Nat) : (e.cell j).imm = true := by
 unfold Evt.cell; split <;> rfl
structure Conf where
 zones : Int
 size : Int
 blocks : Int
 queues : Int
 depth : Int
 shards : Int
 deriving DecidableEq
def Conf.cells (c : Conf) : List C := [.int .i64 c.zones, .int .i64 c.size, .int .i64 c.blocks, .int .i64 c.queues, .int .i64 c.depth, .int .i64 c.shards]
instance : Inhabited Conf := ⟨⟨0, 0, 0, 0, 0, 0⟩⟩
structure Ent where
 block : Int
 kind : Int
 version : Int
 move : Int
 zone : Int
 offset : Int
 deriving DecidableEq
instance : Inhabited Ent := ⟨⟨0, 0, 0, 0, 0, 0⟩⟩
def Ent.cells (e : Ent) : List C := [.int .i64 e.block, .int .i64 e.kind, .int .i64 e.version, .int .i64 e.move, .int .i64 e.zone, .int .i64 e.offset]
def Ent.cell (e : Ent) : Nat → C
 | 0 => .int .i64 e.block
 | 1 => .int .i64 e.kind
 | 2 => .int .i64 e.version
 | 3 => .int .i64 e.move
 | 4 => .int .i64 e.zone
 | 5 => .int .i64 e.offset
 | _ => .junk
def entG (l : List Ent) : Nat → Nat → C := rowG Ent.cell l
def QQ (l : List Ent) : C := .isl 6 l.length (entG l) false
theorem QK (e : Ent) (j : Nat) : (e.cell j).imm = true := by
 unfold Ent.cell; split <;> rfl
def Qd2 (m : List (List Ent)) : Nat → Nat → C := rowG (fun l _ => QQ l) m
def Qh (m : List (List Ent)) : C := .isl 1 m.length (Qd2 m) false
structure Ret where
 zone : Int
 epoch : Int
 deriving DecidableEq
instance : Inhabited Ret := ⟨⟨0, 0⟩⟩
def Ret.cells (r : Ret) : List C := [.int .i64 r.zone, .int .i64 r.epoch]
def Ret.cell (r : Ret) : Nat → C
 | 0 => .int .i64 r.zone
 | 1 => .int .i64 r.epoch
 | _ => .junk
def retG (l : List Ret) : Nat → Nat → C := rowG Ret.cell l
def retC (l : List Ret) : C := .isl 2 l.length (retG l) false
structure Req where
 serial : Int
 kind : Int
 block : Int
 data : ByteArray
 deriving DecidableEq
instance : Inhabited Req := ⟨⟨0, 0, 0, ByteArray.empty⟩⟩
def Req.cells (r : Req) : List C := [.int .i64 r.serial, .int .i64 r.kind, .int .i64 r.block, .str r.data]
def Req.cell (r : Req) : Nat → C
 | 0 => .int .i64 r.serial
 | 1 => .int .i64 r.kind
 | 2 => .int .i64 r.block
 | 3 => .str r.data
 | _ => .junk
def reqG (l : List Req) : Nat → Nat → C := rowG Req.cell l
def reqC (l : List Req) : C := .isl 4 l.length (reqG l) false
structure Rng where
 depth : Int
 items : List Req
 deriving DecidableEq
instance : Inhabited Rng := ⟨⟨0, []⟩⟩
def Rng.cells (r : Rng) : List C := [.int .i64 r.depth, reqC r.items]
def Rng.cell (r : Rng) : Nat → C
 | 0 => .int .i64 r.depth
 | 1 => reqC r.items
 | _ => .junk
def rngG (l : List Rng) : Nat → Nat → C := rowG Rng.cell l
def rngC (l : List Rng) : C := .isl 2 l.length (rngG l) false
structure Wrk where
 state : Int
 req : Req
 ent : Ent
 data : ByteArray
 deriving DecidableEq
instance : Inhabited Wrk := ⟨⟨0, default, default, ByteArray.empty⟩⟩
def Wrk.cells (w : Wrk) : List C := [.int .i64 w.state, .int .i64 w.req.serial, .int .i64 w.req.kind, .int .i64 w.req.block, .str w.req.data, .int .i64 w.ent.block, .int .i64 w.ent.kind, .int .i64 w.ent.version, .int .i64 w.ent.move, .int .i64 w.ent.zone, .int .i64 w.ent.offset, .str w.data]
def Wrk.cell (w : Wrk) : Nat → C
 | 0 => .int .i64 w.state
 | 1 => .int .i64 w.req.serial
 | 2 => .int .i64 w.req.kind
 | 3 => .int .i64 w.req.block
 | 4 => .str w.req.data
 | 5 => .int .i64 w.ent.block
 | 6 => .int .i64 w.ent.kind
 | 7 => .int .i64 w.ent.version
 | 8 => .int .i64 w.ent.move
 | 9 => .int .i64 w.ent.zone
 | 10 => .int .i64 w.ent.offset
 | 11 => .str w.data
 | _ => .junk
def wrkG (l : List Wrk) : Nat → Nat → C := rowG Wrk.cell l
def wrkC (l : List Wrk) : C := .isl 12 l.length (wrkG l) false
structure Cln where
 state : Int
 victim : Int
 offset : Int
 ent : Ent
 pzone : Int
 poff : Int
 deriving DecidableEq
instance : Inhabited Cln := ⟨⟨0, 0, 0, default, 0, 0⟩⟩
structure Sav where
 state : Int
 done : Int
 slot : Int
 seq : Int
 next : Int
 cut : Int
 ents : List Ent
 recs : List Rec
 deriving DecidableEq
instance : Inhabited Sav := ⟨⟨0, 0, 0, 0, 0, 0, [], []⟩⟩
def QaK (r : Rec) : Nat → C
 | 0 => .int .i64 r.kind
 | 1 => .int .i64 r.block
 | 2 => .int .i64 r.version
 | 3 => .int .i64 r.move
 | 4 => .str r.payload
 | _ => .junk
theorem Qar (e : Rec) (j : Nat) : (QaK e j).imm = true := by
 unfold QaK; split <;> rfl
instance : Inhabited Rec := ⟨⟨0, 0, 0, 0, ByteArray.empty⟩⟩
def recG (l : List Rec) : Nat → Nat → C := rowG QaK l
def Qck (l : List Rec) : C := .isl 5 l.length (recG l) false
structure St where
 cfg : Conf
 dev : Dev
 map : List (List Ent)
 live : List Int
 pend : List Int
 owner : List Int
 glob : Int
 pins : List Int
 rets : List Ret
 free : List Int
 host : Int
 lane : Int
 rings : List Rng
 works : List Wrk
 cln : Cln
 sav : Sav
 next : Int
 serial : Int
 seq : Int
 slot : Int
 want : Bool
 closed : Bool
 evs : List Evt
 deriving DecidableEq
instance : Inhabited St := ⟨⟨default, ⟨0, 0, 0, []⟩, [], [], [], [], 0, [], [], [], 0, 0, [], [], default, default, 0, 0, 0, 0, false, false, []⟩⟩
def St.cellsZ (s : St) (fr mp rg wk ev : C) : List C := [.int .i64 s.cfg.zones, .int .i64 s.cfg.size, .int .i64 s.cfg.blocks, .int .i64 s.cfg.queues, .int .i64 s.cfg.depth, .int .i64 s.cfg.shards,
 .int .i64 s.dev.size, .int .i64 s.dev.maxOpen, .int .i64 s.dev.maxActive, Qdl s.dev.zones, mp, QbY s.live, QbY s.pend, QbY s.owner, .int .i64 s.glob, QbY s.pins, retC s.rets, fr, .int .i64 s.host, .int .i64 s.lane, rg, wk,
 .int .i64 s.cln.state, .int .i64 s.cln.victim, .int .i64 s.cln.offset, .int .i64 s.cln.ent.block, .int .i64 s.cln.ent.kind, .int .i64 s.cln.ent.version, .int .i64 s.cln.ent.move, .int .i64 s.cln.ent.zone, .int .i64 s.cln.ent.offset, .int .i64 s.cln.pzone, .int .i64 s.cln.poff,
 .int .i64 s.sav.state, .int .i64 s.sav.done, .int .i64 s.sav.slot, .int .i64 s.sav.seq, .int .i64 s.sav.next, .int .i64 s.sav.cut, QQ s.sav.ents, Qck s.sav.recs,
 .int .i64 s.next, .int .i64 s.serial, .int .i64 s.seq, .int .i64 s.slot, .bool s.want, .bool s.closed, ev]
def St.cellsX (s : St) (mp rg wk ev : C) : List C := s.cellsZ (QbY s.free) mp rg wk ev
def St.cellsW (s : St) (rg wk ev : C) : List C := s.cellsX (Qh s.map) rg wk ev
def St.cells (s : St) : List C := s.cellsW (rngC s.rings) (wrkC s.works) (evC s.evs)
structure St.small (s : St) : Prop where
 dev : s.dev.small
 map : s.map.length ≤ 1000000
 shard : ∀ i, (s.map.getD i default).length ≤ 1000000
 live : s.live.length ≤ 1000000
 pend : s.pend.length ≤ 1000000
 owner : s.owner.length ≤ 1000000
 pins : s.pins.length ≤ 1000000
 rets : s.rets.length ≤ 1000000
 free : s.free.length ≤ 1000000
 rings : s.rings.length ≤ 1000000
 items : ∀ i, (s.rings.getD i default).items.length ≤ 1000000
 works : s.works.length ≤ 1000000
 ents : s.sav.ents.length ≤ 1000000
 recs : s.sav.recs.length ≤ 1000000
 evs : s.evs.length ≤ 1000000
end Go.Proofs
end
