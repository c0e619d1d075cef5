/- Contracts, lemmas; no condition. -/
import Derived.Test.YtjjlblnbeggejaaGreatP08
import Derived.Test.YtjjlblnbeggejaaGreatP10
import Derived.Laws.Bits64
import Derived.Test.YtjjlblnbeggejaaGreatEnv
import Derived.Test.YtjjlblnbeggejaaGreatP11
import Derived.KernelRfl
set_option linter.all false
section
namespace Go.Am
structure Zone where
 state : Int
 durable : Int
 sectors : List ByteArray
 deriving DecidableEq
instance : Inhabited Zone := ⟨⟨0, 0, []⟩⟩
structure Dev where
 size : Int
 maxOpen : Int
 maxActive : Int
 zones : List Zone
 deriving DecidableEq
def Qay (l : List ByteArray) : C := .isl 1 l.length (fun i _ => .str (l.getD i ByteArray.empty)) false
def Zone.cell (z : Zone) : Nat → C
 | 0 => .int .i64 z.state
 | 1 => .int .i64 z.durable
 | _ => Qay z.sectors
def Zone.s (z : Zone) : S := .a [.int .i64 z.state, .int .i64 z.durable, Qay z.sectors]
def Qaa (l : List Zone) : Nat → Nat → C := fun i j => (l.getD i default).cell j
def Qca (l : List Zone) : C := .isl 3 l.length (Qaa l) false
def Dev.s (d : Dev) : S := .a [.int .i64 d.size, .int .i64 d.maxOpen, .int .i64 d.maxActive, Qca d.zones]
def QF (s : Int) : Bool := decide (s = 1 ∨ s = 2)
def QP (s : Int) : Bool := decide (s = 1 ∨ s = 2 ∨ s = 3)
def QH (l : List Zone) : Nat := (l.filter fun z => QF z.state).length
def Qi (l : List Zone) : Nat := (l.filter fun z => QP z.state).length
theorem QcQ {α : Type} [Inhabited α] (l : List α) (i : Nat) (h : i < l.length) : l.getD i default = l[i] := by simp [List.getD, h]
theorem QgH (l : List Zone) (k : Nat) (h : k < l.length) : QH (l.take (k + 1)) = QH (l.take k) + if QF (l.getD k default).state then 1 else 0 := by
 rw [QyG h, QcQ l k h]
 simp only [QH, List.filter_append, QxL, List.filter_cons, List.filter_nil]
 split <;> rfl
theorem Qft (l : List Zone) (k : Nat) (h : k < l.length) : Qi (l.take (k + 1)) = Qi (l.take k) + if QP (l.getD k default).state then 1 else 0 := by
 rw [QyG h, QcQ l k h]
 simp only [Qi, List.filter_append, QxL, List.filter_cons, List.filter_nil]
 split <;> rfl
theorem Qjx (l : List Zone) : QH l ≤ l.length := List.length_filter_le _ _
theorem Qgq (l : List Zone) : Qi l ≤ l.length := List.length_filter_le _ _
theorem Qa (x : Int) (h0 : -9223372036854775808 ≤ x) (h1 : x ≤ 9223372036854775807) : IntKind.i64.wrap x = x := by
 rw [IntKind.wrap_i64]; omega
end Go.Am
end

section
namespace Go.Am
variable {α : Type} {n : Nat} {d : Dev} {H : List O} {l : List Zone} {x : Bool} {er : Int}
def QbX (l : List ByteArray) : Bool := l.all fun s => decide (s.size = 40)
def right (z : Zone) (size : Int) : Bool :=
 decide (0 ≤ z.state ∧ z.state ≤ 5 ∧ (z.sectors.length : Int) ≤ size ∧ 0 ≤ z.durable ∧ z.durable ≤ z.sectors.length ∧ (z.state = 0 ∨ z.state = 5 → z.sectors.length = 0) ∧ (z.state = 4 → z.durable = z.sectors.length) ∧
  (z.state ≠ 0 → z.state ≠ 4 → z.state ≠ 5 → (z.sectors.length : Int) < size)) && QbX z.sectors
def Qbg (d : Dev) : Bool :=
 decide (1 ≤ d.zones.length ∧ d.zones.length ≤ 32 ∧ 3 ≤ d.size ∧ d.size ≤ 64 ∧ 1 ≤ d.maxOpen ∧ d.maxOpen ≤ d.maxActive ∧ d.maxActive ≤ d.zones.length)
def check (d : Dev) : Int :=
 if Qbg d then
  if d.zones.all (fun z => right z d.size) then
   if decide ((QH d.zones : Int) ≤ d.maxOpen ∧ (Qi d.zones : Int) ≤ d.maxActive) then 0 else 6
  else 6
 else 11
theorem QhO (l : List ByteArray) (k : Nat) (h : k < l.length) : QbX (l.take (k + 1)) = (QbX (l.take k) && decide ((l.getD k ByteArray.empty).size = 40)) := by
 rw [QyG h]
 simp only [QbX, List.all_append]
 simp [h]
theorem Qiu (l : List ByteArray) (k : Nat) (h : k < l.length) (hb : (l.getD k ByteArray.empty).size ≠ 40) : QbX l = false := by
 rw [QbX, List.all_eq_false]
 refine ⟨l[k], Qx0 h, ?_⟩
 simpa [h] using hb
theorem Qmd [Inhabited α] (l : List α) (p : α → Bool) (k : Nat) (h : k < l.length) : (l.take (k + 1)).all p = ((l.take k).all p && p (l.getD k default)) := by
 rw [QyG h, QcQ l k h]
 simp only [List.all_append, Qzf, List.all_nil, Bool.and_true]
theorem Qgc [Inhabited α] (l : List α) (p : α → Bool) (k : Nat) (h : k < l.length) (hb : p (l.getD k default) = false) : l.all p = false := by
 rw [QcQ l k h] at hb
 rw [List.all_eq_false]
 exact ⟨l[k], Qx0 h, by simp [hb]⟩
def Qsy (a b : Zone) : Bool := decide (a.state = b.state ∧ a.durable = b.durable ∧ a.sectors.length = b.sectors.length) && decide (a.sectors = b.sectors)
def QoE : List Zone → List Zone → Bool
 | [], [] => true
 | a :: r, b :: r' => Qsy a b && QoE r r'
 | _, _ => false
def same (a b : Dev) : Bool := decide (a.size = b.size ∧ a.maxOpen = b.maxOpen ∧ a.maxActive = b.maxActive ∧ a.zones.length = b.zones.length) && QoE a.zones b.zones
def QbP : Zone := ⟨0, 0, []⟩
def dev0 : Dev := ⟨0, 0, 0, []⟩
def newX (zones size op act : Int) : Dev := ⟨size, op, act, List.replicate zones.toNat QbP⟩
def newE (zones size op act : Int) : Int := if decide (1 ≤ zones ∧ zones ≤ 32) then check (newX zones size op act) else 11
def newD (zones size op act : Int) : Dev := if newE zones size op act = 0 then newX zones size op act else dev0
def Dev.cells (d : Dev) : List C := [.int .i64 d.size, .int .i64 d.maxOpen, .int .i64 d.maxActive, Qca d.zones]
theorem QhT (z : List C) (hz : z = [.int .i64 0, .int .i64 0, .nils]) (n i j : Nat) (hi : i < n) (hj : j < 3) : leF (Qbx z i j) (Qaa (List.replicate n QbP) i j) := by
 subst hz
 have : (List.replicate n QbP).getD i default = QbP := by simp [List.getD, hi]
 simp only [Qaa, this]
 match j, hj with
 | 0, _ => exact leF.refl
 | 1, _ => exact leF.refl
 | 2, _ => exact leF.nil rfl
theorem Qrx (z : List C) (hz : z = [.int .i64 0, .int .i64 0, .nils]) (n i : Nat) (hi : i < n) (j : Nat) (hj : j < 3) : (Qbx z i j).imm = true := by
 subst hz
 match j, hj with
 | 0, _ => rfl
 | 1, _ => rfl
 | 2, _ => rfl
def QlK (l : List ByteArray) : C := .isl 1 l.length (fun i _ => .str (l.getD i ByteArray.empty)) true
def Zone.cellT (z : Zone) : Nat → C
 | 0 => .int .i64 z.state
 | 1 => .int .i64 z.durable
 | _ => QlK z.sectors
def Qn (l : List Zone) : Nat → Nat → C := fun i j => (l.getD i default).cellT j
def Qbk (l : List Zone) (k : Nat) : Nat → Nat → C := fun i j => if i < k then (l.getD i default).cellT j else (l.getD i default).cell j
structure Dev.small (d : Dev) : Prop where
 z : d.zones.length ≤ 10000000
 s : ∀ i, (d.zones.getD i default).sectors.length ≤ 10000000
theorem QmI (z : Zone) (j : Nat) : (z.cell j).imm = true := by
 match j with
 | 0 => rfl
 | 1 => rfl
 | _ + 2 => rfl
theorem QkE (z : Zone) (j : Nat) : (z.cellT j).imm = true := by
 match j with
 | 0 => rfl
 | 1 => rfl
 | _ + 2 => rfl
theorem Qbv (l : List Zone) (i j : Nat) : (Qaa l i j).imm = true := QmI _ _
theorem QT (l : List Zone) (i j : Nat) : (Qn l i j).imm = true := QkE _ _
theorem QhS (l : List Zone) (k i j : Nat) : (Qbk l k i j).imm = true := by
 unfold Qbk
 split
 ·exact QkE _ _
 ·exact QmI _ _
theorem wkC.of_eq {ρ : Nat → Nat} {c c' : C} (hc : c'.imm = true) (h : c = c') : wkC ρ n c c' := by subst h; exact wkC.imm hc
theorem QX (g : Nat → Nat → C) (k j0 : Nat) (x : C) (i j : Nat) : updG g k j0 [x] i j = if i = k ∧ j = j0 then x else g i j := by
 simp only [updG, QxR, Qx5]
 by_cases h : i = k ∧ j = j0
 ·obtain ⟨rfl, rfl⟩ := h
  rw [Qxt om, Qxt ⟨rfl, rfl⟩]
  simp [lget, getL]
 ·rw [Qxu om, Qxu h]
theorem Qsp (id n : Nat) (g : Nat → Nat → C) (z : Zone) (j : Nat) : fzC id n g (z.cell j) = z.cell j := by
 match j with
 | 0 => rfl
 | 1 => rfl
 | _ + 2 => rfl
theorem QkJ (id n : Nat) (g : Nat → Nat → C) (z : Zone) (j : Nat) : fzC id n g (z.cellT j) = z.cellT j := by
 match j with
 | 0 => rfl
 | 1 => rfl
 | _ + 2 => rfl
theorem QnA (id n : Nat) (g : Nat → Nat → C) (l : List Zone) (k i j : Nat) : fzC id n g (Qbk l k i j) = Qbk l k i j := by
 unfold Qbk
 split
 ·exact QkJ _ _ _ _ _
 ·exact Qsp _ _ _ _ _
theorem Qs4 (z : Zone) (j : Nat) (h : j < 2) : z.cellT j = z.cell j := by
 match j, h with
 | 0, _ => rfl
 | 1, _ => rfl
theorem QnQ (l : List Zone) (i j : Nat) (h : i < l.length) : Qbk l l.length i j = Qn l i j := by
 simp only [Qbk, Qn, Qxt h]
theorem QrK (σ : Nat → Nat) (z : Zone) (j : Nat) : reC σ (z.cellT j) = z.cellT j := by
 match j with
 | 0 => rfl
 | 1 => rfl
 | _ + 2 => rfl
theorem Qdt (σ : Nat → Nat) (l : List Zone) : (fun i j => reC σ (Qn l i j)) = Qn l := by
 funext i j; exact QrK _ _ _
theorem QkH {z : Zone} {size : Int} (h : right z size = true) : (z.sectors.length : Int) ≤ size := by
 simp only [right, QxA, Qxw] at h
 exact h.1.2.2.1
structure Dev.ok (d : Dev) : Prop where
 conf : Qbg d = true
 zones : ∀ z ∈ d.zones, right z d.size = true
 op : (QH d.zones : Int) ≤ d.maxOpen
 act : (Qi d.zones : Int) ≤ d.maxActive
theorem check_ok : check d = 0 ↔ d.ok := by
 unfold check
 constructor
 ·intro h
  split at h
  ·rename_i h1
   split at h
   ·rename_i h2
    split at h
    ·rename_i h3
     simp only [Qxw] at h3
     exact ⟨h1, Qx2.1 h2, h3.1, h3.2⟩
    ·cases h
   ·cases h
  ·cases h
 ·intro h
  rw [Qxt h.conf, Qxt (Qx2.2 h.zones), Qxt (Qxz ⟨h.op, h.act⟩)]
theorem Dev.ok.small {d : Dev} (h : d.ok) : d.small := by
 have hc := h.conf
 simp only [Qbg, Qxw] at hc
 refine ⟨om, fun i => ?_⟩
 by_cases hi : i < d.zones.length
 ·have hm : d.zones.getD i default ∈ d.zones := by
   rw [QcQ _ _ hi]; exact Qx0 hi
  have := QkH (h.zones _ hm)
  omega
 ·have : d.zones.getD i default = default := by simp [List.getD, QyB hi]
  rw [this]
  exact Qxx _
def QG (d : Dev) (zone : Int) : Int :=
 if check d = 0 then if decide (0 ≤ zone ∧ zone < d.zones.length) then if (d.zones.getD zone.toNat default).state = 5 then 6 else 0 else 5 else check d
def Dev.own (d : Dev) (id : Nat) : List C := [.int .i64 d.size, .int .i64 d.maxOpen, .int .i64 d.maxActive, .sl id 3 d.zones.length d.zones.length true]
def Qfs (d : Dev) (zone : Int) (s : S) (H : List O) : Prop :=
 if QG d zone = 0 then s = .t [.inr (d.own 0), .inl (.int .i64 0)] ∧ H = [.arr 76 3 d.zones.length (Qn d.zones)]
 else s = .t [.inr d.cells, .inl (.int .i64 (QG d zone))] ∧ H = []
def QaM (z : Zone) : Zone := { z with state := if z.sectors.length = 0 then 0 else 3 }
def QD (l : List Zone) (i : Nat) : List Zone := l.set i (QaM (l.getD i default))
def Ql : List Zone → Nat
 | [] => 0
 | z :: r => if z.state = 1 then 0 else Ql r + 1
def Qe (d : Dev) (zone : Nat) : Int × List Zone :=
 let l := if d.maxOpen ≤ QH d.zones then (if Ql d.zones < d.zones.length then some (QD d.zones (Ql d.zones)) else none) else some d.zones
 match l with
 | none => (8, d.zones)
 | some l => if (l.getD zone default).state ≠ 3 ∧ d.maxActive ≤ Qi l then (9, l) else (0, l)
theorem QuL (z : Zone) (j : Nat) : leF (z.cellT j) (z.cell j) := by
 match j with
 | 0 => exact leF.refl
 | 1 => exact leF.refl
 | _ + 2 => exact Qxd
theorem QuG (l : List Zone) (i j : Nat) : leF (Qn l i j) (Qaa l i j) := QuL _ _
theorem Qdc : ∀ (l : List Zone) (k : Nat), k < l.length → (∀ i, i < k → (l.getD i default).state ≠ 1) → (l.getD k default).state = 1 → Ql l = k
 | [], k, h, _, _ => by simp at h
 | z :: r, 0, _, _, h => by simp at h; simp [Ql, h]
 | z :: r, k + 1, h, hn, hk => by
  have h0 := hn 0 om
  simp at h0
  have := Qdc r k (by simpa using h) (fun i hi => by simpa using hn (i + 1) om) (by simpa using hk)
  simp [Ql, h0, this]
theorem Qdk : ∀ (l : List Zone), (∀ i, i < l.length → (l.getD i default).state ≠ 1) → Ql l = l.length
 | [], _ => rfl
 | z :: r, hn => by
  have h0 := hn 0 (by simp)
  simp at h0
  have := Qdk r (fun i hi => by simpa using hn (i + 1) (by simpa using hi))
  simp [Ql, h0, this]
theorem Qga (l : List Zone) (i : Nat) : (QD l i).length = l.length := by simp [QD]
def Dev.out (d : Dev) (e : Int) : S := .t [.inr d.cells, .inl (.int .i64 e)]
theorem Qxm {e : Nat} {g : Nat → Nat → C} {er' : Int} (id : Nat) (hid : getL H id = some (.arr e 3 n g)) (him : ∀ i, i < n → ∀ j, j < 3 → (g i j).imm = true)
  (hn : n = l.length) (hg : ∀ i, i < n → ∀ j, j < 3 → leF (g i j) (Qaa l i j)) (he : er = er') :
  RM 0 (.t [.inr [.int .i64 d.size, .int .i64 d.maxOpen, .int .i64 d.maxActive, .sl id 3 n n x], .inl (.int .i64 er)]) H (Dev.out { d with zones := l } er') [] := by
 subst he
 exact RM.fz id hid (Qxx _) him (RM.wk 0 rfl (by cases (fzH id n g H) <;> trivial) (wkS.t ⟨⟨wkC.imm rfl, wkC.imm rfl, wkC.imm rfl, wkC.fz rfl hn hg (fun e => by cases e), trivial⟩, wkC.imm rfl, trivial⟩) (Qxx _))
theorem RM.dev {e : Nat} {er' : Int} (id : Nat) (hid : getL H id = some (.arr e 3 n (Qn l))) (hn : n = l.length) (he : er = er') :
  RM 0 (.t [.inr [.int .i64 d.size, .int .i64 d.maxOpen, .int .i64 d.maxActive, .sl id 3 n n x], .inl (.int .i64 er)]) H (Dev.out { d with zones := l } er') [] :=
 Qxm id hid (fun i _ j _ => QT _ _ _) hn (fun i _ j _ => QuG _ _ _) he
theorem Qgw {σ : Nat → Nat} {Hc : List O} : ∀ (H : List O) (k : Nat), Qdv σ [] Hc k H = H
 | [], _ => rfl
 | o :: r, k => by simp only [Qdv, idx, Qgw r (k + 1)]
theorem Qa2 (H : List O) (e n : Nat) (l : List Zone) : plug [] H [.arr e 3 n (Qn l)] = H ++ [.arr e 3 n (Qn l)] := by
 unfold plug
 rw [Qgw]
 simp only [Qx5, QfP, reHL, reO, Qdt]
theorem Qng (H : List O) : plug [] H [] = H := by
 unfold plug
 rw [Qgw]
 simp [QfP, reHL]
def QdD (d : Dev) (zone off : Int) : Int := if QG d zone = 0 then if decide (0 ≤ off ∧ off < (d.zones.getD zone.toNat default).sectors.length) then 0 else 10 else QG d zone
def Q5 (d : Dev) (zone off : Int) : ByteArray := if QdD d zone off = 0 then (d.zones.getD zone.toNat default).sectors.getD off.toNat ByteArray.empty else ByteArray.empty
theorem QcA {zone : Int} (h : QG d zone = 0) : d.ok ∧ 0 ≤ zone ∧ zone < d.zones.length := by
 unfold QG at h
 split at h
 ·rename_i h1
  split at h
  ·rename_i h2
   exact ⟨check_ok.1 h1, by simpa using h2⟩
  ·cases h
 ·rename_i h1
  exact absurd h h1
def Qal (d : Dev) (zone : Nat) : List Zone := if QF (d.zones.getD zone default).state then d.zones else (Qe d zone).2
theorem QgF (d : Dev) (zone : Nat) : (Qe d zone).2.length = d.zones.length := by
 simp only [Qe]
 split
 ·rfl
 ·rename_i l h
  have : l.length = d.zones.length := by
   split at h
   ·split at h
    ·cases h; exact Qga _ _
    ·cases h
   ·cases h; rfl
  split <;> exact this
def Qj (d : Dev) (zone : Int) (s : ByteArray) : Int :=
 if check d = 0 then if decide (0 ≤ zone ∧ zone < d.zones.length) then if s.size = 40 then
  if (d.zones.getD zone.toNat default).state = 5 then 6 else if (d.zones.getD zone.toNat default).state = 4 then 7 else if QF (d.zones.getD zone.toNat default).state then 0 else (Qe d zone.toNat).1
 else 2 else 5 else check d
def grow (z : Zone) (size : Int) (s : ByteArray) : Zone :=
 if (z.sectors.length : Int) + 1 = size then ⟨4, size, z.sectors ++ [s]⟩ else ⟨if QF z.state then z.state else 1, z.durable, z.sectors ++ [s]⟩
def Qf (d : Dev) (zone : Int) (s : ByteArray) : Dev :=
 if Qj d zone s = 0 then { d with zones := (Qal d zone.toNat).set zone.toNat (grow ((Qal d zone.toNat).getD zone.toNat default) d.size s) } else d
def QA (d : Dev) (zone : Int) (s : ByteArray) : Int := if Qj d zone s = 0 then (d.zones.getD zone.toNat default).sectors.length else 0
def QwS (d : Dev) (i e : Int) : S := .t [.inr d.cells, .inl (.int .i64 i), .inl (.int .i64 e)]
theorem QcM (secs : List ByteArray) (s : ByteArray) (t : List C) (i : Nat) (h : i < secs.length + 1) : appG (fun i _ => .str (secs.getD i ByteArray.empty)) secs.length (QaE 1 (.str s :: t)) i 0 = .str ((secs ++ [s]).getD i ByteArray.empty) := by
 simp only [appG]
 by_cases c : i < secs.length
 ·rw [Qxt c]
  simp [List.getD, QxS c]
 ·have : i = secs.length := by omega
  subst this
  rw [Qxu c]
  simp [QaE, lget, getL, List.getD]
theorem QjV (l : List Zone) (i k : Nat) (hi : i < l.length) : ((QD l i).getD k default).sectors = (l.getD k default).sectors := by
 simp only [QD]
 by_cases c : k = i
 ·subst c
  simp [List.getD, hi, QaM]
 ·simp only [List.getD]
  rw [Qym (QyL c)]
theorem QdY (d : Dev) (zone k : Nat) : ((Qe d zone).2.getD k default).sectors = (d.zones.getD k default).sectors := by
 simp only [Qe]
 split
 ·rfl
 ·rename_i l h
  have : (l.getD k default).sectors = (d.zones.getD k default).sectors := by
   split at h
   ·split at h
    ·rename_i h2
     cases h; exact QjV _ _ _ h2
    ·cases h
   ·cases h; rfl
  split <;> exact this
end Go.Am
namespace Go.Am
theorem Qln (l : List Zone) (i k : Nat) (h : QF (l.getD k default).state = false) : QF ((QD l i).getD k default).state = false := by
 simp only [QD]
 by_cases c : k = i
 ·subst c
  by_cases hk : k < l.length
  ·have : (l.set k (QaM (l.getD k default))).getD k default = QaM (l.getD k default) := by simp [List.getD, hk]
   rw [this]
   simp only [QaM]
   split <;> decide
  ·rw [List.set_eq_of_length_le om]; exact h
 ·simp only [List.getD] at h ⊢
  rw [Qym (QyL c)]
  exact h
theorem Qg1 (d : Dev) (zone k : Nat) (h : QF (d.zones.getD k default).state = false) : QF ((Qe d zone).2.getD k default).state = false := by
 simp only [Qe]
 split
 ·exact h
 ·rename_i l hl
  have : QF (l.getD k default).state = false := by
   split at hl
   ·split at hl
    ·cases hl; exact Qln _ _ _ h
    ·cases hl
   ·cases hl; exact h
  split <;> exact this
def putB (n : Int) (i : Nat) : Int := IntKind.u8.wrap (n.fdiv (2 ^ (min (IntKind.u64.wrap (IntKind.i64.wrap (8 * (i : Int)))).toNat IntKind.i64.bits)))
def putS (n : Int) (size : Nat) : ByteArray := QQ size fun i _ => .int .u8 (putB n i)
def putG (n : Int) (k : Nat) : Nat → Nat → C := fun i _ => if i < k then .int .u8 (putB n i) else .int .u8 0
theorem Qik (n : Int) (k i j : Nat) : (putG n k i j).imm = true := by
 unfold putG
 split <;> rfl
theorem Qgf {n : Nat} {g g' : Nat → Nat → C} (h : ∀ i, i < n → g i 0 = g' i 0) : QQ n g = QQ n g' := by
 unfold QQ
 congr 2
 refine List.map_congr_left fun i hi => ?_
 rw [h i (by simpa using hi)]
theorem Qa0 (n : Nat) (g : Nat → Nat → C) : (QQ n g).size = n := by simp [QQ, ByteArray.size]
theorem Qip (n : Int) (k : Nat) : QQ k (putG n k) = putS n k := Qgf fun i hi => by simp [putG, hi]
theorem QI (n : Int) (k : Nat) : (putS n k).size = k := Qa0 _ _
def xorU (x y : Int) : Int := IntKind.u32.wrap (BitVec.ofInt IntKind.u32.bits x ^^^ BitVec.ofInt IntKind.u32.bits y).toNat
def andU (x y : Int) : Int := IntKind.u32.wrap (BitVec.ofInt IntKind.u32.bits x &&& BitVec.ofInt IntKind.u32.bits y).toNat
def notU (x : Int) : Int := xorU 4294967295 x
def Qho (x : Int) : Int := x.fdiv (2 ^ min (1 : Int).toNat IntKind.u32.bits)
def QaL (x : Int) : Int := if andU x 1 = 1 then xorU (Qho x) 3988292384 else Qho x
def QaX (f : Int → Int) : Nat → Int → Int
 | 0, x => x
 | n + 1, x => f (QaX f n x)
def Qav (b : ByteArray) (k : Nat) : Int := IntKind.u32.wrap ((b.data.toList.getD k 0).toNat : Int)
def Q1 (sum : Int) (b : ByteArray) : Nat → Int
 | 0 => notU sum
 | k + 1 => QaX QaL 8 (xorU (Q1 sum b k) (Qav b k))
def addU (sum : Int) (b : ByteArray) : Int := notU (Q1 sum b b.size)
theorem Qif (x : Int) : 0 ≤ IntKind.u32.wrap x ∧ IntKind.u32.wrap x < 4294967296 := by
 rw [IntKind.wrap_u32]; omega
theorem Qfq (sum : Int) (b : ByteArray) : 0 ≤ addU sum b ∧ addU sum b < 4294967296 := Qif _
def padS (b : ByteArray) : ByteArray := if b.size < 20 then b ++ QQ (20 - b.size) (fun _ _ => .int .u8 0) else b
theorem QaZ (b : ByteArray) (h : b.size ≤ 20) : (padS b).size = 20 := by
 unfold padS
 split
 ·rw [QxZ, Qa0]; omega
 ·omega
structure Rec where
 kind : Int
 block : Int
 version : Int
 move : Int
 payload : ByteArray
 deriving DecidableEq
def Rec.s (r : Rec) : S := .a [.int .i64 r.kind, .int .i64 r.block, .int .i64 r.version, .int .i64 r.move, .str r.payload]
def Qm (r : Rec) : Int :=
 if decide (1 ≤ r.kind ∧ r.kind ≤ 6) then
  if decide (0 ≤ r.block ∧ r.block ≤ 4294967295 ∧ 0 ≤ r.version ∧ r.version ≤ 1099511627776 ∧ 0 ≤ r.move ∧ r.move ≤ 255) then
   if decide (r.payload.size ≤ 20 ∧ (r.kind = 1 → r.payload.size = 16) ∧ (r.kind = 2 → r.payload.size = 0)) then 0 else 2
  else 1
 else 3
def QV (r : Rec) : ByteArray :=
 ⟨#[90, 65]⟩ ++ putS r.kind 1 ++ putS r.payload.size 1 ++ putS r.block 4 ++ putS r.version 6 ++ putS r.move 1 ++ ⟨#[0]⟩ ++ padS r.payload
def encR (r : Rec) : ByteArray := if Qm r = 0 then QV r ++ putS (IntKind.i64.wrap (addU 0 (QV r))) 4 else ByteArray.empty
theorem QaY {r : Rec} (h : Qm r = 0) : (1 ≤ r.kind ∧ r.kind ≤ 6) ∧ (0 ≤ r.block ∧ r.block ≤ 4294967295 ∧ 0 ≤ r.version ∧ r.version ≤ 1099511627776 ∧ 0 ≤ r.move ∧ r.move ≤ 255) ∧ r.payload.size ≤ 20 := by
 unfold Qm at h
 split at h
 ·rename_i h1
  split at h
  ·rename_i h2
   split at h
   ·rename_i h3
    exact ⟨by simpa using h1, by simpa using h2, (by simpa using h3 : _ ∧ _).1⟩
   ·cases h
  ·cases h
 ·cases h
theorem Qd7 {r : Rec} (h : r.payload.size ≤ 20) : (QV r).size = 36 := by
 simp only [QV, QxZ, QI, QaZ _ h]
 rfl
theorem QuA {b : ByteArray} (h : b.size = 0) : b = ByteArray.empty := by
 cases b with
 | mk d =>
  have : d = #[] := by simpa [ByteArray.size] using h
  subst this
  rfl
theorem Qpf (l : List Zone) (i a b : Nat) (z : Zone) (hi : i < l.length) : Qaa (l.set i z) a b = if a = i then z.cell b else Qaa l a b := by
 simp only [Qaa]
 by_cases c : a = i
 ·subst c
  simp [List.getD, hi]
 ·rw [Qxu c]
  simp only [List.getD]
  rw [Qym (QyL c)]
theorem Qxk {H : List O} {d : Dev} {l : List Zone} {e n t : Nat} {g : Nat → Nat → C} {x : Bool} (id : Nat) (hid : getL H id = some (.arr e 3 n g)) (him : ∀ i, i < n → ∀ j, j < 3 → (g i j).imm = true)
  (ht : t = n) (hn : n = l.length) (hg : ∀ i, i < n → ∀ j, j < 3 → leF (g i j) (Qaa l i j)) :
  RM 0 (.a [.int .i64 d.size, .int .i64 d.maxOpen, .int .i64 d.maxActive, .sl id 3 t t x]) H (({ d with zones := l } : Dev).s) [] := by
 subst ht
 exact RM.fz id hid (Qxx _) him (RM.wk 0 rfl (by cases (fzH id t g H) <;> trivial) (wkS.a ⟨wkC.imm rfl, wkC.imm rfl, wkC.imm rfl, wkC.fz rfl hn hg (fun e => by cases e), trivial⟩) (Qxx _))
theorem QkQ {L : List Zone} {k : Nat} {z : Zone} {c : C} {g0 : Nat → Nat → C} (hk : k < L.length) (hc : c = Qay z.sectors) (i j : Nat) (hj : j < 3) : updG (appG g0 0 (Qaa L)) k 0 [.int .i64 z.state, .int .i64 z.durable, c] i j = Qaa (L.set k z) i j := by
 subst hc
 rw [Qpf L k i j z hk]
 simp only [updG, QxR, Qx5, appG]
 by_cases h : i = k
 ·rw [Qxt om, Qxt h]
  match j, hj with
  | 0, _ => rfl
  | 1, _ => rfl
  | 2, _ => rfl
 ·rw [Qxu om, Qxu h, Qxu om]
  rfl
def QbU (d : Dev) (zone : Nat) : Dev := if (Qe d zone).1 = 0 then { d with zones := (Qe d zone).2 } else d
theorem Qmk (l : List Zone) (i k : Nat) (hk : k < l.length) (hi : (l.getD i default).state = 1) (h : QF (l.getD k default).state = false) : (QD l i).getD k default = l.getD k default := by
 simp only [QD, List.getD]
 rw [Qym]
 intro e
 subst e
 rw [hi] at h
 simp [QF] at h
theorem QeT : ∀ (l : List Zone), Ql l < l.length → (l.getD (Ql l) default).state = 1
 | [], h => by simp at h
 | z :: r, h => by
  simp only [Ql] at h ⊢
  by_cases c : z.state = 1
  ·rw [Qxt c]; simpa using c
  ·rw [Qxu c] at h ⊢
   have := QeT r (by simpa using h)
   simpa using this
theorem Qee (secs : List ByteArray) (s : ByteArray) (t : List C) (g0 : Nat → Nat → C) (i : Nat) (h : i < secs.length + 1) : appG (appG g0 0 (fun i _ => .str (secs.getD i ByteArray.empty))) secs.length (QaE 1 (.str s :: t)) i 0 = .str ((secs ++ [s]).getD i ByteArray.empty) := by
 have := QcM secs s t i h
 simp only [appG] at this ⊢
 by_cases c : i < secs.length
 ·rw [Qxt c] at this ⊢
  rw [Qxu om]
  exact this
 ·rw [Qxu c] at this ⊢
  exact this
end Go.Am
end

section
open Go Go.Am
namespace Go.Proofs
set_option maxRecDepth 20000
structure Evt where
 ret : Bool
 queue : Int
 serial : Int
 kind : Int
 block : Int
 data : ByteArray
 err : Int
 rdata : ByteArray
 deriving DecidableEq
instance : Inhabited Evt := ⟨⟨false, 0, 0, 0, 0, ByteArray.empty, 0, ByteArray.empty⟩⟩
def Evt.cell (e : Evt) : Nat → C
 | 0 => .bool e.ret
 | 1 => .int .i64 e.queue
 | 2 => .int .i64 e.serial
 | 3 => .int .i64 e.kind
 | 4 => .int .i64 e.block
 | 5 => .str e.data
 | 6 => .int .i64 e.err
 | 7 => .str e.rdata
 | _ => .junk
def Evt.cells (e : Evt) : List C := [.bool e.ret, .int .i64 e.queue, .int .i64 e.serial, .int .i64 e.kind, .int .i64 e.block, .str e.data, .int .i64 e.err, .str e.rdata]
def evG (l : List Evt) : Nat → Nat → C := rowG Evt.cell l
def evC (l : List Evt) : C := .isl 8 l.length (evG l) false
theorem Qd5 (e : Evt) (j : Nat) : (e.cell j).imm = true := by
 unfold Evt.cell; split <;> rfl
structure Conf where
 zones : Int
 size : Int
 blocks : Int
 queues : Int
 depth : Int
 shards : Int
 deriving DecidableEq
def Conf.cells (c : Conf) : List C := [.int .i64 c.zones, .int .i64 c.size, .int .i64 c.blocks, .int .i64 c.queues, .int .i64 c.depth, .int .i64 c.shards]
instance : Inhabited Conf := ⟨⟨0, 0, 0, 0, 0, 0⟩⟩
structure Ent where
 block : Int
 kind : Int
 version : Int
 move : Int
 zone : Int
 offset : Int
 deriving DecidableEq
instance : Inhabited Ent := ⟨⟨0, 0, 0, 0, 0, 0⟩⟩
def Ent.cells (e : Ent) : List C := [.int .i64 e.block, .int .i64 e.kind, .int .i64 e.version, .int .i64 e.move, .int .i64 e.zone, .int .i64 e.offset]
def Ent.cell (e : Ent) : Nat → C
 | 0 => .int .i64 e.block
 | 1 => .int .i64 e.kind
 | 2 => .int .i64 e.version
 | 3 => .int .i64 e.move
 | 4 => .int .i64 e.zone
 | 5 => .int .i64 e.offset
 | _ => .junk
def entG (l : List Ent) : Nat → Nat → C := rowG Ent.cell l
def Qap (l : List Ent) : C := .isl 6 l.length (entG l) false
theorem Qaw (e : Ent) (j : Nat) : (e.cell j).imm = true := by
 unfold Ent.cell; split <;> rfl
def QcE (m : List (List Ent)) : Nat → Nat → C := rowG (fun l _ => Qap l) m
def QC (m : List (List Ent)) : C := .isl 1 m.length (QcE m) false
structure Ret where
 zone : Int
 epoch : Int
 deriving DecidableEq
instance : Inhabited Ret := ⟨⟨0, 0⟩⟩
def Ret.cells (r : Ret) : List C := [.int .i64 r.zone, .int .i64 r.epoch]
def Ret.cell (r : Ret) : Nat → C
 | 0 => .int .i64 r.zone
 | 1 => .int .i64 r.epoch
 | _ => .junk
def retG (l : List Ret) : Nat → Nat → C := rowG Ret.cell l
def retC (l : List Ret) : C := .isl 2 l.length (retG l) false
theorem Qe6 (e : Ret) (j : Nat) : (e.cell j).imm = true := by
 unfold Ret.cell; split <;> rfl
structure Req where
 serial : Int
 kind : Int
 block : Int
 data : ByteArray
 deriving DecidableEq
instance : Inhabited Req := ⟨⟨0, 0, 0, ByteArray.empty⟩⟩
def Req.cells (r : Req) : List C := [.int .i64 r.serial, .int .i64 r.kind, .int .i64 r.block, .str r.data]
def Req.cell (r : Req) : Nat → C
 | 0 => .int .i64 r.serial
 | 1 => .int .i64 r.kind
 | 2 => .int .i64 r.block
 | 3 => .str r.data
 | _ => .junk
def reqG (l : List Req) : Nat → Nat → C := rowG Req.cell l
def reqC (l : List Req) : C := .isl 4 l.length (reqG l) false
theorem QhJ (e : Req) (j : Nat) : (e.cell j).imm = true := by
 unfold Req.cell; split <;> rfl
structure Rng where
 depth : Int
 items : List Req
 deriving DecidableEq
instance : Inhabited Rng := ⟨⟨0, []⟩⟩
def Rng.cells (r : Rng) : List C := [.int .i64 r.depth, reqC r.items]
def Rng.cell (r : Rng) : Nat → C
 | 0 => .int .i64 r.depth
 | 1 => reqC r.items
 | _ => .junk
def rngG (l : List Rng) : Nat → Nat → C := rowG Rng.cell l
def rngC (l : List Rng) : C := .isl 2 l.length (rngG l) false
theorem Qau (e : Rng) (j : Nat) : (e.cell j).imm = true := by
 unfold Rng.cell; split <;> rfl
structure Wrk where
 state : Int
 req : Req
 ent : Ent
 data : ByteArray
 deriving DecidableEq
instance : Inhabited Wrk := ⟨⟨0, default, default, ByteArray.empty⟩⟩
def Wrk.cells (w : Wrk) : List C := [.int .i64 w.state, .int .i64 w.req.serial, .int .i64 w.req.kind, .int .i64 w.req.block, .str w.req.data, .int .i64 w.ent.block, .int .i64 w.ent.kind, .int .i64 w.ent.version, .int .i64 w.ent.move, .int .i64 w.ent.zone, .int .i64 w.ent.offset, .str w.data]
def Wrk.cell (w : Wrk) : Nat → C
 | 0 => .int .i64 w.state
 | 1 => .int .i64 w.req.serial
 | 2 => .int .i64 w.req.kind
 | 3 => .int .i64 w.req.block
 | 4 => .str w.req.data
 | 5 => .int .i64 w.ent.block
 | 6 => .int .i64 w.ent.kind
 | 7 => .int .i64 w.ent.version
 | 8 => .int .i64 w.ent.move
 | 9 => .int .i64 w.ent.zone
 | 10 => .int .i64 w.ent.offset
 | 11 => .str w.data
 | _ => .junk
def wrkG (l : List Wrk) : Nat → Nat → C := rowG Wrk.cell l
def wrkC (l : List Wrk) : C := .isl 12 l.length (wrkG l) false
theorem QaW (e : Wrk) (j : Nat) : (e.cell j).imm = true := by
 unfold Wrk.cell; split <;> rfl
structure Cln where
 state : Int
 victim : Int
 offset : Int
 ent : Ent
 pzone : Int
 poff : Int
 deriving DecidableEq
instance : Inhabited Cln := ⟨⟨0, 0, 0, default, 0, 0⟩⟩
structure Sav where
 state : Int
 done : Int
 slot : Int
 seq : Int
 next : Int
 cut : Int
 ents : List Ent
 recs : List Rec
 deriving DecidableEq
instance : Inhabited Sav := ⟨⟨0, 0, 0, 0, 0, 0, [], []⟩⟩
def Qeu (r : Rec) : Nat → C
 | 0 => .int .i64 r.kind
 | 1 => .int .i64 r.block
 | 2 => .int .i64 r.version
 | 3 => .int .i64 r.move
 | 4 => .str r.payload
 | _ => .junk
theorem QhE (e : Rec) (j : Nat) : (Qeu e j).imm = true := by
 unfold Qeu; split <;> rfl
instance : Inhabited Rec := ⟨⟨0, 0, 0, 0, ByteArray.empty⟩⟩
def recG (l : List Rec) : Nat → Nat → C := rowG Qeu l
def Qqr (l : List Rec) : C := .isl 5 l.length (recG l) false
structure St where
 cfg : Conf
 dev : Dev
 map : List (List Ent)
 live : List Int
 pend : List Int
 owner : List Int
 glob : Int
 pins : List Int
 rets : List Ret
 free : List Int
 host : Int
 lane : Int
 rings : List Rng
 works : List Wrk
 cln : Cln
 sav : Sav
 next : Int
 serial : Int
 seq : Int
 slot : Int
 want : Bool
 closed : Bool
 evs : List Evt
 deriving DecidableEq
instance : Inhabited St := ⟨⟨default, ⟨0, 0, 0, []⟩, [], [], [], [], 0, [], [], [], 0, 0, [], [], default, default, 0, 0, 0, 0, false, false, []⟩⟩
def St.cellsZ (s : St) (fr mp rg wk ev : C) : List C := [.int .i64 s.cfg.zones, .int .i64 s.cfg.size, .int .i64 s.cfg.blocks, .int .i64 s.cfg.queues, .int .i64 s.cfg.depth, .int .i64 s.cfg.shards,
 .int .i64 s.dev.size, .int .i64 s.dev.maxOpen, .int .i64 s.dev.maxActive, Qca s.dev.zones, mp, Qh s.live, Qh s.pend, Qh s.owner, .int .i64 s.glob, Qh s.pins, retC s.rets, fr, .int .i64 s.host, .int .i64 s.lane, rg, wk,
 .int .i64 s.cln.state, .int .i64 s.cln.victim, .int .i64 s.cln.offset, .int .i64 s.cln.ent.block, .int .i64 s.cln.ent.kind, .int .i64 s.cln.ent.version, .int .i64 s.cln.ent.move, .int .i64 s.cln.ent.zone, .int .i64 s.cln.ent.offset, .int .i64 s.cln.pzone, .int .i64 s.cln.poff,
 .int .i64 s.sav.state, .int .i64 s.sav.done, .int .i64 s.sav.slot, .int .i64 s.sav.seq, .int .i64 s.sav.next, .int .i64 s.sav.cut, Qap s.sav.ents, Qqr s.sav.recs,
 .int .i64 s.next, .int .i64 s.serial, .int .i64 s.seq, .int .i64 s.slot, .bool s.want, .bool s.closed, ev]
def St.cellsX (s : St) (mp rg wk ev : C) : List C := s.cellsZ (Qh s.free) mp rg wk ev
def St.cellsW (s : St) (rg wk ev : C) : List C := s.cellsX (QC s.map) rg wk ev
def St.cells (s : St) : List C := s.cellsW (rngC s.rings) (wrkC s.works) (evC s.evs)
structure St.small (s : St) : Prop where
 dev : s.dev.small
 map : s.map.length ≤ 1000000
 shard : ∀ i, (s.map.getD i default).length ≤ 1000000
 live : s.live.length ≤ 1000000
 pend : s.pend.length ≤ 1000000
 owner : s.owner.length ≤ 1000000
 pins : s.pins.length ≤ 1000000
 rets : s.rets.length ≤ 1000000
 free : s.free.length ≤ 1000000
 rings : s.rings.length ≤ 1000000
 items : ∀ i, (s.rings.getD i default).items.length ≤ 1000000
 works : s.works.length ≤ 1000000
 ents : s.sav.ents.length ≤ 1000000
 recs : s.sav.recs.length ≤ 1000000
 evs : s.evs.length ≤ 1000000
end Go.Proofs
end

section
open Go Go.Am
namespace Go.Proofs
set_option maxRecDepth 20000
section
variable {H : Type} {enc : TypeId × Value → H}
theorem Qt9 : Rd enc Tryz.prog 3 1 Int (fun n _ => .int .i64 n) fun n d => (Lit.int .i64 n).wf = true ∧ d = .lit (.int .i64 n) := Rd.int Tryz.underlying3 (by kernel_rfl)
theorem QtM : Rd enc Tryz.prog 22 1 (List Int) (fun l _ => .isl 1 l.length (rowG (fun n _ => .int .i64 n) l) false) (Qtv fun n d => (Lit.int .i64 n).wf = true ∧ d = .lit (.int .i64 n)) := Rd.slice Tryz.underlying22 (by kernel_rfl) (by decide) Qt9
theorem QtU {t : TypeId} {α : Type} {cell : α → C} {good : α → DataW H → Prop} (R : Rd enc Tryz.prog t 1 α (fun a _ => cell a) good) {W : World} {sp : Nat → Bool} {v : Value} {d : DataW H} {ps : List MemPlace}
  (hv : v.cells = #[v]) (h : DataW.Trod enc Tryz.prog W 0 sp true t v d ps) : ∃ a, good a d ∧ ∀ μ, RepS (QaV W) [] μ (.c (cell a)) v := by
 obtain ⟨fuel, hf⟩ := h
 obtain ⟨hl, a, a1, a2⟩ := R.out W sp fuel _ _ hf
 obtain ⟨u, u1, u2⟩ := a1 0 (by decide)
 rw [hv] at u1
 simp at u1
 subst u1
 exact ⟨a, a2, fun μ => RepS.ofF u2⟩
end
end Go.Proofs
end

section
open Go Go.Am
namespace Go.Proofs
set_option maxRecDepth 20000
variable {c : Conf}
theorem Q0 {p : Nat → Prop} {k : Nat} (h : ∀ i, i < k → p i) (hk : p k) : ∀ i, i < k + 1 → p i := fun i hi => by
 by_cases c : i = k
 ·subst c; exact hk
 ·exact h i om
def Qz (c : Conf) : Int := (c.blocks + 2 + c.size - 1).tdiv c.size
def Qp (c : Conf) : Int := c.zones - 2 * Qz c
def capN (c : Conf) : Int := (Qp c - 3) * (c.size - 1) - c.queues - 1
def Qby (c : Conf) : Bool := decide (3 ≤ c.size ∧ c.size ≤ 64 ∧ 1 ≤ c.zones ∧ c.zones ≤ 32 ∧ 1 ≤ c.blocks ∧ c.blocks ≤ 128 ∧ 1 ≤ c.queues ∧ c.queues ≤ 4 ∧ 1 ≤ c.depth ∧ c.depth ≤ 8 ∧ 1 ≤ c.shards ∧ c.shards ≤ 8)
def QB (c : Conf) : Int := if Qby c = true then if Qp c < 6 ∨ capN c < 1 then 11 else 0 else 1
theorem confR_iff : Qby c = true ↔ 3 ≤ c.size ∧ c.size ≤ 64 ∧ 1 ≤ c.zones ∧ c.zones ≤ 32 ∧ 1 ≤ c.blocks ∧ c.blocks ≤ 128 ∧ 1 ≤ c.queues ∧ c.queues ≤ 4 ∧ 1 ≤ c.depth ∧ c.depth ≤ 8 ∧ 1 ≤ c.shards ∧ c.shards ≤ 8 := by
 unfold Qby; rw [Qxw]
theorem QR (h : QB c = 0) : Qby c = true ∧ 6 ≤ Qp c ∧ 1 ≤ capN c := by
 unfold QB at h
 split at h
 ·rename_i hr
  split at h
  ·omega
  ·exact ⟨hr, om, om⟩
 ·omega
theorem Qak (h : Qby c = true) : 1 ≤ Qz c ∧ Qz c ≤ 130 := by
 rw [confR_iff] at h
 unfold Qz
 have h0 : 0 ≤ c.blocks + 2 + c.size - 1 := by omega
 rw [QyS h0]
 constructor
 ·have : 1 * c.size ≤ c.blocks + 2 + c.size - 1 := by omega
  exact (Int.le_ediv_iff_mul_le om).2 this
 ·have : (c.blocks + 2 + c.size - 1) < 131 * c.size := by omega
  have := Int.ediv_lt_of_lt_mul om this
  omega
def Qam (c : Conf) (z : Int) : Bool := decide (QB c = 0 ∧ 2 * Qz c ≤ z ∧ z < c.zones)
def QaQ (e : Ent) : Bool := decide ((e.kind = 1 ∨ e.kind = 2) ∧ 1 ≤ e.version ∧ e.version ≤ 1099511627776 ∧ 0 ≤ e.move ∧ e.move ≤ 255 ∧ 0 ≤ e.block ∧ 0 ≤ e.zone ∧ 0 ≤ e.offset)
def QM (l : List Ent) : Bool := decide (∀ i, i < l.length → QaQ (l.getD i default) = true ∧ (0 < i → (l.getD (i - 1) default).block < (l.getD i default).block))
def Qan (l : List Ent) (n i : Nat) : Bool := decide (∀ k, k < l.length → (l.getD k default).block.tmod n = i)
def Qx (m : List (List Ent)) : Bool := decide (1 ≤ m.length ∧ m.length ≤ 8) && decide (∀ i, i < m.length → QM (m.getD i default) = true ∧ Qan (m.getD i default) m.length i = true)
def Qr (live pend : List Int) : Bool := decide (live.length = pend.length ∧ 1 ≤ live.length ∧ live.length ≤ 32) && decide (∀ i, i < live.length → 0 ≤ live.getD i default ∧ live.getD i default ≤ 1099511627776 ∧ 0 ≤ pend.getD i default ∧ pend.getD i default ≤ 1099511627776)
def QbI (o : List Int) : Bool := decide (1 ≤ o.length ∧ o.length ≤ 8) && decide (∀ i, i < o.length → -1 ≤ o.getD i default)
def Qm4 (glob : Int) (pins : List Int) : Bool := decide (∀ i, i < pins.length → pins.getD i default = -1 ∨ 0 ≤ pins.getD i default ∧ (pins.getD i default = glob ∨ pins.getD i default = glob - 1))
def Qnn (glob : Int) (rets : List Ret) : Bool := decide (∀ i, i < rets.length → 0 ≤ (rets.getD i default).zone ∧ 0 ≤ (rets.getD i default).epoch ∧ (rets.getD i default).epoch ≤ glob ∧ ∀ j, j < i → (rets.getD j default).zone ≠ (rets.getD i default).zone)
def QL (glob : Int) (pins : List Int) (rets : List Ret) : Bool := decide (1 ≤ pins.length ∧ pins.length ≤ 4 ∧ 0 ≤ glob ∧ glob ≤ 1099511627776) && (Qm4 glob pins && Qnn glob rets)
def Qex (c : Conf) (free : List Int) (z : Int) : Bool := decide (z = -1 ∨ Qam c z = true ∧ z ∉ free)
def Qg4 (c : Conf) (free : List Int) : Bool := decide (∀ i, i < free.length → Qam c (free.getD i default) = true ∧ (0 < i → free.getD (i - 1) default < free.getD i default))
def poolOk (c : Conf) (free : List Int) (host lane : Int) : Bool := decide (QB c = 0) && (Qg4 c free && (Qex c free host && (Qex c free lane && decide (host = -1 ∨ host ≠ lane))))
def QbH (r : Rng) : Bool := decide (1 ≤ r.depth ∧ r.depth ≤ 8 ∧ (r.items.length : Int) ≤ r.depth) && decide (∀ i, i < r.items.length → 0 ≤ (r.items.getD i default).serial ∧ (0 < i → (r.items.getD (i - 1) default).serial < (r.items.getD i default).serial))
def cmdE (c : Conf) (r : Req) : Int :=
 if r.kind < 1 ∨ 4 < r.kind then 3 else if r.kind = 4 ∧ r.block ≠ 0 ∨ r.kind ≠ 4 ∧ (r.block < 0 ∨ c.blocks ≤ r.block) then 1 else if r.kind = 2 ∧ r.data.size ≠ 16 ∨ r.kind ≠ 2 ∧ r.data.size ≠ 0 then 2 else 0
def Qd3 (c : Conf) (w : Wrk) : Bool := decide (w.state = 0 ∨ cmdE c w.req = 0 ∧ (w.req.kind = 1 → 1 ≤ w.state ∧ w.state ≤ 4) ∧ (w.req.kind = 4 → w.state = 10 ∨ w.state = 11) ∧ (w.req.kind ≠ 1 → w.req.kind ≠ 4 → 5 ≤ w.state ∧ w.state ≤ 9))
def QaJ (m : List (List Ent)) (n : Int) : Bool := decide (∀ i, i < m.length → ∀ k, k < (m.getD i default).length → ((m.getD i default).getD k default).block < n)
def QaT (s : St) : Bool :=
 decide (QB s.cfg = 0) && (decide (check s.dev = 0) && (decide ((s.dev.zones.length : Int) = s.cfg.zones ∧ s.dev.size = s.cfg.size) && (Qx s.map && (decide ((s.map.length : Int) = s.cfg.shards) && (QaJ s.map s.cfg.blocks && (Qr s.live s.pend && (decide ((s.live.length : Int) = s.cfg.zones) && (QbI s.owner && (decide ((s.owner.length : Int) = s.cfg.shards) && (QL s.glob s.pins s.rets && (decide ((s.pins.length : Int) = s.cfg.queues) && (poolOk s.cfg s.free s.host s.lane && (decide ((s.rings.length : Int) = s.cfg.queues ∧ (s.works.length : Int) = s.cfg.queues) &&
  decide (1 ≤ s.next ∧ s.next ≤ 1099511627776 ∧ 0 ≤ s.serial ∧ s.serial ≤ 1099511627776))))))))))))))
def Qdn (s : St) (i : Nat) : Bool :=
 QbH (s.rings.getD i default) && (decide ((s.rings.getD i default).depth = s.cfg.depth) && (Qd3 s.cfg (s.works.getD i default) && (decide ((s.works.getD i default).state = 0 ∨ (s.works.getD i default).req.serial < s.serial) && decide (∀ k, k < (s.rings.getD i default).items.length → ((s.rings.getD i default).items.getD k default).serial < s.serial))))
def QaI (s : St) : Bool := QaT s && (decide (∀ i, i < s.rings.length → Qdn s i = true) && decide (∀ i, i < s.evs.length → (s.evs.getD i default).serial < s.serial))
def Qq4 (l : List Evt) (n : Int) : Bool := l.any fun e => e.ret && decide (e.serial = n)
def QsU (l : List Evt) (n : Int) : Bool := l.any fun e => !e.ret && decide (e.serial = n)
def Qmm (l : List Evt) : Nat → List Int
 | 0 => []
 | k + 1 => if (l.getD k default).ret = false ∧ Qq4 l (l.getD k default).serial = false ∧ QsU (l.take k) (l.getD k default).serial = false then Qmm l k ++ [(l.getD k default).serial] else Qmm l k
def QtE (l : List Evt) : List Int := Qmm l l.length
theorem Qhz (l : List Evt) : ∀ k, (Qmm l k).length ≤ k
 | 0 => QxB _
 | k + 1 => by
  have := Qhz l k
  simp only [Qmm]
  split
  ·simp; omega
  ·omega
end Go.Proofs
end
