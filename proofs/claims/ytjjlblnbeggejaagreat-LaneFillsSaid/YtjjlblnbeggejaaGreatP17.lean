/- Contracts, lemmas; no condition. -/
import Derived.Test.YtjjlblnbeggejaaGreatP16
import Derived.Test.YtjjlblnbeggejaaGreatP10
import Derived.Test.YtjjlblnbeggejaaGreatP12
import Derived.Test.YtjjlblnbeggejaaGreatP15
set_option linter.all false
section
namespace Go.Am
structure RightZ (z : Zone) (size : Int) : Prop where
 st : 0 ≤ z.state ∧ z.state ≤ 5
 len : (z.sectors.length : Int) ≤ size
 dur : 0 ≤ z.durable ∧ z.durable ≤ z.sectors.length
 emp : z.state = 0 ∨ z.state = 5 → z.sectors.length = 0
 full : z.state = 4 → z.durable = z.sectors.length
 part : z.state ≠ 0 → z.state ≠ 4 → z.state ≠ 5 → (z.sectors.length : Int) < size
 secs : ∀ s ∈ z.sectors, s.size = 40
theorem right_iff {z : Zone} {size : Int} : right z size = true ↔ RightZ z size := by
 simp only [right, Bool.and_eq_true, decide_eq_true_eq, QbX, List.all_eq_true]
 constructor
 ·rintro ⟨⟨h1, h2, h3, h4, h5, h6, h7, h8⟩, h9⟩
  exact ⟨⟨h1, h2⟩, h3, ⟨h4, h5⟩, h6, h7, h8, h9⟩
 ·rintro ⟨⟨h1, h2⟩, h3, ⟨h4, h5⟩, h6, h7, h8, h9⟩
  exact ⟨⟨h1, h2, h3, h4, h5, h6, h7, h8⟩, h9⟩
theorem Qhn (p : Zone → Bool) (z : Zone) : ∀ (l : List Zone) (i : Nat), i < l.length → ((l.set i z).filter p).length + (if p (l.getD i default) = true then 1 else 0) = (l.filter p).length + (if p z = true then 1 else 0)
 | [], i, h => by simp at h
 | x :: r, 0, _ => by
  simp only [List.set_cons_zero, List.filter_cons, List.getD_cons_zero]
  by_cases h1 : p x = true <;> by_cases h2 : p z = true <;> simp [h1, h2]
 | x :: r, i + 1, h => by
  have ih := Qhn p z r i (by simpa using h)
  simp only [List.set_cons_succ, List.filter_cons, List.getD_cons_succ]
  by_cases h1 : p x = true
  ·rw [if_pos h1, if_pos h1, List.length_cons, List.length_cons]; omega
  ·rw [if_neg h1, if_neg h1]; exact ih
theorem Qe7 {l : List Zone} {i : Nat} (h : i < l.length) (z : Zone) : QH (l.set i z) + (if QF (l.getD i default).state = true then 1 else 0) = QH l + (if QF z.state = true then 1 else 0) := Qhn (fun z => QF z.state) z l i h
theorem QdZ {l : List Zone} {i : Nat} (h : i < l.length) (z : Zone) : Qi (l.set i z) + (if QP (l.getD i default).state = true then 1 else 0) = Qi l + (if QP z.state = true then 1 else 0) := Qhn (fun z => QP z.state) z l i h
def AllR (l : List Zone) (size : Int) : Prop := ∀ z ∈ l, RightZ z size
theorem Dev.ok.all {d : Dev} (h : d.ok) : AllR d.zones d.size := fun z hz => right_iff.1 (h.zones z hz)
theorem AllR.get {l : List Zone} {size : Int} (h : AllR l size) {i : Nat} (hi : i < l.length) : RightZ (l.getD i default) size := by
 rw [QcQ _ _ hi]; exact h _ (List.getElem_mem hi)
theorem AllR.set {l : List Zone} {size : Int} (h : AllR l size) {i : Nat} {z : Zone} (hz : RightZ z size) : AllR (l.set i z) size := by
 intro x hx
 rcases List.mem_or_eq_of_mem_set hx with h1 | h1
 ·exact h x h1
 ·rw [h1]; exact hz
structure Dev.conf3 (d : Dev) : Prop where
 n : 1 ≤ d.zones.length ∧ d.zones.length ≤ 32
 size : 3 ≤ d.size ∧ d.size ≤ 64
 op : 1 ≤ d.maxOpen ∧ d.maxOpen ≤ d.maxActive ∧ d.maxActive ≤ d.zones.length
theorem confOk_iff {d : Dev} : Qbg d = true ↔ d.conf3 := by
 simp only [Qbg, decide_eq_true_eq]
 constructor
 ·rintro ⟨h1, h2, h3, h4, h5, h6, h7⟩
  exact ⟨⟨h1, h2⟩, ⟨h3, h4⟩, h5, h6, h7⟩
 ·rintro ⟨⟨h1, h2⟩, ⟨h3, h4⟩, h5, h6, h7⟩
  exact ⟨h1, h2, h3, h4, h5, h6, h7⟩
theorem Dev.ok.with {d : Dev} (h : d.ok) {l : List Zone} (hn : l.length = d.zones.length) (hr : AllR l d.size) (ho : (QH l : Int) ≤ d.maxOpen) (ha : (Qi l : Int) ≤ d.maxActive) : Dev.ok { d with zones := l } := by
 refine ⟨?_, fun z hz => right_iff.2 (hr z hz), ho, ha⟩
 have := confOk_iff.1 h.conf
 refine confOk_iff.2 ⟨?_, this.size, ?_⟩
 ·dsimp only; rw [hn]; exact this.n
 ·dsimp only; rw [hn]; exact this.op
theorem isOpen_iff {n : Int} : QF n = true ↔ n = 1 ∨ n = 2 := by simp [QF]
theorem isActive_iff {n : Int} : QP n = true ↔ n = 1 ∨ n = 2 ∨ n = 3 := by simp [QP]
theorem RightZ.shut {z : Zone} {size : Int} (h : RightZ z size) (ho : QF z.state = true) : RightZ (QaM z) size := by
 have ho' := isOpen_iff.1 ho
 unfold QaM
 by_cases c : z.sectors.length = 0
 ·rw [if_pos c]
  exact ⟨by dsimp only; omega, h.len, h.dur, fun _ => c, fun e => (by cases e), fun e => absurd rfl e, h.secs⟩
 ·rw [if_neg c]
  exact ⟨by dsimp only; omega, h.len, h.dur, fun e => by dsimp only at e; omega, fun e => (by cases e), fun _ _ _ => h.part (by omega) (by omega) (by omega), h.secs⟩
theorem Qqi (z : Zone) : QF (QaM z).state = false ∧ ((QaM z).state = 0 ∨ (QaM z).state = 3) := by
 unfold QaM
 split
 ·exact ⟨rfl, .inl rfl⟩
 ·exact ⟨rfl, .inr rfl⟩
theorem Qpj {l : List Zone} {i : Nat} (hi : i < l.length) (ho : QF (l.getD i default).state = true) : QH (QD l i) + 1 = QH l ∧ Qi (QD l i) ≤ Qi l := by
 have e1 := Qe7 hi (QaM (l.getD i default))
 have e2 := QdZ hi (QaM (l.getD i default))
 have hs := (Qqi (l.getD i default)).1
 rw [if_pos ho, if_neg (by rw [hs]; decide)] at e1
 have ha : QP (l.getD i default).state = true := by
  have := isOpen_iff.1 ho
  exact isActive_iff.2 (by omega)
 rw [if_pos ha] at e2
 refine ⟨e1, ?_⟩
 have : Qi (QD l i) + 1 = Qi l + (if QP (QaM (l.getD i default)).state = true then 1 else 0) := e2
 split at this <;> omega
structure RoomOk (d : Dev) (zone : Nat) (l : List Zone) : Prop where
 len : l.length = d.zones.length
 all : AllR l d.size
 op : (QH l : Int) + 1 ≤ d.maxOpen
 act : (l.getD zone default).state = 3 ∧ (Qi l : Int) ≤ d.maxActive ∨ (Qi l : Int) + 1 ≤ d.maxActive
theorem Qt3 {d : Dev} (h : d.ok) {zone : Nat} (hr : (Qe d zone).1 = 0) : RoomOk d zone (Qe d zone).2 := by
 have h1 := h.op
 have h2 := h.act
 by_cases c : d.maxOpen ≤ QH d.zones
 ·by_cases c2 : Ql d.zones < d.zones.length
  ·have hs := QeT _ c2
   have ho : QF (d.zones.getD (Ql d.zones) default).state = true := isOpen_iff.2 (.inl hs)
   obtain ⟨e1, e2⟩ := Qpj c2 ho
   have e : Qe d zone = if ((QD d.zones (Ql d.zones)).getD zone default).state ≠ 3 ∧ d.maxActive ≤ Qi (QD d.zones (Ql d.zones)) then (9, QD d.zones (Ql d.zones)) else (0, QD d.zones (Ql d.zones)) := by
    simp only [Qe]
    rw [if_pos c, if_pos c2]
   rw [e] at hr ⊢
   split at hr
   ·cases hr
   ·rename_i c3
    rw [if_neg c3]
    refine ⟨Qga _ _, h.all.set ((h.all.get c2).shut ho), by dsimp only; omega, ?_⟩
    dsimp only
    by_cases c4 : ((QD d.zones (Ql d.zones)).getD zone default).state = 3
    ·exact .inl ⟨c4, by omega⟩
    ·right; omega
  ·have e : Qe d zone = (8, d.zones) := by
    simp only [Qe]
    rw [if_pos c, if_neg c2]
   rw [e] at hr
   cases hr
 ·have e : Qe d zone = if (d.zones.getD zone default).state ≠ 3 ∧ d.maxActive ≤ Qi d.zones then (9, d.zones) else (0, d.zones) := by
   simp only [Qe]
   rw [if_neg c]
  rw [e] at hr ⊢
  split at hr
  ·cases hr
  ·rename_i c3
   rw [if_neg c3]
   refine ⟨rfl, h.all, by dsimp only; omega, ?_⟩
   dsimp only
   by_cases c4 : (d.zones.getD zone default).state = 3
   ·exact .inl ⟨c4, by omega⟩
   ·right; omega
theorem Qsm {d : Dev} (h : d.ok) {zone : Nat} (hk : zone < d.zones.length) (hr : QF (d.zones.getD zone default).state = true ∨ (Qe d zone).1 = 0) :
  (Qal d zone).length = d.zones.length ∧ AllR (Qal d zone) d.size ∧ (∀ z : Zone, (QH ((Qal d zone).set zone z) : Int) ≤ d.maxOpen) ∧ (∀ z : Zone, (Qi ((Qal d zone).set zone z) : Int) ≤ d.maxActive) := by
 have h1 := h.op
 have h2 := h.act
 unfold Qal
 by_cases c : QF (d.zones.getD zone default).state = true
 ·rw [if_pos c]
  have ha : QP (d.zones.getD zone default).state = true := by
   have := isOpen_iff.1 c
   exact isActive_iff.2 (by omega)
  refine ⟨rfl, h.all, fun z => ?_, fun z => ?_⟩
  ·have e := Qe7 hk z
   rw [if_pos c] at e
   split at e <;> omega
  ·have e := QdZ hk z
   rw [if_pos ha] at e
   split at e <;> omega
 ·rw [if_neg c]
  have hr0 := hr.resolve_left c
  have R := Qt3 h hr0
  have hk' : zone < (Qe d zone).2.length := by rw [R.len]; exact hk
  refine ⟨R.len, R.all, fun z => ?_, fun z => ?_⟩
  ·have e := Qe7 hk' z
   have := R.op
   split at e <;> split at e <;> omega
  ·have e := QdZ hk' z
   rcases R.act with ⟨a1, a2⟩ | a1
   ·rw [if_pos (isActive_iff.2 (by omega))] at e
    split at e <;> omega
   ·split at e <;> split at e <;> omega
theorem Qkj (d : Dev) (zone k : Nat) : ((Qal d zone).getD k default).sectors = (d.zones.getD k default).sectors := by
 unfold Qal
 split
 ·rfl
 ·exact QdY d zone k
theorem Qkq (d : Dev) (zone : Nat) : (Qal d zone).length = d.zones.length := by
 unfold Qal
 split
 ·rfl
 ·exact QgF d zone
theorem Qo8 {l : List Zone} {i : Nat} (hi : i < l.length) (k : Nat) : ((QD l i).getD k default).durable = (l.getD k default).durable := by
 simp only [QD]
 by_cases c : k = i
 ·subst c
  simp [List.getD, hi, QaM]
 ·simp only [List.getD]
  rw [List.getElem?_set_ne (Ne.symm c)]
theorem Qr8 (d : Dev) (zone k : Nat) : ((Qe d zone).2.getD k default).durable = (d.zones.getD k default).durable := by
 simp only [Qe]
 split
 ·rfl
 ·rename_i l h
  have : (l.getD k default).durable = (d.zones.getD k default).durable := by
   split at h
   ·split at h
    ·rename_i h2
     cases h; exact Qo8 h2 _
    ·cases h
   ·cases h; rfl
  split <;> exact this
theorem QqM (d : Dev) (zone k : Nat) : ((Qal d zone).getD k default).durable = (d.zones.getD k default).durable := by
 unfold Qal
 split
 ·rfl
 ·exact Qr8 d zone k
theorem Que {d : Dev} {zone : Int} (h : QG d zone = 0) : (d.zones.getD zone.toNat default).state ≠ 5 := by
 intro h5
 obtain ⟨hok, h0, h1⟩ := QcA h
 have : QG d zone = 6 := by
  simp only [QG, check_ok.2 hok, if_pos, decide_eq_true (show 0 ≤ zone ∧ zone < d.zones.length from ⟨h0, h1⟩), if_pos h5]
 omega
theorem QgW {d : Dev} {zone : Int} {s : ByteArray} (he : Qj d zone s = 0) : QG d zone = 0 ∧ s.size = 40 ∧ (d.zones.getD zone.toNat default).state ≠ 4 ∧ (QF (d.zones.getD zone.toNat default).state = true ∨ (Qe d zone.toNat).1 = 0) := by
 unfold Qj at he
 split at he
 ·rename_i hc
  split at he
  ·rename_i hr
   split at he
   ·rename_i hs
    split at he
    ·cases he
    ·rename_i h5
     split at he
     ·cases he
     ·rename_i h4
      have hb : QG d zone = 0 := by simp only [QG, hc, if_pos, hr, if_neg h5]
      split at he
      ·exact ⟨hb, hs, h4, .inl (by assumption)⟩
      ·exact ⟨hb, hs, h4, .inr he⟩
   ·cases he
  ·cases he
 ·exact absurd he (by assumption)
theorem QkV {d : Dev} (h : d.ok) (zone : Int) (s : ByteArray) : (Qf d zone s).ok := by
 unfold Qf
 split
 ·rename_i he
  obtain ⟨hb, hs, h4, hr⟩ := QgW he
  obtain ⟨_, h0, h1⟩ := QcA hb
  have h5 := Que hb
  have hk : zone.toNat < d.zones.length := by omega
  obtain ⟨o1, o2, o3, o4⟩ := Qsm h hk hr
  refine h.with (by simp [o1]) (o2.set ?_) (o3 _) (o4 _)
  have hz := h.all.get hk
  have hsz := (confOk_iff.1 h.conf).size
  have e := Qkj d zone.toNat zone.toNat
  have e2 := QqM d zone.toNat zone.toNat
  have hlt : ((d.zones.getD zone.toNat default).sectors.length : Int) < d.size := by
   by_cases c : (d.zones.getD zone.toNat default).state = 0
   ·have := hz.emp (.inl c); omega
   ·exact hz.part c h4 h5
  have hsec : ∀ t ∈ ((Qal d zone.toNat).getD zone.toNat default).sectors ++ [s], t.size = 40 := by
   intro t ht
   rcases List.mem_append.1 ht with ht | ht
   ·rw [e] at ht; exact hz.secs t ht
   ·rw [List.mem_singleton.1 ht]; exact hs
  have hd := hz.dur
  unfold grow
  split
  ·rename_i hf
   rw [e] at hf
   refine ⟨by dsimp only; omega, ?_, ?_, fun e => by dsimp only at e; omega, fun _ => ?_, fun _ e => absurd rfl e, hsec⟩ <;> (dsimp only; rw [List.length_append, e]; simp only [List.length_cons, List.length_nil]; omega)
  ·rename_i hf
   rw [e] at hf
   have hst : ∀ n : Int, (if QF n = true then n else 1) = 1 ∨ (if QF n = true then n else 1) = 2 := by
    intro n
    split
    ·rename_i ho; exact isOpen_iff.1 ho
    ·exact .inl rfl
   have hst := hst ((Qal d zone.toNat).getD zone.toNat default).state
   refine ⟨by dsimp only; omega, ?_, ?_, fun e => by dsimp only at e; omega, fun e => by dsimp only at e; omega, fun _ _ _ => ?_, hsec⟩ <;> (dsimp only; rw [List.length_append, e]; try rw [e2]) <;> (simp only [List.length_cons, List.length_nil]; omega)
 ·exact h
theorem Qqm {z : Zone} {size : Int} (h : RightZ z size) : RightZ (QcF z) size :=
 ⟨h.st, h.len, ⟨Int.natCast_nonneg _, Int.le_refl _⟩, h.emp, fun _ => rfl, h.part, h.secs⟩
theorem Ql0 (l : List Zone) : QH (l.map QcF) = QH l ∧ Qi (l.map QcF) = Qi l := by
 simp only [QH, Qi, List.filter_map, List.length_map]
 exact ⟨rfl, rfl⟩
theorem Qiz {d : Dev} (h : d.ok) : Dev.ok { d with zones := d.zones.map QcF } := by
 refine h.with (by simp) ?_ (by rw [(Ql0 _).1]; exact h.op) (by rw [(Ql0 _).2]; exact h.act)
 intro z hz
 obtain ⟨x, hx, rfl⟩ := List.mem_map.1 hz
 exact Qqm (h.all x hx)
theorem Qa7 (d : Dev) (z : Int) (s : ByteArray) : (Qf d z s).zones.length = d.zones.length := by unfold Qf; split <;> simp [Qkq]
end Go.Am
namespace Go.Am
end Go.Am
namespace Go.Am
def Dev.dur (d : Dev) : Prop := ∀ i, (d.zones.getD i default).durable ≤ 9223372036854775807
theorem QuL : (default : Zone).durable ≤ 9223372036854775807 := by decide
theorem Dev.ok.dur {d : Dev} (h : d.ok) : d.dur := by
 intro i
 by_cases hi : i < d.zones.length
 ·have h1 := (h.all.get hi).dur
  have h2 := h.small.s i
  omega
 ·have : d.zones.getD i default = default := by simp [List.getD, Nat.le_of_not_lt hi]
  rw [this]
  exact QuL
end Go.Am
end

section
open Go Go.Am
namespace Go.Proofs
set_option maxRecDepth 20000
def zAt (d : Dev) (z : Int) : Zone := d.zones.getD z.toNat default
theorem QiV {p : Zone → Bool} (hp : p QbP = false) : ∀ (ks : List Nat) (l : List Zone), (∀ i, i < l.length → p (l.getD i default) = true → i ∈ ks) → (l.filter p).length ≤ ks.length
 | [], l, h => by
  have : l.filter p = [] := List.filter_eq_nil_iff.2 fun x hx hq => by
   obtain ⟨i, hi, rfl⟩ := List.getElem_of_mem hx
   have := h i hi (by rw [Qu _ _ hi]; exact hq)
   cases this
  rw [this]; exact Nat.zero_le _
 | k :: ks, l, h => by
  by_cases hk : k < l.length
  ·have h1 := QiV hp ks (l.set k QbP) fun i hi hq => by
    rw [List.length_set] at hi
    rw [QbA hk] at hq
    by_cases e : i = k
    ·rw [if_pos e, hp] at hq; cases hq
    ·rw [if_neg e] at hq
     exact (List.mem_cons.1 (h i hi hq)).resolve_left e
   have h2 := Qhn p QbP l k hk
   rw [hp] at h2
   simp only [Bool.false_eq_true, if_false, Nat.add_zero] at h2
   have h3 : (if p (l.getD k default) = true then 1 else 0) ≤ 1 := by split <;> omega
   simp only [List.length_cons]
   omega
  ·have h1 := QiV hp ks l fun i hi hq => (List.mem_cons.1 (h i hi hq)).resolve_left (by omega)
   simp only [List.length_cons]
   omega
structure DevQ (d : Dev) (ks : List Int) : Prop where
 ok : d.ok
 mo : d.maxOpen = 3
 ma : d.maxActive = 3
 st : ∀ i, i < d.zones.length → (d.zones.getD i default).state = 0 ∨ (d.zones.getD i default).state = 1 ∨ (d.zones.getD i default).state = 4
 act : ∀ i : Nat, i < d.zones.length → (d.zones.getD i default).state = 1 → (i : Int) ∈ ks
 secs : ∀ i, i < d.zones.length → (d.zones.getD i default).state ≠ 4 → ∀ x ∈ (d.zones.getD i default).sectors, blkE x = 0
variable {d : Dev} {ks : List Int}
theorem DevQ.size (h : DevQ d ks) : 3 ≤ d.size ∧ d.size ≤ 64 := (confOk_iff.1 h.ok.conf).size
theorem DevQ.cnt (h : DevQ d ks) : Qi d.zones ≤ ks.length ∧ QH d.zones ≤ Qi d.zones := by
 constructor
 ·refine Nat.le_trans (QiV (p := fun z => QP z.state) rfl (ks.map Int.toNat) d.zones fun i hi hq => ?_) (by simp)
  have := isActive_iff.1 hq
  have h2 := h.st i hi
  have h3 := h.act i hi (by omega)
  exact List.mem_map.2 ⟨i, h3, by simp⟩
 ·unfold QH Qi
  rw [← List.countP_eq_length_filter, ← List.countP_eq_length_filter]
  exact List.countP_mono_left fun x _ hx => by
   have := isOpen_iff.1 hx
   exact isActive_iff.2 (by omega)
theorem DevQ.cnt0 (h : DevQ d ks) {z : Int} (hz : z ∈ ks) (h0 : 0 ≤ z) (hs : (zAt d z).state = 0) : Qi d.zones + 1 ≤ ks.length := by
 have h1 := QiV (p := fun z => QP z.state) rfl ((ks.erase z).map Int.toNat) d.zones fun i hi hq => by
  have := isActive_iff.1 hq
  have h2 := h.st i hi
  have h3 := h.act i hi (by omega)
  have hne : (i : Int) ≠ z := fun e => by
   have : i = z.toNat := by omega
   subst this
   unfold zAt at hs
   rw [hs] at hq; cases hq
  exact List.mem_map.2 ⟨i, (List.mem_erase_of_ne hne).2 h3, by simp⟩
 have h2 := List.length_erase_of_mem hz
 have h3 := List.length_pos_of_mem hz
 rw [List.length_map] at h1
 show (d.zones.filter fun z => QP z.state).length + 1 ≤ _
 omega
theorem DevQ.empty (h : DevQ d ks) {i : Nat} (hi : i < d.zones.length) (hs : (d.zones.getD i default).state = 0) : (d.zones.getD i default).sectors.length = 0 := (h.ok.all.get hi).emp (.inl hs)
theorem Qoq {z : Nat} (h : QF (d.zones.getD z default).state = true ∨ (QH d.zones : Int) < d.maxOpen ∧ (Qi d.zones : Int) < d.maxActive) : Qal d z = d.zones ∧ (QF (d.zones.getD z default).state = true ∨ (Qe d z).1 = 0) := by
 unfold Qal
 by_cases c : QF (d.zones.getD z default).state = true
 ·rw [if_pos c]; exact ⟨rfl, .inl c⟩
 ·rw [if_neg c]
  obtain ⟨h1, h2⟩ := h.resolve_left c
  unfold Qe
  rw [if_neg (by omega)]
  dsimp only
  rw [if_neg (by omega)]
  exact ⟨rfl, .inr rfl⟩
theorem DevQ.app (h : DevQ d ks) (hk : ks.length ≤ 3) {z : Int} (hz : z ∈ ks) (h0 : 0 ≤ z) (h1 : z < d.zones.length) (h4 : (zAt d z).state ≠ 4) {s : ByteArray} (hs : s.size = 40) :
  Qj d z s = 0 ∧ Qf d z s = { d with zones := d.zones.set z.toNat (grow (zAt d z) d.size s) } ∧ QA d z s = (zAt d z).sectors.length ∧ ((zAt d z).sectors.length : Int) < d.size := by
 have hlt : z.toNat < d.zones.length := by omega
 have hst := h.st _ hlt
 have hr : QF (d.zones.getD z.toNat default).state = true ∨ (QH d.zones : Int) < d.maxOpen ∧ (Qi d.zones : Int) < d.maxActive := by
  rcases hst with q | q | q
  ·have := h.cnt0 hz h0 q
   have := h.cnt.2
   rw [h.mo, h.ma]
   exact .inr ⟨by omega, by omega⟩
  ·exact .inl (isOpen_iff.2 (.inl q))
  ·exact absurd q h4
 obtain ⟨e1, e2⟩ := Qoq hr
 have he : Qj d z s = 0 := by
  unfold Qj
  rw [if_pos (check_ok.2 h.ok), if_pos (decide_eq_true ⟨h0, h1⟩), if_pos hs, if_neg (by unfold zAt at h4; omega), if_neg (show ¬(d.zones.getD z.toNat default).state = 4 from h4)]
  rcases e2 with q | q
  ·rw [if_pos q]
  ·split
   ·rfl
   ·exact q
 refine ⟨he, ?_, ?_, ?_⟩
 ·unfold Qf; rw [if_pos he, e1]; rfl
 ·unfold QA; rw [if_pos he]; rfl
 ·have hz := h.ok.all.get hlt
  have := h.size
  rcases hst with q | q | q
  ·have := h.empty hlt q
   show ((d.zones.getD z.toNat default).sectors.length : Int) < _
   omega
  ·exact hz.part (by omega) h4 (by omega)
  ·exact absurd q h4
theorem QdT {z : Zone} {n : Int} {s : ByteArray} : (grow z n s).sectors = z.sectors ++ [s] := by unfold grow; split <;> rfl
theorem Qhr {z : Zone} {n : Int} {s : ByteArray} (h : z.state = 0 ∨ z.state = 1) : (grow z n s).state = if (z.sectors.length : Int) + 1 = n then 4 else 1 := by
 unfold grow
 split
 ·rfl
 ·rcases h with q | q <;> (show (if QF z.state = true then z.state else 1) = 1; rw [q]; rfl)
theorem DevQ.app2 (h : DevQ d ks) (hk : ks.length ≤ 3) {z : Int} (hz : z ∈ ks) (h0 : 0 ≤ z) (h1 : z < d.zones.length) (h4 : (zAt d z).state ≠ 4) {s : ByteArray} (hs : s.size = 40) (hb : ((zAt d z).sectors.length : Int) + 1 = d.size ∨ blkE s = 0) : DevQ (Qf d z s) ks := by
 obtain ⟨e1, e2, e3, e4⟩ := h.app hk hz h0 h1 h4 hs
 have hlt : z.toNat < d.zones.length := by omega
 have hst : (zAt d z).state = 0 ∨ (zAt d z).state = 1 := by
  rcases h.st _ hlt with q | q | q
  ·exact .inl q
  ·exact .inr q
  ·exact absurd q h4
 have hg := Qhr (n := d.size) (s := s) hst
 have hok := QkV h.ok z s
 rw [e2] at hok ⊢
 refine ⟨hok, h.mo, h.ma, fun i hi => ?_, fun i hi => ?_, fun i hi => ?_⟩ <;> (
  simp only [List.length_set] at hi
  dsimp only
  rw [QbA hlt]
  by_cases c : i = z.toNat)
 ·rw [if_pos c, hg]
  split
  ·exact .inr (.inr rfl)
  ·exact .inr (.inl rfl)
 ·rw [if_neg c]; exact h.st i hi
 ·rw [if_pos c]
  intro _
  rw [show (i : Int) = z by omega]; exact hz
 ·rw [if_neg c]; exact h.act i hi
 ·rw [if_pos c, hg, QdT]
  intro q x hx
  rcases List.mem_append.1 hx with hx | hx
  ·exact h.secs z.toNat hlt h4 x hx
  ·rw [List.mem_singleton.1 hx]
   rcases hb with hb | hb
   ·rw [if_pos hb] at q; exact absurd rfl q
   ·exact hb
 ·rw [if_neg c]; exact h.secs i hi
theorem DevQ.mono {ks' : List Int} (h : DevQ d ks) (hk : ∀ i : Nat, i < d.zones.length → (d.zones.getD i default).state = 1 → (i : Int) ∈ ks → (i : Int) ∈ ks') : DevQ d ks' :=
 ⟨h.ok, h.mo, h.ma, h.st, fun i hi hs => hk i hi hs (h.act i hi hs), h.secs⟩
theorem Qms (d : Dev) (i : Nat) : (d.zones.map QcF).getD i default = QcF (d.zones.getD i default) := by
 by_cases c : i < d.zones.length
 ·simp [List.getD, c]
 ·simp [List.getD, Nat.le_of_not_lt c]; rfl
theorem DevQ.sync (h : DevQ d ks) : DevQ (Qbo d) ks := by
 unfold Qbo
 rw [if_pos (check_ok.2 h.ok)]
 refine ⟨Qiz h.ok, h.mo, h.ma, fun i hi => ?_, fun i hi => ?_, fun i hi => ?_⟩ <;> (
  simp only [List.length_map] at hi
  dsimp only
  rw [Qms])
 ·exact h.st i hi
 ·exact h.act i hi
 ·exact h.secs i hi
end Go.Proofs
end

section
open Go Go.Am
namespace Go.Proofs
set_option maxRecDepth 20000
theorem Qdl (n : Nat) (g : Nat → Nat → C) (t : Bool) (hn : n ≤ 10000000) (him : ∀ i, i < n → ∀ j, j < 1 → (g i j).imm = true) : CS 148 [.c (.isl 1 n g t)] [] fun s H => s = .c (.sl 0 1 n n false) ∧ H = [.arr 3 1 n g] := by
 refine CSpec.rm ?_
 refine ov0 hΓ Tryz.func148 8 0 [.tmp 2] Tryz.ntmps148 Tryz.results148 ?_
 intro b hb
 refine Go0 ?_
 refine Br.of (fun h=>Go0 ?_) (fun h=>Go0 ?_)
 ·have : n = 0 := by
   rcases Nat.eq_zero_or_pos n with c | c
   ·exact c
   ·exact absurd h (by rw [hb c]; simp)
  subst this
  exact ⟨_, _, RM.nilO 3 1 g, rfl, rfl⟩
 ·refine ⟨_, _, ?_, rfl, rfl⟩
  refine RM.w1 ?_
  intro i hi j hj
  exact WC.eq (by simp [appG]) (him i (by omega) j hj)
theorem Qfo : HB 148 := hB Tryz.func148
theorem QbW : HB 148 := hB Tryz.func148
theorem QjP (n : Nat) (g : Nat → Nat → C) (t : Bool) (hn : n ≤ 10000000) (him : ∀ i, i < n → ∀ j, j < 1 → (g i j).imm = true) : CS 219 [.c (.isl 1 n g t)] [] fun s H => s = .c (.sl 0 1 n n false) ∧ H = [.arr 9 1 n g] := by
 refine CSpec.rm ?_
 refine ov0 hΓ Tryz.func219 8 0 [.tmp 2] Tryz.ntmps219 Tryz.results219 ?_
 intro b hb
 refine Go0 ?_
 refine Br.of (fun h=>Go0 ?_) (fun h=>Go0 ?_)
 ·have : n = 0 := by
   rcases Nat.eq_zero_or_pos n with c | c
   ·exact c
   ·exact absurd h (by rw [hb c]; simp)
  subst this
  exact ⟨_, _, RM.nilO 9 1 g, rfl, rfl⟩
 ·refine ⟨_, _, ?_, rfl, rfl⟩
  refine RM.w1 ?_
  intro i hi j hj
  exact WC.eq (by simp [appG]) (him i (by omega) j hj)
theorem Qld : HB 219 := hB Tryz.func219
theorem Qjw (n : Nat) (g : Nat → Nat → C) (t : Bool) (hn : n ≤ 10000000) (him : ∀ i, i < n → ∀ j, j < 3 → (g i j).imm = true) : CS 218 [.c (.isl 3 n g t)] [] fun s H => s = .c (.sl 0 3 n n false) ∧ H = [.arr 76 3 n g] := by
 refine CSpec.rm ?_
 refine ov0 hΓ Tryz.func218 8 0 [.tmp 2] Tryz.ntmps218 Tryz.results218 ?_
 intro b hb
 refine Go0 ?_
 refine Br.of (fun h=>Go0 ?_) (fun h=>Go0 ?_)
 ·have : n = 0 := by
   rcases Nat.eq_zero_or_pos n with c | c
   ·exact c
   ·exact absurd h (by rw [hb c]; simp)
  subst this
  exact ⟨_, _, RM.nilO 76 3 g, rfl, rfl⟩
 ·refine ⟨_, _, ?_, rfl, rfl⟩
  refine RM.w1 ?_
  intro i hi j hj
  exact WC.eq (by simp [appG]) (him i (by omega) j hj)
theorem QiC : HB 218 := hB Tryz.func218
theorem Qlc (n : Nat) (g : Nat → Nat → C) (t : Bool) (hn : n ≤ 10000000) (him : ∀ i, i < n → ∀ j, j < 1 → (g i j).imm = true) : CS 146 [.c (.isl 1 n g t)] [] fun s H => s = .c (.sl 0 1 n n false) ∧ H = [.arr 50 1 n g] := by
 refine CSpec.rm ?_
 refine ov0 hΓ Tryz.func146 8 0 [.tmp 2] Tryz.ntmps146 Tryz.results146 ?_
 intro b hb
 refine Go0 ?_
 refine Br.of (fun h=>Go0 ?_) (fun h=>Go0 ?_)
 ·have : n = 0 := by
   rcases Nat.eq_zero_or_pos n with c | c
   ·exact c
   ·exact absurd h (by rw [hb c]; simp)
  subst this
  exact ⟨_, _, RM.nilO 50 1 g, rfl, rfl⟩
 ·refine ⟨_, _, ?_, rfl, rfl⟩
  refine RM.w1 ?_
  intro i hi j hj
  exact WC.eq (by simp [appG]) (him i (by omega) j hj)
theorem Qlv : HB 146 := hB Tryz.func146
theorem Qkf (n : Nat) (g : Nat → Nat → C) (t : Bool) (hn : n ≤ 10000000) (him : ∀ i, i < n → ∀ j, j < 6 → (g i j).imm = true) : CS 147 [.c (.isl 6 n g t)] [] fun s H => s = .c (.sl 0 6 n n false) ∧ H = [.arr 47 6 n g] := by
 refine CSpec.rm ?_
 refine ov0 hΓ Tryz.func147 8 0 [.tmp 2] Tryz.ntmps147 Tryz.results147 ?_
 intro b hb
 refine Go0 ?_
 refine Br.of (fun h=>Go0 ?_) (fun h=>Go0 ?_)
 ·have : n = 0 := by
   rcases Nat.eq_zero_or_pos n with c | c
   ·exact c
   ·exact absurd h (by rw [hb c]; simp)
  subst this
  exact ⟨_, _, RM.nilO 47 6 g, rfl, rfl⟩
 ·refine ⟨_, _, ?_, rfl, rfl⟩
  refine RM.w1 ?_
  intro i hi j hj
  exact WC.eq (by simp [appG]) (him i (by omega) j hj)
theorem Qd0 : HB 147 := hB Tryz.func147
theorem QjS (n : Nat) (g : Nat → Nat → C) (t : Bool) (hn : n ≤ 10000000) (him : ∀ i, i < n → ∀ j, j < 2 → (g i j).imm = true) : CS 149 [.c (.isl 2 n g t)] [] fun s H => s = .c (.sl 0 2 n n false) ∧ H = [.arr 70 2 n g] := by
 refine CSpec.rm ?_
 refine ov0 hΓ Tryz.func149 8 0 [.tmp 2] Tryz.ntmps149 Tryz.results149 ?_
 intro b hb
 refine Go0 ?_
 refine Br.of (fun h=>Go0 ?_) (fun h=>Go0 ?_)
 ·have : n = 0 := by
   rcases Nat.eq_zero_or_pos n with c | c
   ·exact c
   ·exact absurd h (by rw [hb c]; simp)
  subst this
  exact ⟨_, _, RM.nilO 70 2 g, rfl, rfl⟩
 ·refine ⟨_, _, ?_, rfl, rfl⟩
  refine RM.w1 ?_
  intro i hi j hj
  exact WC.eq (by simp [appG]) (him i (by omega) j hj)
theorem Qlz : HB 149 := hB Tryz.func149
theorem Qj2 (n : Nat) (g : Nat → Nat → C) (t : Bool) (hn : n ≤ 10000000) (him : ∀ i, i < n → ∀ j, j < 2 → (g i j).imm = true) : CS 150 [.c (.isl 2 n g t)] [] fun s H => s = .c (.sl 0 2 n n false) ∧ H = [.arr 164 2 n g] := by
 refine CSpec.rm ?_
 refine ov0 hΓ Tryz.func150 8 0 [.tmp 2] Tryz.ntmps150 Tryz.results150 ?_
 intro b hb
 refine Go0 ?_
 refine Br.of (fun h=>Go0 ?_) (fun h=>Go0 ?_)
 ·have : n = 0 := by
   rcases Nat.eq_zero_or_pos n with c | c
   ·exact c
   ·exact absurd h (by rw [hb c]; simp)
  subst this
  exact ⟨_, _, RM.nilO 164 2 g, rfl, rfl⟩
 ·refine ⟨_, _, ?_, rfl, rfl⟩
  refine RM.w1 ?_
  intro i hi j hj
  exact WC.eq (by simp [appG]) (him i (by omega) j hj)
theorem QjR : HB 150 := hB Tryz.func150
theorem Qj3 (n : Nat) (g : Nat → Nat → C) (t : Bool) (hn : n ≤ 10000000) (him : ∀ i, i < n → ∀ j, j < 4 → (g i j).imm = true) : CS 151 [.c (.isl 4 n g t)] [] fun s H => s = .c (.sl 0 4 n n false) ∧ H = [.arr 92 4 n g] := by
 refine CSpec.rm ?_
 refine ov0 hΓ Tryz.func151 8 0 [.tmp 2] Tryz.ntmps151 Tryz.results151 ?_
 intro b hb
 refine Go0 ?_
 refine Br.of (fun h=>Go0 ?_) (fun h=>Go0 ?_)
 ·have : n = 0 := by
   rcases Nat.eq_zero_or_pos n with c | c
   ·exact c
   ·exact absurd h (by rw [hb c]; simp)
  subst this
  exact ⟨_, _, RM.nilO 92 4 g, rfl, rfl⟩
 ·refine ⟨_, _, ?_, rfl, rfl⟩
  refine RM.w1 ?_
  intro i hi j hj
  exact WC.eq (by simp [appG]) (him i (by omega) j hj)
theorem Qls : HB 151 := hB Tryz.func151
theorem QjK (n : Nat) (g : Nat → Nat → C) (t : Bool) (hn : n ≤ 10000000) (him : ∀ i, i < n → ∀ j, j < 12 → (g i j).imm = true) : CS 152 [.c (.isl 12 n g t)] [] fun s H => s = .c (.sl 0 12 n n false) ∧ H = [.arr 94 12 n g] := by
 refine CSpec.rm ?_
 refine ov0 hΓ Tryz.func152 8 0 [.tmp 2] Tryz.ntmps152 Tryz.results152 ?_
 intro b hb
 refine Go0 ?_
 refine Br.of (fun h=>Go0 ?_) (fun h=>Go0 ?_)
 ·have : n = 0 := by
   rcases Nat.eq_zero_or_pos n with c | c
   ·exact c
   ·exact absurd h (by rw [hb c]; simp)
  subst this
  exact ⟨_, _, RM.nilO 94 12 g, rfl, rfl⟩
 ·refine ⟨_, _, ?_, rfl, rfl⟩
  refine RM.w1 ?_
  intro i hi j hj
  exact WC.eq (by simp [appG]) (him i (by omega) j hj)
theorem Qj1 : HB 152 := hB Tryz.func152
theorem QjW (n : Nat) (g : Nat → Nat → C) (t : Bool) (hn : n ≤ 10000000) (him : ∀ i, i < n → ∀ j, j < 5 → (g i j).imm = true) : CS 153 [.c (.isl 5 n g t)] [] fun s H => s = .c (.sl 0 5 n n false) ∧ H = [.arr 109 5 n g] := by
 refine CSpec.rm ?_
 refine ov0 hΓ Tryz.func153 8 0 [.tmp 2] Tryz.ntmps153 Tryz.results153 ?_
 intro b hb
 refine Go0 ?_
 refine Br.of (fun h=>Go0 ?_) (fun h=>Go0 ?_)
 ·have : n = 0 := by
   rcases Nat.eq_zero_or_pos n with c | c
   ·exact c
   ·exact absurd h (by rw [hb c]; simp)
  subst this
  exact ⟨_, _, RM.nilO 109 5 g, rfl, rfl⟩
 ·refine ⟨_, _, ?_, rfl, rfl⟩
  refine RM.w1 ?_
  intro i hi j hj
  exact WC.eq (by simp [appG]) (him i (by omega) j hj)
theorem Qlg : HB 153 := hB Tryz.func153
theorem Qlu (n : Nat) (g : Nat → Nat → C) (t : Bool) (hn : n ≤ 10000000) (him : ∀ i, i < n → ∀ j, j < 8 → (g i j).imm = true) : CS 154 [.c (.isl 8 n g t)] [] fun s H => s = .c (.sl 0 8 n n false) ∧ H = [.arr 100 8 n g] := by
 refine CSpec.rm ?_
 refine ov0 hΓ Tryz.func154 8 0 [.tmp 2] Tryz.ntmps154 Tryz.results154 ?_
 intro b hb
 refine Go0 ?_
 refine Br.of (fun h=>Go0 ?_) (fun h=>Go0 ?_)
 ·have : n = 0 := by
   rcases Nat.eq_zero_or_pos n with c | c
   ·exact c
   ·exact absurd h (by rw [hb c]; simp)
  subst this
  exact ⟨_, _, RM.nilO 100 8 g, rfl, rfl⟩
 ·refine ⟨_, _, ?_, rfl, rfl⟩
  refine RM.w1 ?_
  intro i hi j hj
  exact WC.eq (by simp [appG]) (him i (by omega) j hj)
theorem Qll : HB 154 := hB Tryz.func154
theorem QbY (l : List Int) (hn : l.length ≤ 10000000) : PS 148 [.c (Qh l)] (.c (Qh l)) := PSpec.ofO (Qdl _ _ _ hn fun _ _ _ _ => rfl) fun _ _ _ _ => rfl
theorem QlI (l : List ByteArray) (hn : l.length ≤ 10000000) : PS 219 [.c (Qay l)] (.c (Qay l)) := PSpec.ofO (QjP _ _ _ hn fun _ _ _ _ => rfl) fun _ _ _ _ => rfl
theorem Qd2 (l : List Ent) (hn : l.length ≤ 10000000) : PS 147 [.c (Qap l)] (.c (Qap l)) := PSpec.ofO (Qkf _ _ _ hn fun _ _ _ _ => Qaw _ _) fun _ _ _ _ => Qaw _ _
theorem Qlb (l : List Ret) (hn : l.length ≤ 10000000) : PS 149 [.c (retC l)] (.c (retC l)) := PSpec.ofO (QjS _ _ _ hn fun _ _ _ _ => Qe6 _ _) fun _ _ _ _ => Qe6 _ _
theorem QlG (l : List Req) (hn : l.length ≤ 10000000) : PS 151 [.c (reqC l)] (.c (reqC l)) := PSpec.ofO (Qj3 _ _ _ hn fun _ _ _ _ => QhJ _ _) fun _ _ _ _ => QhJ _ _
theorem QlH (l : List Rec) (hn : l.length ≤ 10000000) : PS 153 [.c (Qqr l)] (.c (Qqr l)) := PSpec.ofO (QjW _ _ _ hn fun _ _ _ _ => QhE _ _) fun _ _ _ _ => QhE _ _
theorem QpM {l : List Zone} {k : Nat} {x : List C} (hx : x = [Qay (l.getD k default).sectors]) (i j : Nat) (hj : j < 3) : updG (Qaa l) k 2 x i j = Qaa l i j := by
 subst hx
 rw [QX]
 split
 ·rename_i c
  obtain ⟨rfl, rfl⟩ := c
  rfl
 ·rfl
theorem Qoc (d : Dev) (hd : d.small) : PS 145 [.a d.cells] (.a d.cells) := by
 refine PSpec.rm ?_
 refine ov hΓ Tryz.func145 28 0 [.cell 2 29] Tryz.ntmps145 Tryz.results145 ?_
 have hz := hd.z
 refine Go0 ?_
 refine CallN.autoQ [] QiC (Qjw d.zones.length (Qaa d.zones) false hz (fun _ _ _ _ => Qbv _ _ _)) (Go0 ?_)
 refine Lp.mkK hΓ (ι := Nat) [1, 2, 10] (fun i => [(11, .c (.int .i64 i))]) (fun _ => [.vr [.int .i64 d.size, .int .i64 d.maxOpen, .int .i64 d.maxActive, .sl 2 3 d.zones.length d.zones.length false], .vr [.int .i64 0, .int .i64 0, .int .i64 0, .nils], .arr 76 3 d.zones.length (Qaa d.zones)]) (fun i => i ≤ d.zones.length) (fun i => d.zones.length - i) 0 (Nat.zero_le _) ?_ ?_
 ·refine Mv.k1 ?_
  exact fun i _ j _ => WC.reI (Qbv _ _ _)
 ·intro k hk
  have hsk := hd.s k
  refine Go0 ?_
  refine Br.of (fun h=>Go0 ?_) (fun h=>Go0 ?_)
  ·refine Dr.mk hΓ hMix (by kernel_rfl) (Go0 ?_)
   refine Frc.mk (.c (Qay (d.zones.getD k default).sectors)) rfl (Go0 ?_)
   refine CallP.auto Qld (QlI _ hsk ) (Go0 ?_)
   have w0 := Qa (↑k + 1) (by omega) (by omega)
   refine ⟨k + 1, by omega, by omega, ?_⟩
   refine Mv.k1 ?_
   exact fun i _ j hj => WC.eq (QpM rfl i j hj) (Qbv _ _ _)
  ·refine RM.fz 2 rfl (Nat.zero_le _) (fun _ _ _ _ => Qbv _ _ _) ?_
   exact RM.w0
theorem Qn0 : HB 145 := hB Tryz.func145
theorem Qr3 {l : List (List Ent)} {k : Nat} {x : List C} (hx : x = [Qap (l.getD k default)]) (i j : Nat) (hj : j < 1) : updG (QcE l) k 0 x i j = QcE l i j := by
 subst hx
 rw [QX]
 split
 ·rename_i c
  obtain ⟨rfl, rfl⟩ := c
  rfl
 ·rfl
theorem Qtk {l : List Rng} {k : Nat} {x : List C} (hx : x = [reqC (l.getD k default).items]) (i j : Nat) (hj : j < 2) : updG (rngG l) k 1 x i j = rngG l i j := by
 subst hx
 rw [QX]
 split
 ·rename_i c
  obtain ⟨rfl, rfl⟩ := c
  rfl
 ·rfl
def St.objs (s : St) : List O := [.arr 164 2 s.rings.length (rngG s.rings), .arr 94 12 s.works.length (wrkG s.works), .arr 100 8 s.evs.length (evG s.evs)]
def St.own (s : St) (a b c : Nat) : List C := s.cellsW (.sl a 2 s.rings.length s.rings.length false) (.sl b 12 s.works.length s.works.length false) (.sl c 8 s.evs.length s.evs.length false)
set_option maxHeartbeats 4000000 in
set_option maxRecDepth 20000 in
theorem QpN (s : St) (hs : s.small) : CS 63 [.a s.cells] [] fun r H => r = .a (s.own 0 1 2) ∧ H = s.objs := by
 refine CSpec.rm ?_
 refine ov0 hΓ Tryz.func63 113 0 [.cell 2 58] Tryz.ntmps63 Tryz.results63 ?_
 refine CallN.pureA Qn0 (Qoc s.dev hs.dev ) (Go0 ?_)
 refine CallN.autoQ [] Qlv (Qlc s.map.length (QcE s.map) false (by have := hs.map; omega) (fun _ _ _ _ => rfl)) (Go0 ?_)
 refine Lp.mkK hΓ (ι := Nat) [1, 2, 18, 19] (fun i => [(20, .c (.int .i64 i))]) (fun _ => [.vr (s.cellsX (.sl 2 1 s.map.length s.map.length false) (rngC s.rings) (wrkC s.works) (evC s.evs)), .vr (default : St).cells, .arr 50 1 s.map.length (QcE s.map)]) (fun i => i ≤ s.map.length) (fun i => s.map.length - i) 0 (Nat.zero_le _) ?_ ?_
 ·refine Mv.k1 ?_
  exact fun i _ j _ => WC.reI rfl
 ·intro k hk
  have hsk := hs.shard k
  refine Go0 ?_
  refine Br.of (fun h=>Go0 ?_) (fun h=>Go0 ?_)
  ·refine Frc.mk (.c (Qap (s.map.getD k default))) rfl (Go0 ?_)
   refine Dr.mk hΓ hMix (by kernel_rfl) (Go0 ?_)
   refine CallP.auto Qd0 (Qd2 (s.map.getD k default) (by omega) ) (Go0 ?_)
   have w0 := Qa (↑k + 1) (by have := hs.map; omega) (by have := hs.map; omega)
   refine ⟨k + 1, by omega, by omega, ?_⟩
   refine Mv.k1 ?_
   exact fun i _ j hj => WC.eq (Qr3 rfl i j hj) rfl
  ·refine Dr.mk hΓ hMix (by kernel_rfl) (Go0 ?_)
   refine CallP.auto QbW (QbY s.live (by have := hs.live; omega) ) (Go0 ?_)
   refine CallP.auto QbW (QbY s.pend (by have := hs.pend; omega) ) (Go0 ?_)
   refine CallN.pureA QbW (QbY s.owner (by have := hs.owner; omega) ) (Go0 ?_)
   refine Dr.mk hΓ hMix (by kernel_rfl) (Go0 ?_)
   refine CallP.auto QbW (QbY s.pins (by have := hs.pins; omega) ) (Go0 ?_)
   refine CallP.auto Qlz (Qlb s.rets (by have := hs.rets; omega) ) (Go0 ?_)
   refine CallN.pureA QbW (QbY s.free (by have := hs.free; omega) ) (Go0 ?_)
   refine CallN.autoQ [] QjR (Qj2 s.rings.length (rngG s.rings) false (by have := hs.rings; omega) (fun _ _ _ _ => Qau _ _)) (Go0 ?_)
   refine Lp.mkK hΓ (ι := Nat) [1, 2, 73] (fun i => [(74, .c (.int .i64 i))]) (fun _ => [.vr (s.cellsX (.sl 2 1 s.map.length s.map.length false) (.sl 3 2 s.rings.length s.rings.length false) (wrkC s.works) (evC s.evs)), .vr (default : St).cells, .arr 50 1 s.map.length (QcE s.map), .arr 164 2 s.rings.length (rngG s.rings)]) (fun i => i ≤ s.rings.length) (fun i => s.rings.length - i) 0 (Nat.zero_le _) ?_ ?_
   ·refine Mv.k2 ?_ ?_
    ·exact fun i _ j _ => WC.imm rfl
    ·exact fun i _ j _ => WC.reI (Qau _ _)
   ·intro q hq
    have hsi := hs.items q
    refine Go0 ?_
    refine Br.of (fun h2=>Go0 ?_) (fun h2=>Go0 ?_)
    ·refine Dr.mk hΓ hMix (by kernel_rfl) (Go0 ?_)
     refine Frc.mk (.c (reqC (s.rings.getD q default).items)) rfl (Go0 ?_)
     refine CallP.auto Qls (QlG (s.rings.getD q default).items (by omega) ) (Go0 ?_)
     have w0 := Qa (↑q + 1) (by have := hs.rings; omega) (by have := hs.rings; omega)
     refine ⟨q + 1, by omega, by omega, ?_⟩
     refine Mv.k2 ?_ ?_
     ·exact fun i _ j _ => WC.imm rfl
     ·exact fun i _ j hj => WC.eq (Qtk rfl i j hj) (Qau _ _)
    ·refine CallN.autoQ [] Qj1 (QjK s.works.length (wrkG s.works) false (by have := hs.works; omega) (fun _ _ _ _ => QaW _ _)) (Go0 ?_)
     refine Dr.mk hΓ hMix (by kernel_rfl) (Go0 ?_)
     refine CallP.auto Qd0 (Qd2 s.sav.ents (by have := hs.ents; omega) ) (Go0 ?_)
     refine CallP.auto Qlg (QlH s.sav.recs (by have := hs.recs; omega) ) (Go0 ?_)
     refine CallN.autoQ [] Qll (Qlu s.evs.length (evG s.evs) false (by have := hs.evs; omega) (fun _ _ _ _ => Qd5 _ _)) (Go0 ?_)
     refine ⟨_, _, ?_, rfl, rfl⟩
     refine RM.fz 2 rfl (Nat.zero_le _) (fun _ _ _ _ => rfl) ?_
     refine RM.renW [3, 4, 5] (by decide) ?_ ?_ <;> (first|exact wb0|refine wb1 ?_|refine wb2 ?_ ?_|refine wb3 ?_ ?_ ?_|refine wb4 ?_ ?_ ?_ ?_)
     ·exact fun i _ j _ => WC.fzI (Qau _ _)
     ·exact fun i _ j _ => WC.fzReI (QaW _ _)
     ·exact fun i _ j _ => WC.fzReI (Qd5 _ _)
theorem Qqu : HB 63 := hB Tryz.func63
end Go.Proofs
end
