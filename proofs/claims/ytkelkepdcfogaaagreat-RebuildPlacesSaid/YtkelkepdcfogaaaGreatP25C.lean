/- Contracts, lemmas; no condition. -/
import Derived.Test.YtkelkepdcfogaaaGreatP16C
import Derived.Test.YtkelkepdcfogaaaGreatP11C
import Derived.Test.YtkelkepdcfogaaaGreatP20C
import Derived.Test.YtkelkepdcfogaaaGreatP19C
import Derived.Test.YtkelkepdcfogaaaGreatA27C
import Derived.Laws.IdiomStrings
import Derived.Deep.RegionWith
import Derived.WalkKit
import Derived.StillTailTactics
import Derived.Test.YtkelkepdcfogaaaGreatP22C
import Derived.Test.YtkelkepdcfogaaaGreatP14C
set_option linter.all false
section
namespace Go.Am
structure RightZ (z : Zone) (size : Int) : Prop where
 st : 0 ≤ z.state ∧ z.state ≤ 5
 len : (z.sectors.length : Int) ≤ size
 dur : 0 ≤ z.durable ∧ z.durable ≤ z.sectors.length
 emp : z.state = 0 ∨ z.state = 5 → z.sectors.length = 0
 full : z.state = 4 → z.durable = z.sectors.length
 part : z.state ≠ 0 → z.state ≠ 4 → z.state ≠ 5 → (z.sectors.length : Int) < size
 secs : ∀ s ∈ z.sectors, s.size = 40
theorem right_iff {z : Zone} {size : Int} : right z size = true ↔ RightZ z size := by
 simp only [right, Bool.and_eq_true, decide_eq_true_eq, Qco, List.all_eq_true]
 constructor
 ·rintro ⟨⟨h1, h2, h3, h4, h5, h6, h7, h8⟩, h9⟩
  exact ⟨⟨h1, h2⟩, h3, ⟨h4, h5⟩, h6, h7, h8, h9⟩
 ·rintro ⟨⟨h1, h2⟩, h3, ⟨h4, h5⟩, h6, h7, h8, h9⟩
  exact ⟨⟨h1, h2, h3, h4, h5, h6, h7, h8⟩, h9⟩
theorem QjR (p : Zone → Bool) (z : Zone) : ∀ (l : List Zone) (i : Nat), i < l.length → ((l.set i z).filter p).length + (if p (l.getD i default) = true then 1 else 0) = (l.filter p).length + (if p z = true then 1 else 0)
 | [], i, h => by simp at h
 | x :: r, 0, _ => by
  simp only [List.set_cons_zero, List.filter_cons, List.getD_cons_zero]
  by_cases h1 : p x = true <;> by_cases h2 : p z = true <;> simp [h1, h2]
 | x :: r, i + 1, h => by
  have ih := QjR p z r i (by simpa using h)
  simp only [List.set_cons_succ, List.filter_cons, List.getD_cons_succ]
  by_cases h1 : p x = true
  ·rw [if_pos h1, if_pos h1, List.length_cons, List.length_cons]; omega
  ·rw [if_neg h1, if_neg h1]; exact ih
theorem QcD {l : List Zone} {i : Nat} (h : i < l.length) (z : Zone) : QK (l.set i z) + (if Qt (l.getD i default).state = true then 1 else 0) = QK l + (if Qt z.state = true then 1 else 0) := QjR (fun z => Qt z.state) z l i h
theorem Qb5 {l : List Zone} {i : Nat} (h : i < l.length) (z : Zone) : Ql (l.set i z) + (if QM (l.getD i default).state = true then 1 else 0) = Ql l + (if QM z.state = true then 1 else 0) := QjR (fun z => QM z.state) z l i h
def AllR (l : List Zone) (size : Int) : Prop := ∀ z ∈ l, RightZ z size
theorem Dev.ok.all {d : Dev} (h : d.ok) : AllR d.zones d.size := fun z hz => right_iff.1 (h.zones z hz)
theorem AllR.get {l : List Zone} {size : Int} (h : AllR l size) {i : Nat} (hi : i < l.length) : RightZ (l.getD i default) size := by
 rw [Qdp _ _ hi]; exact h _ (List.getElem_mem hi)
theorem AllR.set {l : List Zone} {size : Int} (h : AllR l size) {i : Nat} {z : Zone} (hz : RightZ z size) : AllR (l.set i z) size := by
 intro x hx
 rcases List.mem_or_eq_of_mem_set hx with h1 | h1
 ·exact h x h1
 ·rw [h1]; exact hz
structure Dev.conf3 (d : Dev) : Prop where
 n : 1 ≤ d.zones.length ∧ d.zones.length ≤ 32
 size : 3 ≤ d.size ∧ d.size ≤ 64
 op : 1 ≤ d.maxOpen ∧ d.maxOpen ≤ d.maxActive ∧ d.maxActive ≤ d.zones.length
theorem confOk_iff {d : Dev} : QbT d = true ↔ d.conf3 := by
 simp only [QbT, decide_eq_true_eq]
 constructor
 ·rintro ⟨h1, h2, h3, h4, h5, h6, h7⟩
  exact ⟨⟨h1, h2⟩, ⟨h3, h4⟩, h5, h6, h7⟩
 ·rintro ⟨⟨h1, h2⟩, ⟨h3, h4⟩, h5, h6, h7⟩
  exact ⟨h1, h2, h3, h4, h5, h6, h7⟩
theorem Dev.ok.with {d : Dev} (h : d.ok) {l : List Zone} (hn : l.length = d.zones.length) (hr : AllR l d.size) (ho : (QK l : Int) ≤ d.maxOpen) (ha : (Ql l : Int) ≤ d.maxActive) : Dev.ok { d with zones := l } := by
 refine ⟨?_, fun z hz => right_iff.2 (hr z hz), ho, ha⟩
 have := confOk_iff.1 h.conf
 refine confOk_iff.2 ⟨?_, this.size, ?_⟩
 ·dsimp only; rw [hn]; exact this.n
 ·dsimp only; rw [hn]; exact this.op
theorem isOpen_iff {n : Int} : Qt n = true ↔ n = 1 ∨ n = 2 := by simp [Qt]
theorem isActive_iff {n : Int} : QM n = true ↔ n = 1 ∨ n = 2 ∨ n = 3 := by simp [QM]
theorem QhB {size : Int} (h : 0 ≤ size) : RightZ zone0 size := ⟨by decide, h, by decide, fun _ => rfl, fun h => (by cases h), fun h => absurd rfl h, fun s hs => (by cases hs)⟩
theorem QlA {d : Dev} (h : d.ok) (zone : Int) : (QaI d zone).ok := by
 unfold QaI
 split
 ·rename_i he
  obtain ⟨_, h0, h1⟩ := Q8 he
  have hk : zone.toNat < d.zones.length := by omega
  have hc := confOk_iff.1 h.conf
  have e1 := QcD hk zone0
  have e2 := Qb5 hk zone0
  have h1 := h.op
  have h2 := h.act
  rw [if_neg (show ¬ Qt zone0.state = true by decide)] at e1
  rw [if_neg (show ¬ QM zone0.state = true by decide)] at e2
  refine h.with (by simp) (h.all.set (QhB (by have := hc.size; omega))) ?_ ?_
  ·split at e1 <;> omega
  ·split at e2 <;> omega
 ·exact h
theorem RightZ.fin {z : Zone} {size : Int} (h : RightZ z size) : RightZ (QbB z) size := by
 unfold QbB
 split
 ·exact h
 ·exact ⟨by dsimp only; omega, h.len, ⟨Int.natCast_nonneg _, Int.le_refl _⟩, fun e => by dsimp only at e; omega, fun _ => rfl, fun _ e => absurd rfl e, h.secs⟩
theorem QkJ (z : Zone) : (QbB z).state = 4 := by
 unfold QbB
 split
 ·assumption
 ·rfl
theorem Qj2 {d : Dev} (h : d.ok) (zone : Int) : (Qam d zone).ok := by
 unfold Qam
 split
 ·rename_i he
  obtain ⟨_, h0, h1⟩ := Q8 he
  have hk : zone.toNat < d.zones.length := by omega
  have e1 := QcD hk (QbB (d.zones.getD zone.toNat default))
  have e2 := Qb5 hk (QbB (d.zones.getD zone.toNat default))
  have h1 := h.op
  have h2 := h.act
  rw [QkJ] at e1 e2
  rw [if_neg (show ¬ Qt 4 = true by decide)] at e1
  rw [if_neg (show ¬ QM 4 = true by decide)] at e2
  refine h.with (by simp) (h.all.set (h.all.get hk).fin) ?_ ?_
  ·split at e1 <;> omega
  ·split at e2 <;> omega
 ·exact h
theorem RightZ.shut {z : Zone} {size : Int} (h : RightZ z size) (ho : Qt z.state = true) : RightZ (Qa7 z) size := by
 have ho' := isOpen_iff.1 ho
 unfold Qa7
 by_cases c : z.sectors.length = 0
 ·rw [if_pos c]
  exact ⟨by dsimp only; omega, h.len, h.dur, fun _ => c, fun e => (by cases e), fun e => absurd rfl e, h.secs⟩
 ·rw [if_neg c]
  exact ⟨by dsimp only; omega, h.len, h.dur, fun e => by dsimp only at e; omega, fun e => (by cases e), fun _ _ _ => h.part (by omega) (by omega) (by omega), h.secs⟩
theorem QiT (z : Zone) : Qt (Qa7 z).state = false ∧ ((Qa7 z).state = 0 ∨ (Qa7 z).state = 3) := by
 unfold Qa7
 split
 ·exact ⟨rfl, .inl rfl⟩
 ·exact ⟨rfl, .inr rfl⟩
theorem Qjf {l : List Zone} {i : Nat} (hi : i < l.length) (ho : Qt (l.getD i default).state = true) : QK (QV l i) + 1 = QK l ∧ Ql (QV l i) ≤ Ql l := by
 have e1 := QcD hi (Qa7 (l.getD i default))
 have e2 := Qb5 hi (Qa7 (l.getD i default))
 have hs := (QiT (l.getD i default)).1
 rw [if_pos ho, if_neg (by rw [hs]; decide)] at e1
 have ha : QM (l.getD i default).state = true := by
  have := isOpen_iff.1 ho
  exact isActive_iff.2 (by omega)
 rw [if_pos ha] at e2
 refine ⟨e1, ?_⟩
 have : Ql (QV l i) + 1 = Ql l + (if QM (Qa7 (l.getD i default)).state = true then 1 else 0) := e2
 split at this <;> omega
structure RoomOk (d : Dev) (zone : Nat) (l : List Zone) : Prop where
 len : l.length = d.zones.length
 all : AllR l d.size
 op : (QK l : Int) + 1 ≤ d.maxOpen
 act : (l.getD zone default).state = 3 ∧ (Ql l : Int) ≤ d.maxActive ∨ (Ql l : Int) + 1 ≤ d.maxActive
theorem Qve {d : Dev} (h : d.ok) {zone : Nat} (hr : (Qj d zone).1 = 0) : RoomOk d zone (Qj d zone).2 := by
 have h1 := h.op
 have h2 := h.act
 by_cases c : d.maxOpen ≤ QK d.zones
 ·by_cases c2 : QW d.zones < d.zones.length
  ·have hs := QeO _ c2
   have ho : Qt (d.zones.getD (QW d.zones) default).state = true := isOpen_iff.2 (.inl hs)
   obtain ⟨e1, e2⟩ := Qjf c2 ho
   have e : Qj d zone = if ((QV d.zones (QW d.zones)).getD zone default).state ≠ 3 ∧ d.maxActive ≤ Ql (QV d.zones (QW d.zones)) then (9, QV d.zones (QW d.zones)) else (0, QV d.zones (QW d.zones)) := by
    simp only [Qj]
    rw [if_pos c, if_pos c2]
   rw [e] at hr ⊢
   split at hr
   ·cases hr
   ·rename_i c3
    rw [if_neg c3]
    refine ⟨Qd4 _ _, h.all.set ((h.all.get c2).shut ho), by dsimp only; omega, ?_⟩
    dsimp only
    by_cases c4 : ((QV d.zones (QW d.zones)).getD zone default).state = 3
    ·exact .inl ⟨c4, by omega⟩
    ·right; omega
  ·have e : Qj d zone = (8, d.zones) := by
    simp only [Qj]
    rw [if_pos c, if_neg c2]
   rw [e] at hr
   cases hr
 ·have e : Qj d zone = if (d.zones.getD zone default).state ≠ 3 ∧ d.maxActive ≤ Ql d.zones then (9, d.zones) else (0, d.zones) := by
   simp only [Qj]
   rw [if_neg c]
  rw [e] at hr ⊢
  split at hr
  ·cases hr
  ·rename_i c3
   rw [if_neg c3]
   refine ⟨rfl, h.all, by dsimp only; omega, ?_⟩
   dsimp only
   by_cases c4 : (d.zones.getD zone default).state = 3
   ·exact .inl ⟨c4, by omega⟩
   ·right; omega
theorem QmK {d : Dev} (h : d.ok) {zone : Nat} (hk : zone < d.zones.length) (hr : Qt (d.zones.getD zone default).state = true ∨ (Qj d zone).1 = 0) :
  (openL d zone).length = d.zones.length ∧ AllR (openL d zone) d.size ∧ (∀ z : Zone, (QK ((openL d zone).set zone z) : Int) ≤ d.maxOpen) ∧ (∀ z : Zone, (Ql ((openL d zone).set zone z) : Int) ≤ d.maxActive) := by
 have h1 := h.op
 have h2 := h.act
 unfold openL
 by_cases c : Qt (d.zones.getD zone default).state = true
 ·rw [if_pos c]
  have ha : QM (d.zones.getD zone default).state = true := by
   have := isOpen_iff.1 c
   exact isActive_iff.2 (by omega)
  refine ⟨rfl, h.all, fun z => ?_, fun z => ?_⟩
  ·have e := QcD hk z
   rw [if_pos c] at e
   split at e <;> omega
  ·have e := Qb5 hk z
   rw [if_pos ha] at e
   split at e <;> omega
 ·rw [if_neg c]
  have hr0 := hr.resolve_left c
  have R := Qve h hr0
  have hk' : zone < (Qj d zone).2.length := by rw [R.len]; exact hk
  refine ⟨R.len, R.all, fun z => ?_, fun z => ?_⟩
  ·have e := QcD hk' z
   have := R.op
   split at e <;> split at e <;> omega
  ·have e := Qb5 hk' z
   rcases R.act with ⟨a1, a2⟩ | a1
   ·rw [if_pos (isActive_iff.2 (by omega))] at e
    split at e <;> omega
   ·split at e <;> split at e <;> omega
theorem QdX (d : Dev) (zone k : Nat) : ((openL d zone).getD k default).sectors = (d.zones.getD k default).sectors := by
 unfold openL
 split
 ·rfl
 ·exact Qgs d zone k
theorem QeM (d : Dev) (zone : Nat) : (openL d zone).length = d.zones.length := by
 unfold openL
 split
 ·rfl
 ·exact Qj7 d zone
theorem QqW {l : List Zone} {i : Nat} (hi : i < l.length) (k : Nat) : ((QV l i).getD k default).durable = (l.getD k default).durable := by
 simp only [QV]
 by_cases c : k = i
 ·subst c
  simp [List.getD, hi, Qa7]
 ·simp only [List.getD]
  rw [List.getElem?_set_ne (Ne.symm c)]
theorem Qsc (d : Dev) (zone k : Nat) : ((Qj d zone).2.getD k default).durable = (d.zones.getD k default).durable := by
 simp only [Qj]
 split
 ·rfl
 ·rename_i l h
  have : (l.getD k default).durable = (d.zones.getD k default).durable := by
   split at h
   ·split at h
    ·rename_i h2
     cases h; exact QqW h2 _
    ·cases h
   ·cases h; rfl
  split <;> exact this
theorem Qkz (d : Dev) (zone k : Nat) : ((openL d zone).getD k default).durable = (d.zones.getD k default).durable := by
 unfold openL
 split
 ·rfl
 ·exact Qsc d zone k
theorem Qqh {d : Dev} {zone : Int} (he : QqH d zone = 0) : QN d zone = 0 ∧ (d.zones.getD zone.toNat default).state ≠ 4 ∧ (Qt (d.zones.getD zone.toNat default).state = true ∨ (Qj d zone.toNat).1 = 0) := by
 unfold QqH at he
 split at he
 ·rename_i h1
  split at he
  ·cases he
  ·rename_i h2
   split at he
   ·exact ⟨h1, h2, .inl (by assumption)⟩
   ·exact ⟨h1, h2, .inr he⟩
 ·exact absurd he (by assumption)
theorem QlX {d : Dev} {zone : Int} (h : QN d zone = 0) : (d.zones.getD zone.toNat default).state ≠ 5 := by
 intro h5
 obtain ⟨hok, h0, h1⟩ := Q8 h
 have : QN d zone = 6 := by
  simp only [QN, check_ok.2 hok, if_pos, decide_eq_true (show 0 ≤ zone ∧ zone < d.zones.length from ⟨h0, h1⟩), if_pos h5]
 omega
theorem Qvg {d : Dev} (h : d.ok) (zone : Int) : (Qjr d zone).ok := by
 unfold Qjr
 split
 ·rename_i he
  obtain ⟨hb, h4, hr⟩ := Qqh he
  obtain ⟨_, h0, h1⟩ := Q8 hb
  have h5 := QlX hb
  have hk : zone.toNat < d.zones.length := by omega
  obtain ⟨o1, o2, o3, o4⟩ := QmK h hk hr
  refine h.with (by simp [o1]) (o2.set ?_) (o3 _) (o4 _)
  have hz := h.all.get hk
  have hsz := (confOk_iff.1 h.conf).size
  have e := QdX d zone.toNat zone.toNat
  have e2 := Qkz d zone.toNat zone.toNat
  refine ⟨by dsimp only; omega, ?_, ?_, fun e => by dsimp only at e; omega, fun e => by dsimp only at e; omega, fun _ _ _ => ?_, ?_⟩
  ·rw [e]; exact hz.len
  ·rw [e, e2]; exact hz.dur
  ·rw [e]
   by_cases c : (d.zones.getD zone.toNat default).state = 0
   ·have := hz.emp (.inl c); omega
   ·exact hz.part c h4 h5
  ·rw [e]; exact hz.secs
 ·exact h
theorem Qul {d : Dev} (h : d.ok) (zone : Int) : (Qg0 d zone).ok := by
 unfold Qg0
 split
 ·rename_i he
  split
  ·rename_i ho
   have hb : QN d zone = 0 := by
    unfold QrS at he
    split at he
    ·assumption
    ·exact absurd he (by assumption)
   obtain ⟨_, h0, h1⟩ := Q8 hb
   have hk : zone.toNat < d.zones.length := by omega
   obtain ⟨e1, e2⟩ := Qjf hk ho
   have h1 := h.op
   have h2 := h.act
   exact h.with (Qd4 _ _) (h.all.set ((h.all.get hk).shut ho)) (by omega) (by omega)
  ·exact h
 ·exact h
theorem Qex {d : Dev} {zone : Int} {s : ByteArray} (he : QP d zone s = 0) : QN d zone = 0 ∧ s.size = 40 ∧ (d.zones.getD zone.toNat default).state ≠ 4 ∧ (Qt (d.zones.getD zone.toNat default).state = true ∨ (Qj d zone.toNat).1 = 0) := by
 unfold QP at he
 split at he
 ·rename_i hc
  split at he
  ·rename_i hr
   split at he
   ·rename_i hs
    split at he
    ·cases he
    ·rename_i h5
     split at he
     ·cases he
     ·rename_i h4
      have hb : QN d zone = 0 := by simp only [QN, hc, if_pos, hr, if_neg h5]
      split at he
      ·exact ⟨hb, hs, h4, .inl (by assumption)⟩
      ·exact ⟨hb, hs, h4, .inr he⟩
   ·cases he
  ·cases he
 ·exact absurd he (by assumption)
theorem QcU {d : Dev} (h : d.ok) (zone : Int) (s : ByteArray) : (Qw d zone s).ok := by
 unfold Qw
 split
 ·rename_i he
  obtain ⟨hb, hs, h4, hr⟩ := Qex he
  obtain ⟨_, h0, h1⟩ := Q8 hb
  have h5 := QlX hb
  have hk : zone.toNat < d.zones.length := by omega
  obtain ⟨o1, o2, o3, o4⟩ := QmK h hk hr
  refine h.with (by simp [o1]) (o2.set ?_) (o3 _) (o4 _)
  have hz := h.all.get hk
  have hsz := (confOk_iff.1 h.conf).size
  have e := QdX d zone.toNat zone.toNat
  have e2 := Qkz d zone.toNat zone.toNat
  have hlt : ((d.zones.getD zone.toNat default).sectors.length : Int) < d.size := by
   by_cases c : (d.zones.getD zone.toNat default).state = 0
   ·have := hz.emp (.inl c); omega
   ·exact hz.part c h4 h5
  have hsec : ∀ t ∈ ((openL d zone.toNat).getD zone.toNat default).sectors ++ [s], t.size = 40 := by
   intro t ht
   rcases List.mem_append.1 ht with ht | ht
   ·rw [e] at ht; exact hz.secs t ht
   ·rw [List.mem_singleton.1 ht]; exact hs
  have hd := hz.dur
  unfold grow
  split
  ·rename_i hf
   rw [e] at hf
   refine ⟨by dsimp only; omega, ?_, ?_, fun e => by dsimp only at e; omega, fun _ => ?_, fun _ e => absurd rfl e, hsec⟩ <;> (dsimp only; rw [List.length_append, e]; simp only [List.length_cons, List.length_nil]; omega)
  ·rename_i hf
   rw [e] at hf
   have hst : ∀ n : Int, (if Qt n = true then n else 1) = 1 ∨ (if Qt n = true then n else 1) = 2 := by
    intro n
    split
    ·rename_i ho; exact isOpen_iff.1 ho
    ·exact .inl rfl
   have hst := hst ((openL d zone.toNat).getD zone.toNat default).state
   refine ⟨by dsimp only; omega, ?_, ?_, fun e => by dsimp only at e; omega, fun e => by dsimp only at e; omega, fun _ _ _ => ?_, hsec⟩ <;> (dsimp only; rw [List.length_append, e]; try rw [e2]) <;> (simp only [List.length_cons, List.length_nil]; omega)
 ·exact h
theorem Qqx {z : Zone} {size : Int} (h : RightZ z size) : RightZ (Qhp z) size :=
 ⟨h.st, h.len, ⟨Int.natCast_nonneg _, Int.le_refl _⟩, h.emp, fun _ => rfl, h.part, h.secs⟩
theorem Qme (l : List Zone) : QK (l.map Qhp) = QK l ∧ Ql (l.map Qhp) = Ql l := by
 simp only [QK, Ql, List.filter_map, List.length_map]
 exact ⟨rfl, rfl⟩
theorem QpZ {d : Dev} (h : d.ok) : Dev.ok { d with zones := d.zones.map Qhp } := by
 refine h.with (by simp) ?_ (by rw [(Qme _).1]; exact h.op) (by rw [(Qme _).2]; exact h.act)
 intro z hz
 obtain ⟨x, hx, rfl⟩ := List.mem_map.1 hz
 exact Qqx (h.all x hx)
theorem QuT {x : Dev} (h : x.ok) (d : DiceM) (n : Int) : (cmdX d x n).ok := by
 unfold cmdX
 split
 ·exact QlA h _
 split
 ·exact Qj2 h _
 split
 ·exact Qvg h _
 split
 ·exact Qul h _
 split
 ·exact QpZ h
 ·exact QcU h _ _
theorem Qku (d : Dev) (z : Int) : (QaI d z).zones.length = d.zones.length := by unfold QaI; split <;> simp
theorem Qje (d : Dev) (z : Int) : (Qam d z).zones.length = d.zones.length := by unfold Qam; split <;> simp
theorem Qun (d : Dev) (z : Int) : (Qjr d z).zones.length = d.zones.length := by unfold Qjr; split <;> simp [QeM]
theorem QsL (d : Dev) (z : Int) : (Qg0 d z).zones.length = d.zones.length := by
 unfold Qg0
 split
 ·split
  ·exact Qd4 _ _
  ·rfl
 ·rfl
theorem QfT (d : Dev) (z : Int) (s : ByteArray) : (Qw d z s).zones.length = d.zones.length := by unfold Qw; split <;> simp [QeM]
theorem Qur (x : Dev) (d : DiceM) (n : Int) : (cmdX d x n).zones.length = x.zones.length := by
 unfold cmdX
 split
 ·exact Qku _ _
 split
 ·exact Qje _ _
 split
 ·exact Qun _ _
 split
 ·exact QsL _ _
 split
 ·simp
 ·exact QfT _ _ _
end Go.Am
namespace Go.Am
def DiceM.left (d : DiceM) : Nat := d.l.length - d.at_
theorem QcW {d : DiceM} : d.step.left = d.left - 1 ∧ d.step.l = d.l := by
 unfold DiceM.step DiceM.left
 split
 ·exact ⟨by omega, rfl⟩
 ·exact ⟨by dsimp only; omega, rfl⟩
theorem QsU (d : DiceM) (n : Int) (h : 0 < d.left) : (cmdD d n).left < d.left := by
 have h1 := (QcW (d := d)).1
 have h2 := (QcW (d := d.step)).1
 have h3 := (QcW (d := d.step.step)).1
 have h4 := (QcW (d := d.step.step.step)).1
 have h5 := (QcW (d := d.step.step.step.step)).1
 have h6 := (QcW (d := d.step.step.step.step.step)).1
 unfold cmdD
 split
 ·omega
 ·simp only [recD]; omega
def devF : Nat → DiceM → Dev → Int → Dev
 | 0, _, x, _ => x
 | f + 1, d, x, n => if 0 < d.left then devF f (cmdD d n) (cmdX d x n) n else x
theorem Qr1 : ∀ (f g : Nat) (d : DiceM) (x : Dev) (n : Int), d.left ≤ f → d.left ≤ g → devF f d x n = devF g d x n
 | 0, 0, _, _, _, _, _ => rfl
 | 0, g + 1, d, x, n, h, _ => by simp only [devF]; rw [if_neg (by omega)]
 | f + 1, 0, d, x, n, _, h => by simp only [devF]; rw [if_neg (by omega)]
 | f + 1, g + 1, d, x, n, h1, h2 => by
  simp only [devF]
  split
  ·rename_i h
   have := QsU d n h
   exact Qr1 f g _ _ _ (by omega) (by omega)
  ·rfl
def devN (d : DiceM) : Int := 2 + d.next 4
def Qwf (d : DiceM) : Dev := newX (devN d) (3 + d.step.next 3) (1 + d.step.step.next 2) 2
def deviceD (l : List Int) : Dev := devF l.length (DiceM.step (DiceM.step (DiceM.step ⟨l, 0⟩))) (Qwf ⟨l, 0⟩) (devN ⟨l, 0⟩)
theorem Qo3 (p : Zone → Bool) (hp : p zone0 = false) (n : Nat) : ((List.replicate n zone0).filter p).length = 0 := by
 rw [List.length_eq_zero_iff, List.filter_eq_nil_iff]
 intro z hz
 rw [List.mem_replicate] at hz
 rw [hz.2, hp]
 decide
theorem Qvo {zones size op act : Int} (h1 : 1 ≤ zones) (h2 : zones ≤ 32) (h3 : 3 ≤ size) (h4 : size ≤ 64) (h5 : 1 ≤ op) (h6 : op ≤ act) (h7 : act ≤ zones) : (newX zones size op act).ok := by
 refine ⟨confOk_iff.2 ⟨?_, ⟨h3, h4⟩, h5, h6, ?_⟩, fun z hz => ?_, ?_, ?_⟩
 ·simp only [newX, List.length_replicate]; omega
 ·simp only [newX, List.length_replicate]; omega
 ·simp only [newX, List.mem_replicate] at hz
  rw [hz.2]
  exact right_iff.2 (QhB (by simp only [newX]; omega))
 ·have : QK (newX zones size op act).zones = 0 := Qo3 _ (by decide) _
  rw [this]; simp only [newX]; omega
 ·have : Ql (newX zones size op act).zones = 0 := Qo3 _ (by decide) _
  rw [this]; simp only [newX]; omega
theorem QuR : ∀ (f : Nat) (d : DiceM) (x : Dev) (n : Int), x.ok → (devF f d x n).ok ∧ (devF f d x n).zones.length = x.zones.length
 | 0, _, x, _, h => ⟨h, rfl⟩
 | f + 1, d, x, n, h => by
  simp only [devF]
  split
  ·obtain ⟨h1, h2⟩ := QuR f (cmdD d n) (cmdX d x n) n (QuT h d n)
   exact ⟨h1, h2.trans (Qur x d n)⟩
  ·exact ⟨h, rfl⟩
def oddD (x : Dev) (what at_ by_ : Int) : Dev :=
 if x.zones.length = 0 then x else
  let k := (modI at_ x.zones.length).toNat
  let z := x.zones.getD k default
  let m := modI what 9
  if m = 0 then { x with zones := x.zones.set k { z with state := IntKind.i64.wrap (modI by_ 8 - 1) } }
  else if m = 1 then { x with zones := x.zones.set k { z with durable := IntKind.i64.wrap (IntKind.i64.wrap (z.durable + modI by_ 5) - 2) } }
  else if m = 2 then { x with zones := x.zones.set k { z with sectors := z.sectors ++ [⟨#[120]⟩] } }
  else if m = 3 then { x with size := IntKind.i64.wrap (IntKind.i64.wrap (x.size + modI by_ 5) - 2) }
  else if m = 4 then { x with maxOpen := modI by_ 5 }
  else if m = 5 then { x with maxActive := modI by_ 6 }
  else if m = 6 then { x with zones := [] }
  else if m = 7 then { x with zones := x.zones.set k ⟨5, 0, []⟩ }
  else x
end Go.Am
namespace Go.Am
structure Zone.fits (z : Zone) : Prop where
 st : -9223372036854775808 ≤ z.state ∧ z.state ≤ 9223372036854775807
 du : -9223372036854775808 ≤ z.durable ∧ z.durable ≤ 9223372036854775807
def Dev.dur (d : Dev) : Prop := ∀ i, (d.zones.getD i default).durable ≤ 9223372036854775807
theorem QoF : (default : Zone).durable ≤ 9223372036854775807 := by decide
theorem Dev.ok.dur {d : Dev} (h : d.ok) : d.dur := by
 intro i
 by_cases hi : i < d.zones.length
 ·have h1 := (h.all.get hi).dur
  have h2 := h.small.s i
  omega
 ·have : d.zones.getD i default = default := by simp [List.getD, Nat.le_of_not_lt hi]
  rw [this]
  exact QoF
end Go.Am
end

section
open Go Go.Am
namespace Go.Proofs
set_option maxRecDepth 20000
def Qc5 (m : List (List Ent)) (k : Nat) : List Ent := (m.take k).flatten
theorem QhO {m : List (List Ent)} {k : Nat} (hk : k < m.length) : Qc5 m (k + 1) = Qc5 m k ++ m.getD k default := by
 unfold Qc5
 rw [Qaa m hk, List.flatten_append]
 simp
theorem Qpx (m : List (List Ent)) : Qc5 m m.length = m.flatten := by unfold Qc5; rw [List.take_length]
theorem Qi7 {m : List (List Ent)} : ∀ {k : Nat}, k ≤ m.length → (∀ i, (m.getD i default).length ≤ 1000000) → (Qc5 m k).length ≤ k * 1000000
 | 0, _, _ => by simp [Qc5]
 | k + 1, hk, h => by
  rw [QhO (by omega), List.length_append]
  have := Qi7 (k := k) (by omega) h
  have := h k
  omega
def Qaf (m : List (List Ent)) (i k : Nat) : List Ent := (Qc5 m i ++ (m.getD i default).take k).foldl insE []
theorem Qjt (m : List (List Ent)) (i : Nat) : Qaf m i 0 = (Qc5 m i).foldl insE [] := by simp [Qaf]
theorem Qip {m : List (List Ent)} {i k : Nat} (hk : k < (m.getD i default).length) : Qaf m i (k + 1) = insE (Qaf m i k) ((m.getD i default).getD k default) := by
 unfold Qaf
 rw [Qaa _ hk, ← List.append_assoc, List.foldl_append]
 rfl
theorem Qp1 {m : List (List Ent)} {i : Nat} (hi : i < m.length) : Qaf m i (m.getD i default).length = Qaf m (i + 1) 0 := by
 rw [Qjt, QhO hi]
 unfold Qaf
 rw [List.take_length]
theorem QkX (m : List (List Ent)) : Qaf m m.length 0 = allM m := by rw [Qjt, Qpx]; rfl
theorem QjL (l : List Ent) : ∀ out : List Ent, (l.foldl insE out).length = out.length + l.length := by
 induction l with
 | nil => intro out; rfl
 | cons x l ih => intro out; simp only [List.foldl_cons, ih, Qh3, List.length_cons]; omega
theorem QjT {m : List (List Ent)} {i k : Nat} (hm : m.length ≤ 8) (hs : ∀ i, (m.getD i default).length ≤ 1000000) (hi : i ≤ m.length) : (Qaf m i k).length ≤ 9000000 := by
 unfold Qaf
 rw [QjL, List.length_append, List.length_take]
 have := Qi7 hi hs
 have := hs i
 simp only [List.length_nil]
 omega
theorem Qs3 {l : List Ent} {b : Int} {a n : Nat} (hn : n ≤ l.length) (h : Qbj l b n = Qbj l b a) (ha : 0 < a) (h2 : b < (l.getD (a - 1) default).block) : Qbj l b n = Qbj l b (a - 1) := by
 rw [h]
 obtain ⟨a', rfl⟩ : ∃ a', a = a' + 1 := ⟨a - 1, by omega⟩
 simp only [Nat.add_sub_cancel] at h2 ⊢
 exact if_pos h2
theorem Qsx {l : List Ent} {b : Int} {a : Nat} (h : ¬ (0 < a ∧ b < (l.getD (a - 1) default).block)) : Qbj l b a = a := by
 cases a with
 | zero => rfl
 | succ a =>
  unfold Qbj
  rw [if_neg]
  intro c
  exact h ⟨by omega, by simpa using c⟩
theorem Qqu {a b : List Ent} {i : Nat} (h : i < a.length) : (a ++ b).getD i default = a.getD i default := by
 simp only [List.getD, List.getElem?_append_left h]
theorem QiE {a b : List Ent} {i : Nat} (h : a.length ≤ i) : (a ++ b).getD i default = b.getD (i - a.length) default := by
 simp only [List.getD, List.getElem?_append_right h]
theorem Qvd {l : List Ent} {x : Ent} {at_ n : Nat} {t : List C} {g0 : Nat → Nat → C} (hn : n = l.length) (ha : at_ ≤ n) (hs : Qbj l x.block l.length = at_) {i j : Nat} (hi : i < l.length + 1) (hj : j < 6) :
  cutG (cutG (entG l) at_ 1 (Qag 6 (.int .i64 x.block :: .int .i64 x.kind :: .int .i64 x.version :: .int .i64 x.move :: .int .i64 x.zone :: .int .i64 x.offset :: t))) (at_ + 1) (0 + (n - at_)) (appG g0 0 (fun i j => entG l (at_ + i) j)) i j = entG (insE l x) i j := by
 subst hn
 rw [Nat.zero_add]
 unfold cutG appG insE
 rw [hs]
 have e : entG (l.take at_ ++ x :: l.drop at_) i j = ((l.take at_ ++ x :: l.drop at_).getD i default).cell j := rfl
 rw [e]
 have hlt : (l.take at_).length = at_ := by rw [List.length_take]; omega
 by_cases c1 : i < at_
 ·rw [if_pos (by omega), if_pos c1]
  rw [Qqu (by rw [hlt]; exact c1)]
  show (l.getD i default).cell j = _
  congr 1
  simp [List.getD, c1]
 ·by_cases c2 : i = at_
  ·subst c2
   rw [if_pos (by omega), if_neg (by omega), if_pos (by omega)]
   rw [QiE (by rw [hlt]; exact Nat.le_refl _), hlt, Nat.sub_self]
   match j, hj with
   | 0, _ => rfl
   | 1, _ => rfl
   | 2, _ => rfl
   | 3, _ => rfl
   | 4, _ => rfl
   | 5, _ => rfl
  ·rw [if_neg (by omega), if_pos (by omega), if_neg (by omega)]
   rw [QiE (by rw [hlt]; omega), hlt]
   show (l.getD (at_ + (i - (at_ + 1) - 0)) default).cell j = _
   congr 1
   obtain ⟨q, hq⟩ : ∃ q, i = at_ + 1 + q := ⟨i - at_ - 1, by omega⟩
   subst hq
   rw [show at_ + 1 + q - at_ = q + 1 by omega, show at_ + (at_ + 1 + q - (at_ + 1) - 0) = at_ + q by omega]
   simp [List.getD]
set_option maxHeartbeats 4000000 in
theorem QeN (m : List (List Ent)) (hs : ∀ i, (m.getD i default).length ≤ 1000000) (hml : m.length ≤ 1000000) : PS 19 [.a [Qh m]] (.c (QS (allS m))) := by
 refine PSpec.rm ?_
 refine ov0 hΓ Tryz.func19 73 0 [.tmp 2] Tryz.ntmps19 Tryz.results19 ?_
 refine CallN.pureA Qdy (QdF m hml hs ) (Go0 ?_)
 by_cases h : QL m = true
 ·refine Br.no (by rw [h]; rfl) (Go0 ?_)
  have hm := QdP h
  rw [show allS m = allM m from if_pos h]
  refine Lp.reserve 67 6 (entG []) 3 rfl ?_
  refine Lp.mkK hΓ (ι := Nat) [1, 2] (fun i => [(4, .c (.int .i64 i)), (3, .c (.sl 1 6 (Qaf m i 0).length (Qaf m i 0).length false))]) (fun i => [.vr [Qh m], .arr 67 6 (Qaf m i 0).length (entG (Qaf m i 0))]) (fun k => k ≤ m.length) (fun i => m.length - i) 0 (Nat.zero_le _) ?_ ?_
  ·exact Mv.k0
  ·intro k hk
   have hsk := hs k
   refine Go1 fun _h=>?_
   refine Br.of (fun h1=>?_) (fun h1=>?_)<;>(try simp only [Int.toNat_natCast] at h1)<;>refine Go0 ?_
   ·refine Lp.mkK hΓ (ι := Nat) [1, 2, 4] (fun q => [(5, .c (.int .i64 q)), (3, .c (.sl 1 6 (Qaf m k q).length (Qaf m k q).length false))]) (fun q => [.vr [Qh m], .arr 67 6 (Qaf m k q).length (entG (Qaf m k q))]) (fun q => q ≤ (m.getD k default).length) (fun q => (m.getD k default).length - q) 0 (Nat.zero_le _) ?_ ?_
    ·exact Mv.k0
    ·intro q hq
     have hlq := QjT (k := q) hm.2 hs hk
     refine Go1 fun _h=>?_
     have e0 : (k : Int).toNat = k := rfl
     refine Br.of (fun h2=>?_) (fun h2=>?_)<;>(try simp only [Int.toNat_natCast] at h2)<;>refine Go0 ?_
     ·refine Lp.mkK hΓ (ι := Nat) [1, 2, 3, 4, 5] (fun a => [(6, .c (.int .i64 a))]) (fun _ => [.vr [Qh m], .arr 67 6 (Qaf m k q).length (entG (Qaf m k q))]) (fun a => a ≤ (Qaf m k q).length ∧ Qbj (Qaf m k q) ((m.getD k default).getD q default).block (Qaf m k q).length = Qbj (Qaf m k q) ((m.getD k default).getD q default).block a) (fun a => a) (Qaf m k q).length ⟨Nat.le_refl _, rfl⟩ ?_ ?_
      ·exact Mv.k0
      ·rintro a ⟨ha, ha2⟩
       refine Go0 ?_
       refine Dr.mk hΓ hMix (by kernel_rfl) ?_; conv=>whnf
       have hw : IntKind.i64.wrap (↑a - 1) = ↑a - 1 := Qa _ (by omega) (by omega)
       refine Go0 ?_
       refine Frc.mk (.c (.int .i64 ((Qaf m k q).getD (IntKind.i64.wrap (↑a - 1)).toNat default).block)) rfl (Go0 ?_)
       have hp : 0 < a → (IntKind.i64.wrap (↑a - 1)).toNat = a - 1 := fun h0 => by rw [hw]; omega
       by_cases c : 0 < a ∧ ((m.getD k default).getD q default).block < ((Qaf m k q).getD (a - 1) default).block
       ·refine Br.yes (by rw [hp c.1]; simp [-List.getD_eq_getElem?_getD, c.1, c.2]) ?_
        refine Go0 ?_
        refine ⟨a - 1, ⟨by omega, Qs3 (Nat.le_refl _) ha2 c.1 c.2⟩, by omega, ?_⟩
        exact Mv.k0
       ·refine Br.no (Bool.eq_false_iff.2 fun e => c (by
         by_cases c0 : 0 < a
         ·rw [hp c0] at e
          simp [-List.getD_eq_getElem?_getD] at e
          exact e
         ·have : a = 0 := by omega
          subst this
          simp at e)) ?_
        refine Go0 ?_
        have hst := Qsx c
        have hle : a ≤ (Qaf m k q).length := ha
        have hqb : q < (m.getD k default).length := by omega
        refine Dr.mkE hΓ hMix [4294967297] [(13, 12)] (by kernel_rfl) (Go0 ?_)
        have w0 := Qa (↑q + 1) (by omega) (by omega)
        refine ⟨q + 1, by omega, by omega, ?_⟩
        have hln : (Qaf m k (q + 1)).length = (Qaf m k q).length + 1 := by rw [Qip hqb, Qh3]
        refine Mv.k1 ?_
        intro i hi j hj
        exact WC.eq ((Qvd (x := (m.getD k default).getD q default) rfl hle (ha2.trans hst) (by omega) hj).trans (by rw [Qip hqb])) (QH _ _)
     ·have w0 := Qa (↑k + 1) (by omega) (by omega)
      have : q = (m.getD k default).length := by omega
      subst this
      refine ⟨k + 1, by omega, by omega, ?_⟩
      rw [Qp1 (by omega)]
      exact Mv.k0
   ·have : k = m.length := by omega
    subst this
    rw [QkX]
    exact RM.allC (Fw.slP rfl rfl rfl (fun _ _ _ _ => rfl) (fun _ _ => QH _ _))
 ·refine Br.yes (by rw [QaY h]; rfl) (Go0 ?_)
  rw [show allS m = [] from if_neg h]
  exact RM.i0
theorem Qe9 : HB 19 := hB Tryz.func19
theorem Qkr (x n : Int) (hn : 1 ≤ n) (w : World) : Calls Tryz.prog 13 #[.int .i64 x, .int .i64 n] w fun e w' => e = .returned (.int .i64 (modI x n)) ∧ w' = w := by
 have h1 : ¬ n < 1 := by omega
 have h0 : ¬ n = 0 := by omega
 have e : IntKind.i64.wrap (x.tmod n + n) = Go.RowKit.wrap64 (x.tmod n + n) := by rw [IntKind.wrap_i64, Go.RowKit.wrap64]
 rw [show modI x n = (Go.RowKit.wrap64 (x.tmod n + n)).tmod n by rw [← e]; exact if_neg (by omega)]
 go_enter Tryz.func13, Tryz.ntmps13
 go_wp2
 go_ret
 exact ⟨rfl, rfl⟩
def Drn (w w2 : World) : Prop := w2 = { w with drawn := w.drawn + 1 }
theorem QpY {P : Program} {id : Nat} {Q : Exit → Act → World → Prop} {a : Act} {w : World} {l : List Oper} (n : Nat) (hm : P.follows .mixedOrders = true) (hB : Region.lexTailB .any l.toArray n = true)
  (h : ∀ w2 : World, Drn w w2 → wpStill P l.toArray w2 (fun a' => wpList P l.toArray Q (l.drop n) a' w2) (l.take n) a) : (Code.region id l.toArray true).wp P Q a w :=
 wp_region_still_tail n hm hB (h _ rfl)
def xorB (c k : Int) : Int := bits .xor .u8 c (2 ^ min (IntKind.u64.wrap k).toNat 8 % 256)
set_option maxRecDepth 100000 in
set_option maxHeartbeats 2000000 in
theorem Qtl (s r : ByteArray) (at_ bit : Int) (C : Array Value) (cap : Nat) (w : World) (m k : Nat) (c : Int)
  (hs : s.toList.isEmpty = false)
  (hm : 0 ≤ (m : Int) ∧ (m : Int) < s.size) (hk : (0 : Int) ≤ k)
  (h1 : ∀ w, Calls Tryz.prog 13 #[.int .i64 at_, .int .i64 s.size] w fun e w' => e = .returned (.int .i64 m) ∧ w' = w)
  (h2 : ∀ w, Calls Tryz.prog 13 #[.int .i64 bit, .int .i64 8] w fun e w' => e = .returned (.int .i64 k) ∧ w' = w)
  (hconv : (convert 9 114 (.string s)).run Tryz.prog w = .ok (.slice (some ⟨w.heap.size, 0, none⟩) s.size cap) (w.drew.alloc (.cells C 5 (C.size, C.size + 1))))
  (hc : (w.alloc (.cells C 5 (C.size, C.size + 1))).cell? ⟨w.heap.size, m, none⟩ = some (.int .u8 c)) (hz : (w.alloc (.cells C 5 (C.size, C.size + 1))).frozen? ⟨w.heap.size, m, none⟩ = false)
  (hback : ∀ W2, Drn (w.alloc (.cells C 5 (C.size, C.size + 1))).drew W2 → (convert 114 9 (.slice (some ⟨w.heap.size, 0, none⟩) s.size cap)).run Tryz.prog (W2.setCell ⟨w.heap.size, m, none⟩ (.int .u8 (bits .xor .u8 c (2 ^ min (IntKind.u64.wrap k).toNat 8 % 256)))) = .ok (.string r) (W2.setCell ⟨w.heap.size, m, none⟩ (.int .u8 (bits .xor .u8 c (2 ^ min (IntKind.u64.wrap k).toNat 8 % 256))))) :
  Calls Tryz.prog 17 #[.string s, .int .i64 at_, .int .i64 bit] w fun e w' => e = .returned (.string r) ∧ ∃ W2, Drn (w.alloc (.cells C 5 (C.size, C.size + 1))).drew W2 ∧ w' = W2.setCell ⟨w.heap.size, m, none⟩ (.int .u8 (bits .xor .u8 c (2 ^ min (IntKind.u64.wrap k).toNat 8 % 256))) := by
 go_enter Tryz.func17, Tryz.ntmps17
 go_wp2
 clear hconv
 generalize hW : w.alloc (.cells C 5 (C.size, C.size + 1)) = W at *
 generalize hb : w.heap.size = b at *
 refine QpY 13 (by kernel_rfl) (by kernel_rfl) fun W2 hW2 => ?_
 simp only [List.take_succ_cons, List.take_zero, List.drop_succ_cons, List.drop_zero]
 replace hc : W2.cell? ⟨b, m, none⟩ = some (.int .u8 c) := by rw [show W2 = _ from hW2]; exact hc
 replace hz : W2.frozen? ⟨b, m, none⟩ = false := by rw [show W2 = _ from hW2]; exact hz
 have hback2 := hback W2 hW2
 clear hback
 still_step
 still_step
 still_step
 still_step
 still_call (h1 _)
 still_step
 still_step
 still_step
 still_call (h2 _)
 still_step
 still_step
 still_step
 still_step
 refine wpStill_nil ?_
 go_wp2
 go_ret
 subst hW
 subst hb
 exact ⟨rfl, W2, hW2, rfl⟩
set_option maxRecDepth 100000 in
theorem Qte (s : ByteArray) (at_ bit : Int) (w : World) (hs : s.toList.isEmpty = true) :
  Calls Tryz.prog 17 #[.string s, .int .i64 at_, .int .i64 bit] w fun e w' => e = .returned (.string s) ∧ w' = w := by
 go_enter Tryz.func17, Tryz.ntmps17
 go_wp2
 go_ret
 exact ⟨rfl, rfl⟩
def Qdz (s : ByteArray) (at_ bit : Int) : ByteArray :=
 if s.toList.isEmpty then s else ⟨(s.data.toList.set (modI at_ s.size).toNat (UInt8.ofNat (bits .xor .u8 (s.data[(modI at_ s.size).toNat]!).toNat (2 ^ min (IntKind.u64.wrap ((modI bit 8).toNat : Int)).toNat 8 % 256)).toNat)).toArray⟩
theorem QpW (s : ByteArray) (hs0 : s.size ≤ 4611686018427387904) (at_ bit : Int) (w : World) :
  Calls Tryz.prog 17 #[.string s, .int .i64 at_, .int .i64 bit] w fun e w' => e = .returned (.string (Qdz s at_ bit)) ∧ Go.RowKit.Below w.heap.size w w' := by
 by_cases hs : s.toList.isEmpty = true
 ·refine (Qte s at_ bit w hs).mono ?_
  rintro e w' ⟨rfl, rfl⟩
  exact ⟨by rw [Qdz, if_pos hs], Go.RowKit.Below.refl _ _⟩
 ·have hs' : s.toList.isEmpty = false := by simpa using hs
  have hpos : 0 < s.size := by
   rcases Nat.eq_zero_or_pos s.size with q | q
   ·exfalso
    apply hs
    obtain ⟨⟨l⟩⟩ := s
    have : l.length = 0 := q
    rw [List.eq_nil_of_length_eq_zero this]
    unfold ByteArray.toList ByteArray.toList.loop
    rfl
   ·exact q
  obtain ⟨m0, m1⟩ := Qc9 (x := at_) (n := s.size) (by omega) (by omega)
  obtain ⟨k0, k1⟩ := Qc9 (x := bit) (n := 8) (by omega) (by omega)
  obtain ⟨m, hm⟩ := Int.eq_ofNat_of_zero_le m0
  obtain ⟨k, hk⟩ := Int.eq_ofNat_of_zero_le k0
  rw [hm] at m1
  have hml : m < s.data.size := by
   have : s.size = s.data.size := rfl
   omega
  have u9 : Tryz.prog.underlying 9 = some .string := by kernel_rfl
  have u114 : Tryz.prog.underlying 114 = some (.slice 5) := by kernel_rfl
  have u5 : Tryz.prog.underlying 5 = some (.int .u8) := by kernel_rfl
  have hconv := run_bytes_of_string (P := Tryz.prog) w 9 114 5 s u9 u114 u5
  generalize hcap : grownCap w s.size 0 5 = cap at hconv
  have hcell := bytesRow_at s cap m hml
  have hrow : ∀ j (hj : j < s.data.size), (bytesRow s cap)[j]? = some (.int .u8 (s.data[j].toNat : Int)) := bytesRow_at s cap
  have hsz : m < (bytesRow s cap).size := (Array.getElem?_eq_some_iff.1 hcell).1
  generalize bytesRow s cap = C at *
  have c1 : (w.alloc (.cells C 5 (C.size, C.size + 1))).cell? ⟨w.heap.size, m, none⟩ = some (.int .u8 (s.data[m].toNat : Int)) := by rw [World.cell?_alloc_mark, hcell]
  have z1 : (w.alloc (.cells C 5 (C.size, C.size + 1))).frozen? ⟨w.heap.size, m, none⟩ = false := by
   rw [World.frozen?_alloc_mark]
   have : decide (C.size ≤ m) = false := decide_eq_false (by omega)
   rw [this]
   rfl
  have hd0 : ∀ d : Int, (∃ x y, d = bits .xor .u8 x y) → ((UInt8.ofNat d.toNat).toNat : Int) = d := by
   rintro d ⟨x, y, rfl⟩
   have h : ∀ z : Int, ((UInt8.ofNat (IntKind.u8.wrap z).toNat).toNat : Int) = IntKind.u8.wrap z := fun z => by
    rw [IntKind.wrap_u8]
    simp
    omega
   exact h _
  have hd := hd0 _ ⟨(s.data[m].toNat : Int), 2 ^ min (IntKind.u64.wrap (k : Int)).toNat 8 % 256, rfl⟩
  refine (Qtl s (Qdz s at_ bit) at_ bit C cap w m k (s.data[m].toNat : Int) hs' ⟨by omega, by omega⟩ (by omega) (fun w => ?_) (fun w => ?_) hconv c1 z1 fun W2 hW2 => ?_).mono ?_
  ·have := Qkr at_ s.size (by omega) w
   rw [hm] at this
   exact this
  ·have := Qkr bit 8 (by omega) w
   rw [hk] at this
   exact this
  ·generalize hD : bits .xor .u8 (s.data[m].toNat : Int) (2 ^ min (IntKind.u64.wrap (k : Int)).toNat 8 % 256) = D at hd ⊢
   have e : Qdz s at_ bit = ⟨(s.data.toList.set m (UInt8.ofNat D.toNat)).toArray⟩ := by
    rw [Qdz, if_neg hs, hm, hk]
    rw [← hD]
    show (⟨(s.data.toList.set m (UInt8.ofNat (bits .xor .u8 (s.data[m]!.toNat) (2 ^ min (IntKind.u64.wrap (k : Int)).toNat 8 % 256)).toNat)).toArray⟩ : ByteArray) = _
    rw [getElem!_pos s.data m hml]
   rw [e]
   have hlen : (s.data.toList.set m (UInt8.ofNat D.toNat)).length = s.size := by
    rw [List.length_set]
    rfl
   rw [← hlen]
   refine run_convert_bytes_back _ _ _ 5 _ cap _ u114 u5 u9 fun j hj => ?_
   rw [hlen] at hj
   have hj' : j < s.data.size := hj
   have ea : ((⟨w.heap.size, 0, none⟩ : Addr).add j) = ⟨w.heap.size, j, none⟩ := by
    unfold Addr.add
    split <;> simp_all
   rw [ea]
   by_cases q : j = m
   ·subst q
    have h2 : W2.cell? ⟨w.heap.size, j, none⟩ = some (.int .u8 (s.data[j].toNat : Int)) := by rw [show W2 = _ from hW2]; exact c1
    rw [World.cell?_setCell_same _ _ _ h2]
    rw [List.getElem_set_self, hd]
   ·rw [World.cell?_setCell_other _ _ _ _ (by simp only [ne_eq, Addr.mk.injEq, not_and]; omega)]
    have h2 : W2.cell? ⟨w.heap.size, j, none⟩ = some (.int .u8 (s.data[j].toNat : Int)) := by
     rw [show W2 = _ from hW2]
     show (w.alloc (.cells C 5 (C.size, C.size + 1))).cell? _ = _
     rw [World.cell?_alloc_mark, hrow j hj']
    rw [h2, List.getElem_set_ne (by omega)]
    simp
  ·rintro e w' ⟨rfl, W2, hW2, rfl⟩
   refine ⟨rfl, ?_⟩
   rw [show W2 = _ from hW2]
   exact Go.RowKit.Below.setCell (Go.RowKit.Below.drew (Go.RowKit.Below.drew (Go.RowKit.Below.alloc (Go.RowKit.Below.refl _ w) (Nat.le_refl _) _))) (Nat.le_refl _) _
theorem Qqi (s : ByteArray) (at_ bit : Int) : (Qdz s at_ bit).size = s.size := by
 unfold Qdz
 split
 ·rfl
 ·show (s.data.toList.set _ _).length = s.data.size
  rw [List.length_set, Array.length_toList]
theorem QsO (s : ByteArray) (hs0 : s.size ≤ 4611686018427387904) (at_ bit : Int) : PS 17 [.c (.str s), .c (.int .i64 at_), .c (.int .i64 bit)] (.c (.str (Qdz s at_ bit))) := by
 refine PSpec.ofCalls fun F μ w vs hA => ⟨.string (Qdz s at_ bit), ?_, ?_⟩
 ·obtain ⟨v, v1, v2, v3⟩ := hA.2 0 _ rfl
  exact fun _ _ => ⟨rfl, by rw [Qqi]; exact v3⟩
 ·obtain ⟨v, v1, v2, v3⟩ := hA.2 0 _ rfl
  obtain ⟨u, u1, u2⟩ := hA.2 1 _ rfl
  obtain ⟨x, x1, x2⟩ := hA.2 2 _ rfl
  have hvs : vs = #[.string s, .int .i64 at_, .int .i64 bit] := by
   apply Array.ext_getElem?
   intro j
   match j with
   | 0 => rw [v1]; exact congrArg some v2
   | 1 => rw [u1]; exact congrArg some u2
   | 2 => rw [x1]; exact congrArg some x2
   | j + 3 => rw [Array.getElem?_eq_none (by rw [hA.1]; simp), Array.getElem?_eq_none (by simp)]
  subst hvs
  exact QpW s hs0 at_ bit w
theorem Qrn : HB 17 := hB Tryz.func17
def encF (f : Fnd) : List Value := [.int .i64 f.zone, .int .i64 f.offset, .int .i64 f.r.kind, .int .i64 f.r.block, .int .i64 f.r.version, .int .i64 f.r.move, .string f.r.payload]
theorem Qt4 (f : Fnd) : (encF f).length = 7 := rfl
theorem getF (d : Array Fnd) (i : Nat) : d.toList.getD i default = d[i]! := by
 by_cases h : i < d.size
 ·rw [getElem!_pos d i h]; simp [List.getD, h]
 ·rw [getElem!_neg d i h]; simp [List.getD, h]
theorem QuQ {d : Array Fnd} {n : Nat} (hd : d.size = n) : ∀ i, i < n → ∀ j, j < 7 → ∀ F v, RepF F (fndG d.toList i j) v → v = (encF d[i]!)[j]! := by
 intro i hi j hj F v h
 unfold fndG rowG at h
 rw [getF] at h
 match j, hj with
 | 0, _ => exact h
 | 1, _ => exact h
 | 2, _ => exact h
 | 3, _ => exact h
 | 4, _ => exact h
 | 5, _ => exact h
 | 6, _ => exact h.1
def sfG : Nat := 1
theorem sfG_eq : Tryz.prog.globals.size = sfG := by kernel_rfl
def lsC : C := .fn (.func 47) 1 fun _ => .ptr 1 0
def swC (n : Nat) : C := .fn (.func 128) 2 fun | 0 => .sl 0 7 n n false | _ => .raw sfG 71
def arrO (n : Nat) (d : Array Fnd) : O := .arr 71 7 n (fndG d.toList)
def sH (n : Nat) (d : Array Fnd) : List O := [arrO n d, .vr [.sl 0 7 n n false]]
theorem QnX : ∀ args W, (callFunc 128 args).run Tryz.prog W = ((Extern.ReflectliteSwapper.swap false args).run Tryz.prog W).andThen fun v w' => .ok (.value v) w' :=
 fun args W => run_callFunc_extern Tryz.func128 (by kernel_rfl) (by kernel_rfl) (by kernel_rfl) (e := Extern.ReflectliteSwapper.swap false) (by kernel_rfl) args W
noncomputable def sfT : TypeInfo := (Tryz.prog.info? 60).get (by kernel_rfl)
noncomputable def sfE : TypeInfo := (Tryz.prog.info? 71).get (by kernel_rfl)
theorem Qtw (n b cap : Nat) : SwapSwapsK Tryz.prog 128 #[.slice (some ⟨b, 0, none⟩) n cap, .pointer (some ⟨sfG, 71, none⟩)] encF 7 b 0 n := by
 have h := swapSwapsK_of_literal false 128 QnX 71 sfE (by kernel_rfl) encF 7 (fun _ => rfl) (by kernel_rfl) (fun _ => by kernel_rfl) (fun x v hv => by simp [encF] at hv; rcases hv with rfl | rfl | rfl | rfl | rfl | rfl | rfl <;> rfl) b 0 n cap
 have e : sfG = Tryz.prog.globals.size := sfG_eq.symm
 rw [e]
 exact h
theorem Qbp {X : Cx} (hX : X.P = Tryz.prog) {dst : Option Tmp} {ts : Ts} {H H' : List O} {k : Ts → List O → Prop} {n : Nat} {x : Bool} {u v : Int} (i j : Nat) (d : Array Fnd) (hu : u = i) (hv : v = j) (hd : d.size = n) (hi : i < n) (hj : j < n)
  (h0 : getL H 0 = some (arrO n d)) (hset : setL H 0 (arrO n (Go.Sort.swp d i j)) = some H') (h : putK X.nt dst (.t []) ts fun ts' => k ts' H') : CallX X 128 [.c (.int .i64 u), .c (.int .i64 v), .c (.sl 0 7 n n x), .c (.raw sfG 71)] dst ts H k := by
 subst hu hv
 refine CallX.swap (e := 71) (fndG (Go.Sort.swp d i j).toList) d hi hj h0 (by decide) hd (QuQ hd) (fun _ _ _ _ => Qv _ _) (fun q hq => ?_) hset Qt4 (fun b cap => by rw [hX]; exact Qtw n b cap) h
 funext c
 unfold fndG rowG
 rw [getF, getF, QsY (by omega)]
 repeat' split <;> try rfl
end Go.Proofs
end
