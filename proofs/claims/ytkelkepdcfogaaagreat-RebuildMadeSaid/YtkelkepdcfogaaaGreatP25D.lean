/- Contracts, lemmas; no condition. -/
import Derived.Test.YtkelkepdcfogaaaGreatP16D
import Derived.Test.YtkelkepdcfogaaaGreatP11D
import Derived.Test.YtkelkepdcfogaaaGreatP20D
import Derived.Test.YtkelkepdcfogaaaGreatP19D
import Derived.Test.YtkelkepdcfogaaaGreatA27D
import Derived.Laws.IdiomStrings
import Derived.Deep.RegionWith
import Derived.WalkKit
import Derived.StillTailTactics
import Derived.Test.YtkelkepdcfogaaaGreatP22D
import Derived.Test.YtkelkepdcfogaaaGreatP14D
set_option linter.all false
section
namespace Go.Am
structure RightZ (z : Zone) (size : Int) : Prop where
 st : 0 ≤ z.state ∧ z.state ≤ 5
 len : (z.sectors.length : Int) ≤ size
 dur : 0 ≤ z.durable ∧ z.durable ≤ z.sectors.length
 emp : z.state = 0 ∨ z.state = 5 → z.sectors.length = 0
 full : z.state = 4 → z.durable = z.sectors.length
 part : z.state ≠ 0 → z.state ≠ 4 → z.state ≠ 5 → (z.sectors.length : Int) < size
 secs : ∀ s ∈ z.sectors, s.size = 40
theorem right_iff {z : Zone} {size : Int} : right z size = true ↔ RightZ z size := by
 simp only [right, Bool.and_eq_true, decide_eq_true_eq, Qcv, List.all_eq_true]
 constructor
 ·rintro ⟨⟨h1, h2, h3, h4, h5, h6, h7, h8⟩, h9⟩
  exact ⟨⟨h1, h2⟩, h3, ⟨h4, h5⟩, h6, h7, h8, h9⟩
 ·rintro ⟨⟨h1, h2⟩, h3, ⟨h4, h5⟩, h6, h7, h8, h9⟩
  exact ⟨⟨h1, h2, h3, h4, h5, h6, h7, h8⟩, h9⟩
theorem QjQ (p : Zone → Bool) (z : Zone) : ∀ (l : List Zone) (i : Nat), i < l.length → ((l.set i z).filter p).length + (if p (l.getD i default) = true then 1 else 0) = (l.filter p).length + (if p z = true then 1 else 0)
 | [], i, h => by simp at h
 | x :: r, 0, _ => by
  simp only [List.set_cons_zero, List.filter_cons, List.getD_cons_zero]
  by_cases h1 : p x = true <;> by_cases h2 : p z = true <;> simp [h1, h2]
 | x :: r, i + 1, h => by
  have ih := QjQ p z r i (by simpa using h)
  simp only [List.set_cons_succ, List.filter_cons, List.getD_cons_succ]
  by_cases h1 : p x = true
  ·rw [if_pos h1, if_pos h1, List.length_cons, List.length_cons]; omega
  ·rw [if_neg h1, if_neg h1]; exact ih
theorem QcQ {l : List Zone} {i : Nat} (h : i < l.length) (z : Zone) : QL (l.set i z) + (if Qt (l.getD i default).state = true then 1 else 0) = QL l + (if Qt z.state = true then 1 else 0) := QjQ (fun z => Qt z.state) z l i h
theorem Qcb {l : List Zone} {i : Nat} (h : i < l.length) (z : Zone) : Qm (l.set i z) + (if QN (l.getD i default).state = true then 1 else 0) = Qm l + (if QN z.state = true then 1 else 0) := QjQ (fun z => QN z.state) z l i h
def AllR (l : List Zone) (size : Int) : Prop := ∀ z ∈ l, RightZ z size
theorem Dev.ok.all {d : Dev} (h : d.ok) : AllR d.zones d.size := fun z hz => right_iff.1 (h.zones z hz)
theorem AllR.get {l : List Zone} {size : Int} (h : AllR l size) {i : Nat} (hi : i < l.length) : RightZ (l.getD i default) size := by
 rw [QdG _ _ hi]; exact h _ (List.getElem_mem hi)
theorem AllR.set {l : List Zone} {size : Int} (h : AllR l size) {i : Nat} {z : Zone} (hz : RightZ z size) : AllR (l.set i z) size := by
 intro x hx
 rcases List.mem_or_eq_of_mem_set hx with h1 | h1
 ·exact h x h1
 ·rw [h1]; exact hz
structure Dev.conf3 (d : Dev) : Prop where
 n : 1 ≤ d.zones.length ∧ d.zones.length ≤ 32
 size : 3 ≤ d.size ∧ d.size ≤ 64
 op : 1 ≤ d.maxOpen ∧ d.maxOpen ≤ d.maxActive ∧ d.maxActive ≤ d.zones.length
theorem confOk_iff {d : Dev} : Qb1 d = true ↔ d.conf3 := by
 simp only [Qb1, decide_eq_true_eq]
 constructor
 ·rintro ⟨h1, h2, h3, h4, h5, h6, h7⟩
  exact ⟨⟨h1, h2⟩, ⟨h3, h4⟩, h5, h6, h7⟩
 ·rintro ⟨⟨h1, h2⟩, ⟨h3, h4⟩, h5, h6, h7⟩
  exact ⟨h1, h2, h3, h4, h5, h6, h7⟩
theorem Dev.ok.with {d : Dev} (h : d.ok) {l : List Zone} (hn : l.length = d.zones.length) (hr : AllR l d.size) (ho : (QL l : Int) ≤ d.maxOpen) (ha : (Qm l : Int) ≤ d.maxActive) : Dev.ok { d with zones := l } := by
 refine ⟨?_, fun z hz => right_iff.2 (hr z hz), ho, ha⟩
 have := confOk_iff.1 h.conf
 refine confOk_iff.2 ⟨?_, this.size, ?_⟩
 ·dsimp only; rw [hn]; exact this.n
 ·dsimp only; rw [hn]; exact this.op
theorem isOpen_iff {n : Int} : Qt n = true ↔ n = 1 ∨ n = 2 := by simp [Qt]
theorem isActive_iff {n : Int} : QN n = true ↔ n = 1 ∨ n = 2 ∨ n = 3 := by simp [QN]
theorem QhQ {size : Int} (h : 0 ≤ size) : RightZ zone0 size := ⟨by decide, h, by decide, fun _ => rfl, fun h => (by cases h), fun h => absurd rfl h, fun s hs => (by cases hs)⟩
theorem QnY {d : Dev} (h : d.ok) (zone : Int) : (QaL d zone).ok := by
 unfold QaL
 split
 ·rename_i he
  obtain ⟨_, h0, h1⟩ := Qac he
  have hk : zone.toNat < d.zones.length := by omega
  have hc := confOk_iff.1 h.conf
  have e1 := QcQ hk zone0
  have e2 := Qcb hk zone0
  have h1 := h.op
  have h2 := h.act
  rw [if_neg (show ¬ Qt zone0.state = true by decide)] at e1
  rw [if_neg (show ¬ QN zone0.state = true by decide)] at e2
  refine h.with (by simp) (h.all.set (QhQ (by have := hc.size; omega))) ?_ ?_
  ·split at e1 <;> omega
  ·split at e2 <;> omega
 ·exact h
theorem RightZ.fin {z : Zone} {size : Int} (h : RightZ z size) : RightZ (QbI z) size := by
 unfold QbI
 split
 ·exact h
 ·exact ⟨by dsimp only; omega, h.len, ⟨Int.natCast_nonneg _, Int.le_refl _⟩, fun e => by dsimp only at e; omega, fun _ => rfl, fun _ e => absurd rfl e, h.secs⟩
theorem QkX (z : Zone) : (QbI z).state = 4 := by
 unfold QbI
 split
 ·assumption
 ·rfl
theorem Qk4 {d : Dev} (h : d.ok) (zone : Int) : (Qaq d zone).ok := by
 unfold Qaq
 split
 ·rename_i he
  obtain ⟨_, h0, h1⟩ := Qac he
  have hk : zone.toNat < d.zones.length := by omega
  have e1 := QcQ hk (QbI (d.zones.getD zone.toNat default))
  have e2 := Qcb hk (QbI (d.zones.getD zone.toNat default))
  have h1 := h.op
  have h2 := h.act
  rw [QkX] at e1 e2
  rw [if_neg (show ¬ Qt 4 = true by decide)] at e1
  rw [if_neg (show ¬ QN 4 = true by decide)] at e2
  refine h.with (by simp) (h.all.set (h.all.get hk).fin) ?_ ?_
  ·split at e1 <;> omega
  ·split at e2 <;> omega
 ·exact h
theorem RightZ.shut {z : Zone} {size : Int} (h : RightZ z size) (ho : Qt z.state = true) : RightZ (Qbc z) size := by
 have ho' := isOpen_iff.1 ho
 unfold Qbc
 by_cases c : z.sectors.length = 0
 ·rw [if_pos c]
  exact ⟨by dsimp only; omega, h.len, h.dur, fun _ => c, fun e => (by cases e), fun e => absurd rfl e, h.secs⟩
 ·rw [if_neg c]
  exact ⟨by dsimp only; omega, h.len, h.dur, fun e => by dsimp only at e; omega, fun e => (by cases e), fun _ _ _ => h.part (by omega) (by omega) (by omega), h.secs⟩
theorem QiI (z : Zone) : Qt (Qbc z).state = false ∧ ((Qbc z).state = 0 ∨ (Qbc z).state = 3) := by
 unfold Qbc
 split
 ·exact ⟨rfl, .inl rfl⟩
 ·exact ⟨rfl, .inr rfl⟩
theorem Qi3 {l : List Zone} {i : Nat} (hi : i < l.length) (ho : Qt (l.getD i default).state = true) : QL (QY l i) + 1 = QL l ∧ Qm (QY l i) ≤ Qm l := by
 have e1 := QcQ hi (Qbc (l.getD i default))
 have e2 := Qcb hi (Qbc (l.getD i default))
 have hs := (QiI (l.getD i default)).1
 rw [if_pos ho, if_neg (by rw [hs]; decide)] at e1
 have ha : QN (l.getD i default).state = true := by
  have := isOpen_iff.1 ho
  exact isActive_iff.2 (by omega)
 rw [if_pos ha] at e2
 refine ⟨e1, ?_⟩
 have : Qm (QY l i) + 1 = Qm l + (if QN (Qbc (l.getD i default)).state = true then 1 else 0) := e2
 split at this <;> omega
structure RoomOk (d : Dev) (zone : Nat) (l : List Zone) : Prop where
 len : l.length = d.zones.length
 all : AllR l d.size
 op : (QL l : Int) + 1 ≤ d.maxOpen
 act : (l.getD zone default).state = 3 ∧ (Qm l : Int) ≤ d.maxActive ∨ (Qm l : Int) + 1 ≤ d.maxActive
theorem Qu0 {d : Dev} (h : d.ok) {zone : Nat} (hr : (Qj d zone).1 = 0) : RoomOk d zone (Qj d zone).2 := by
 have h1 := h.op
 have h2 := h.act
 by_cases c : d.maxOpen ≤ QL d.zones
 ·by_cases c2 : Q1 d.zones < d.zones.length
  ·have hs := Qe1 _ c2
   have ho : Qt (d.zones.getD (Q1 d.zones) default).state = true := isOpen_iff.2 (.inl hs)
   obtain ⟨e1, e2⟩ := Qi3 c2 ho
   have e : Qj d zone = if ((QY d.zones (Q1 d.zones)).getD zone default).state ≠ 3 ∧ d.maxActive ≤ Qm (QY d.zones (Q1 d.zones)) then (9, QY d.zones (Q1 d.zones)) else (0, QY d.zones (Q1 d.zones)) := by
    simp only [Qj]
    rw [if_pos c, if_pos c2]
   rw [e] at hr ⊢
   split at hr
   ·cases hr
   ·rename_i c3
    rw [if_neg c3]
    refine ⟨Qee _ _, h.all.set ((h.all.get c2).shut ho), by dsimp only; omega, ?_⟩
    dsimp only
    by_cases c4 : ((QY d.zones (Q1 d.zones)).getD zone default).state = 3
    ·exact .inl ⟨c4, by omega⟩
    ·right; omega
  ·have e : Qj d zone = (8, d.zones) := by
    simp only [Qj]
    rw [if_pos c, if_neg c2]
   rw [e] at hr
   cases hr
 ·have e : Qj d zone = if (d.zones.getD zone default).state ≠ 3 ∧ d.maxActive ≤ Qm d.zones then (9, d.zones) else (0, d.zones) := by
   simp only [Qj]
   rw [if_neg c]
  rw [e] at hr ⊢
  split at hr
  ·cases hr
  ·rename_i c3
   rw [if_neg c3]
   refine ⟨rfl, h.all, by dsimp only; omega, ?_⟩
   dsimp only
   by_cases c4 : (d.zones.getD zone default).state = 3
   ·exact .inl ⟨c4, by omega⟩
   ·right; omega
theorem QmA {d : Dev} (h : d.ok) {zone : Nat} (hk : zone < d.zones.length) (hr : Qt (d.zones.getD zone default).state = true ∨ (Qj d zone).1 = 0) :
  (openL d zone).length = d.zones.length ∧ AllR (openL d zone) d.size ∧ (∀ z : Zone, (QL ((openL d zone).set zone z) : Int) ≤ d.maxOpen) ∧ (∀ z : Zone, (Qm ((openL d zone).set zone z) : Int) ≤ d.maxActive) := by
 have h1 := h.op
 have h2 := h.act
 unfold openL
 by_cases c : Qt (d.zones.getD zone default).state = true
 ·rw [if_pos c]
  have ha : QN (d.zones.getD zone default).state = true := by
   have := isOpen_iff.1 c
   exact isActive_iff.2 (by omega)
  refine ⟨rfl, h.all, fun z => ?_, fun z => ?_⟩
  ·have e := QcQ hk z
   rw [if_pos c] at e
   split at e <;> omega
  ·have e := Qcb hk z
   rw [if_pos ha] at e
   split at e <;> omega
 ·rw [if_neg c]
  have hr0 := hr.resolve_left c
  have R := Qu0 h hr0
  have hk' : zone < (Qj d zone).2.length := by rw [R.len]; exact hk
  refine ⟨R.len, R.all, fun z => ?_, fun z => ?_⟩
  ·have e := QcQ hk' z
   have := R.op
   split at e <;> split at e <;> omega
  ·have e := Qcb hk' z
   rcases R.act with ⟨a1, a2⟩ | a1
   ·rw [if_pos (isActive_iff.2 (by omega))] at e
    split at e <;> omega
   ·split at e <;> split at e <;> omega
theorem Qd3 (d : Dev) (zone k : Nat) : ((openL d zone).getD k default).sectors = (d.zones.getD k default).sectors := by
 unfold openL
 split
 ·rfl
 ·exact QgJ d zone k
theorem Qff (d : Dev) (zone : Nat) : (openL d zone).length = d.zones.length := by
 unfold openL
 split
 ·rfl
 ·exact Qlc d zone
theorem Qru {l : List Zone} {i : Nat} (hi : i < l.length) (k : Nat) : ((QY l i).getD k default).durable = (l.getD k default).durable := by
 simp only [QY]
 by_cases c : k = i
 ·subst c
  simp [List.getD, hi, Qbc]
 ·simp only [List.getD]
  rw [List.getElem?_set_ne (Ne.symm c)]
theorem QsX (d : Dev) (zone k : Nat) : ((Qj d zone).2.getD k default).durable = (d.zones.getD k default).durable := by
 simp only [Qj]
 split
 ·rfl
 ·rename_i l h
  have : (l.getD k default).durable = (d.zones.getD k default).durable := by
   split at h
   ·split at h
    ·rename_i h2
     cases h; exact Qru h2 _
    ·cases h
   ·cases h; rfl
  split <;> exact this
theorem Qlf (d : Dev) (zone k : Nat) : ((openL d zone).getD k default).durable = (d.zones.getD k default).durable := by
 unfold openL
 split
 ·rfl
 ·exact QsX d zone k
theorem Qqf {d : Dev} {zone : Int} (he : QqY d zone = 0) : QS d zone = 0 ∧ (d.zones.getD zone.toNat default).state ≠ 4 ∧ (Qt (d.zones.getD zone.toNat default).state = true ∨ (Qj d zone.toNat).1 = 0) := by
 unfold QqY at he
 split at he
 ·rename_i h1
  split at he
  ·cases he
  ·rename_i h2
   split at he
   ·exact ⟨h1, h2, .inl (by assumption)⟩
   ·exact ⟨h1, h2, .inr he⟩
 ·exact absurd he (by assumption)
theorem QmC {d : Dev} {zone : Int} (h : QS d zone = 0) : (d.zones.getD zone.toNat default).state ≠ 5 := by
 intro h5
 obtain ⟨hok, h0, h1⟩ := Qac h
 have : QS d zone = 6 := by
  simp only [QS, check_ok.2 hok, if_pos, decide_eq_true (show 0 ≤ zone ∧ zone < d.zones.length from ⟨h0, h1⟩), if_pos h5]
 omega
theorem QuY {d : Dev} (h : d.ok) (zone : Int) : (Qjj d zone).ok := by
 unfold Qjj
 split
 ·rename_i he
  obtain ⟨hb, h4, hr⟩ := Qqf he
  obtain ⟨_, h0, h1⟩ := Qac hb
  have h5 := QmC hb
  have hk : zone.toNat < d.zones.length := by omega
  obtain ⟨o1, o2, o3, o4⟩ := QmA h hk hr
  refine h.with (by simp [o1]) (o2.set ?_) (o3 _) (o4 _)
  have hz := h.all.get hk
  have hsz := (confOk_iff.1 h.conf).size
  have e := Qd3 d zone.toNat zone.toNat
  have e2 := Qlf d zone.toNat zone.toNat
  refine ⟨by dsimp only; omega, ?_, ?_, fun e => by dsimp only at e; omega, fun e => by dsimp only at e; omega, fun _ _ _ => ?_, ?_⟩
  ·rw [e]; exact hz.len
  ·rw [e, e2]; exact hz.dur
  ·rw [e]
   by_cases c : (d.zones.getD zone.toNat default).state = 0
   ·have := hz.emp (.inl c); omega
   ·exact hz.part c h4 h5
  ·rw [e]; exact hz.secs
 ·exact h
theorem QuA {d : Dev} (h : d.ok) (zone : Int) : (Qhq d zone).ok := by
 unfold Qhq
 split
 ·rename_i he
  split
  ·rename_i ho
   have hb : QS d zone = 0 := by
    unfold Qsx at he
    split at he
    ·assumption
    ·exact absurd he (by assumption)
   obtain ⟨_, h0, h1⟩ := Qac hb
   have hk : zone.toNat < d.zones.length := by omega
   obtain ⟨e1, e2⟩ := Qi3 hk ho
   have h1 := h.op
   have h2 := h.act
   exact h.with (Qee _ _) (h.all.set ((h.all.get hk).shut ho)) (by omega) (by omega)
  ·exact h
 ·exact h
theorem Qex {d : Dev} {zone : Int} {s : ByteArray} (he : QV d zone s = 0) : QS d zone = 0 ∧ s.size = 40 ∧ (d.zones.getD zone.toNat default).state ≠ 4 ∧ (Qt (d.zones.getD zone.toNat default).state = true ∨ (Qj d zone.toNat).1 = 0) := by
 unfold QV at he
 split at he
 ·rename_i hc
  split at he
  ·rename_i hr
   split at he
   ·rename_i hs
    split at he
    ·cases he
    ·rename_i h5
     split at he
     ·cases he
     ·rename_i h4
      have hb : QS d zone = 0 := by simp only [QS, hc, if_pos, hr, if_neg h5]
      split at he
      ·exact ⟨hb, hs, h4, .inl (by assumption)⟩
      ·exact ⟨hb, hs, h4, .inr he⟩
   ·cases he
  ·cases he
 ·exact absurd he (by assumption)
theorem Qde {d : Dev} (h : d.ok) (zone : Int) (s : ByteArray) : (Qy d zone s).ok := by
 unfold Qy
 split
 ·rename_i he
  obtain ⟨hb, hs, h4, hr⟩ := Qex he
  obtain ⟨_, h0, h1⟩ := Qac hb
  have h5 := QmC hb
  have hk : zone.toNat < d.zones.length := by omega
  obtain ⟨o1, o2, o3, o4⟩ := QmA h hk hr
  refine h.with (by simp [o1]) (o2.set ?_) (o3 _) (o4 _)
  have hz := h.all.get hk
  have hsz := (confOk_iff.1 h.conf).size
  have e := Qd3 d zone.toNat zone.toNat
  have e2 := Qlf d zone.toNat zone.toNat
  have hlt : ((d.zones.getD zone.toNat default).sectors.length : Int) < d.size := by
   by_cases c : (d.zones.getD zone.toNat default).state = 0
   ·have := hz.emp (.inl c); omega
   ·exact hz.part c h4 h5
  have hsec : ∀ t ∈ ((openL d zone.toNat).getD zone.toNat default).sectors ++ [s], t.size = 40 := by
   intro t ht
   rcases List.mem_append.1 ht with ht | ht
   ·rw [e] at ht; exact hz.secs t ht
   ·rw [List.mem_singleton.1 ht]; exact hs
  have hd := hz.dur
  unfold grow
  split
  ·rename_i hf
   rw [e] at hf
   refine ⟨by dsimp only; omega, ?_, ?_, fun e => by dsimp only at e; omega, fun _ => ?_, fun _ e => absurd rfl e, hsec⟩ <;> (dsimp only; rw [List.length_append, e]; simp only [List.length_cons, List.length_nil]; omega)
  ·rename_i hf
   rw [e] at hf
   have hst : ∀ n : Int, (if Qt n = true then n else 1) = 1 ∨ (if Qt n = true then n else 1) = 2 := by
    intro n
    split
    ·rename_i ho; exact isOpen_iff.1 ho
    ·exact .inl rfl
   have hst := hst ((openL d zone.toNat).getD zone.toNat default).state
   refine ⟨by dsimp only; omega, ?_, ?_, fun e => by dsimp only at e; omega, fun e => by dsimp only at e; omega, fun _ _ _ => ?_, hsec⟩ <;> (dsimp only; rw [List.length_append, e]; try rw [e2]) <;> (simp only [List.length_cons, List.length_nil]; omega)
 ·exact h
theorem Qrt {z : Zone} {size : Int} (h : RightZ z size) : RightZ (QhJ z) size :=
 ⟨h.st, h.len, ⟨Int.natCast_nonneg _, Int.le_refl _⟩, h.emp, fun _ => rfl, h.part, h.secs⟩
theorem QnK (l : List Zone) : QL (l.map QhJ) = QL l ∧ Qm (l.map QhJ) = Qm l := by
 simp only [QL, Qm, List.filter_map, List.length_map]
 exact ⟨rfl, rfl⟩
theorem Qq9 {d : Dev} (h : d.ok) : Dev.ok { d with zones := d.zones.map QhJ } := by
 refine h.with (by simp) ?_ (by rw [(QnK _).1]; exact h.op) (by rw [(QnK _).2]; exact h.act)
 intro z hz
 obtain ⟨x, hx, rfl⟩ := List.mem_map.1 hz
 exact Qrt (h.all x hx)
theorem Qvi {x : Dev} (h : x.ok) (d : DiceM) (n : Int) : (cmdX d x n).ok := by
 unfold cmdX
 split
 ·exact QnY h _
 split
 ·exact Qk4 h _
 split
 ·exact QuY h _
 split
 ·exact QuA h _
 split
 ·exact Qq9 h
 ·exact Qde h _ _
theorem Qk8 (d : Dev) (z : Int) : (QaL d z).zones.length = d.zones.length := by unfold QaL; split <;> simp
theorem Qjc (d : Dev) (z : Int) : (Qaq d z).zones.length = d.zones.length := by unfold Qaq; split <;> simp
theorem QtY (d : Dev) (z : Int) : (Qjj d z).zones.length = d.zones.length := by unfold Qjj; split <;> simp [Qff]
theorem Qs6 (d : Dev) (z : Int) : (Qhq d z).zones.length = d.zones.length := by
 unfold Qhq
 split
 ·split
  ·exact Qee _ _
  ·rfl
 ·rfl
theorem Qf8 (d : Dev) (z : Int) (s : ByteArray) : (Qy d z s).zones.length = d.zones.length := by unfold Qy; split <;> simp [Qff]
theorem Quj (x : Dev) (d : DiceM) (n : Int) : (cmdX d x n).zones.length = x.zones.length := by
 unfold cmdX
 split
 ·exact Qk8 _ _
 split
 ·exact Qjc _ _
 split
 ·exact QtY _ _
 split
 ·exact Qs6 _ _
 split
 ·simp
 ·exact Qf8 _ _ _
end Go.Am
namespace Go.Am
def DiceM.left (d : DiceM) : Nat := d.l.length - d.at_
theorem Qc7 {d : DiceM} : d.step.left = d.left - 1 ∧ d.step.l = d.l := by
 unfold DiceM.step DiceM.left
 split
 ·exact ⟨by omega, rfl⟩
 ·exact ⟨by dsimp only; omega, rfl⟩
theorem Qtm (d : DiceM) (n : Int) (h : 0 < d.left) : (cmdD d n).left < d.left := by
 have h1 := (Qc7 (d := d)).1
 have h2 := (Qc7 (d := d.step)).1
 have h3 := (Qc7 (d := d.step.step)).1
 have h4 := (Qc7 (d := d.step.step.step)).1
 have h5 := (Qc7 (d := d.step.step.step.step)).1
 have h6 := (Qc7 (d := d.step.step.step.step.step)).1
 unfold cmdD
 split
 ·omega
 ·simp only [recD]; omega
def devF : Nat → DiceM → Dev → Int → Dev
 | 0, _, x, _ => x
 | f + 1, d, x, n => if 0 < d.left then devF f (cmdD d n) (cmdX d x n) n else x
theorem QrN : ∀ (f g : Nat) (d : DiceM) (x : Dev) (n : Int), d.left ≤ f → d.left ≤ g → devF f d x n = devF g d x n
 | 0, 0, _, _, _, _, _ => rfl
 | 0, g + 1, d, x, n, h, _ => by simp only [devF]; rw [if_neg (by omega)]
 | f + 1, 0, d, x, n, _, h => by simp only [devF]; rw [if_neg (by omega)]
 | f + 1, g + 1, d, x, n, h1, h2 => by
  simp only [devF]
  split
  ·rename_i h
   have := Qtm d n h
   exact QrN f g _ _ _ (by omega) (by omega)
  ·rfl
def devN (d : DiceM) : Int := 2 + d.next 4
def Qwg (d : DiceM) : Dev := newX (devN d) (3 + d.step.next 3) (1 + d.step.step.next 2) 2
def deviceD (l : List Int) : Dev := devF l.length (DiceM.step (DiceM.step (DiceM.step ⟨l, 0⟩))) (Qwg ⟨l, 0⟩) (devN ⟨l, 0⟩)
theorem QpV (p : Zone → Bool) (hp : p zone0 = false) (n : Nat) : ((List.replicate n zone0).filter p).length = 0 := by
 rw [List.length_eq_zero_iff, List.filter_eq_nil_iff]
 intro z hz
 rw [List.mem_replicate] at hz
 rw [hz.2, hp]
 decide
theorem Qvv {zones size op act : Int} (h1 : 1 ≤ zones) (h2 : zones ≤ 32) (h3 : 3 ≤ size) (h4 : size ≤ 64) (h5 : 1 ≤ op) (h6 : op ≤ act) (h7 : act ≤ zones) : (newX zones size op act).ok := by
 refine ⟨confOk_iff.2 ⟨?_, ⟨h3, h4⟩, h5, h6, ?_⟩, fun z hz => ?_, ?_, ?_⟩
 ·simp only [newX, List.length_replicate]; omega
 ·simp only [newX, List.length_replicate]; omega
 ·simp only [newX, List.mem_replicate] at hz
  rw [hz.2]
  exact right_iff.2 (QhQ (by simp only [newX]; omega))
 ·have : QL (newX zones size op act).zones = 0 := QpV _ (by decide) _
  rw [this]; simp only [newX]; omega
 ·have : Qm (newX zones size op act).zones = 0 := QpV _ (by decide) _
  rw [this]; simp only [newX]; omega
theorem Qvm : ∀ (f : Nat) (d : DiceM) (x : Dev) (n : Int), x.ok → (devF f d x n).ok ∧ (devF f d x n).zones.length = x.zones.length
 | 0, _, x, _, h => ⟨h, rfl⟩
 | f + 1, d, x, n, h => by
  simp only [devF]
  split
  ·obtain ⟨h1, h2⟩ := Qvm f (cmdD d n) (cmdX d x n) n (Qvi h d n)
   exact ⟨h1, h2.trans (Quj x d n)⟩
  ·exact ⟨h, rfl⟩
def oddD (x : Dev) (what at_ by_ : Int) : Dev :=
 if x.zones.length = 0 then x else
  let k := (modI at_ x.zones.length).toNat
  let z := x.zones.getD k default
  let m := modI what 9
  if m = 0 then { x with zones := x.zones.set k { z with state := IntKind.i64.wrap (modI by_ 8 - 1) } }
  else if m = 1 then { x with zones := x.zones.set k { z with durable := IntKind.i64.wrap (IntKind.i64.wrap (z.durable + modI by_ 5) - 2) } }
  else if m = 2 then { x with zones := x.zones.set k { z with sectors := z.sectors ++ [⟨#[120]⟩] } }
  else if m = 3 then { x with size := IntKind.i64.wrap (IntKind.i64.wrap (x.size + modI by_ 5) - 2) }
  else if m = 4 then { x with maxOpen := modI by_ 5 }
  else if m = 5 then { x with maxActive := modI by_ 6 }
  else if m = 6 then { x with zones := [] }
  else if m = 7 then { x with zones := x.zones.set k ⟨5, 0, []⟩ }
  else x
end Go.Am
namespace Go.Am
structure Zone.fits (z : Zone) : Prop where
 st : -9223372036854775808 ≤ z.state ∧ z.state ≤ 9223372036854775807
 du : -9223372036854775808 ≤ z.durable ∧ z.durable ≤ 9223372036854775807
def Dev.dur (d : Dev) : Prop := ∀ i, (d.zones.getD i default).durable ≤ 9223372036854775807
theorem QoW : (default : Zone).durable ≤ 9223372036854775807 := by decide
theorem Dev.ok.dur {d : Dev} (h : d.ok) : d.dur := by
 intro i
 by_cases hi : i < d.zones.length
 ·have h1 := (h.all.get hi).dur
  have h2 := h.small.s i
  omega
 ·have : d.zones.getD i default = default := by simp [List.getD, Nat.le_of_not_lt hi]
  rw [this]
  exact QoW
end Go.Am
end

section
open Go Go.Am
namespace Go.Proofs
set_option maxRecDepth 20000
theorem Qur (x : Dev) (hx : x.small) (what at_ by_ : Int) : PS 14 [x.s, .c (.int .i64 what), .c (.int .i64 at_), .c (.int .i64 by_)] (oddD x what at_ by_).s := by
 refine PSpec.rm ?_
 refine ov hΓ Tryz.func14 98 0 [.cell 8 29] Tryz.ntmps14 Tryz.results14 ?_
 have hz := hx.z
 refine Go0 ?_
 have z0 : ∀ (i j : Nat), appG (Q4 3 (repL 0 [.int .i64 0, .int .i64 0, .nils])) 0 (Qx x.zones) i j = Qx x.zones i j := fun i j => Qkp (f := Zone.cell) j
 refine Br.of (fun h=>Go0 ?_) (fun h=>Go0 ?_)
 ·rw [show oddD x what at_ by_ = x from if_pos (by omega)]
  refine RM.rg 2 (g' := Qx x.zones) rfl (fun i _ j _ => z0 i j) rfl ?_
  refine RM.fz 2 rfl (Nat.zero_le _) (fun _ _ _ _ => (by first | exact rfl | exact Qb7 _ _ | exact QA _ _ _ | exact Qbv _ _ _)) ?_; refine RM.wkW ?_ ?_ (Nat.zero_le _) <;> (first|exact wb0|refine wb1 ?_|refine wb2 ?_ ?_|refine wb3 ?_ ?_ ?_|refine wb4 ?_ ?_ ?_ ?_)
 ·refine Dr.mvK [4, 8, 1, 2, 3] [] [.vr [.int .i64 x.size, .int .i64 x.maxOpen, .int .i64 x.maxActive, .sl 2 3 x.zones.length x.zones.length false], .vr dev0.cells, .arr 46 3 x.zones.length (Qx x.zones)] ?_ ?_
  ·refine Mv.k1 ?_
   intro i hi j hj
   exact WC.eq (z0 i j) (QA _ _ _)
  have hm := Qdk (x := at_) (n := x.zones.length) (by omega) (by omega)
  have hk : (modI at_ x.zones.length).toNat < x.zones.length := by omega
  have h9 := Qdk (x := what) (n := 9) (by omega) (by omega)
  have hN : ¬ x.zones.length = 0 := by omega
  have e : oddD x what at_ by_ = (if modI what 9 = 0 then _ else _) := if_neg hN
  rw [e]
  refine Dr.mk hΓ hMix (by kernel_rfl) (Go0 ?_)
  refine CallP.auto QaC (QaB at_ x.zones.length ) (Go0 ?_)
  refine CallN.pureA QaC (QaB what 9 ) (Go0 ?_)
  refine Br.of (fun m0=>Go0 ?_) (fun m0=>Go0 ?_)
  ·rw [if_pos m0]
   refine CallN.pureA QaC (QaB by_ 8 ) (Go0 ?_)
   refine RM.rg 2 (g' := Qx _) rfl (fun i _ j hj => Qtg hk _ i j hj) rfl ?_
   refine RM.fz 2 rfl (Nat.zero_le _) (fun _ _ _ _ => (by first | exact rfl | exact Qb7 _ _ | exact QA _ _ _ | exact Qbv _ _ _)) ?_; refine RM.wkW ?_ ?_ (Nat.zero_le _) <;> (first|exact wb0|refine wb1 ?_|refine wb2 ?_ ?_|refine wb3 ?_ ?_ ?_|refine wb4 ?_ ?_ ?_ ?_)
  ·rw [if_neg m0]
   refine Br.of (fun m1=>Go0 ?_) (fun m1=>Go0 ?_)
   ·rw [if_pos m1]
    refine Dr.mk hΓ hMix (by kernel_rfl) (Go0 ?_)
    refine Frc.mk (.c (.int .i64 (x.zones.getD (modI at_ x.zones.length).toNat default).durable)) rfl (Go0 ?_)
    refine CallP.auto QaC (QaB by_ 5 ) (Go0 ?_)
    refine RM.rg 2 (g' := Qx _) rfl (fun i _ j hj => Qrp hk _ i j hj) rfl ?_
    refine RM.fz 2 rfl (Nat.zero_le _) (fun _ _ _ _ => (by first | exact rfl | exact Qb7 _ _ | exact QA _ _ _ | exact Qbv _ _ _)) ?_; refine RM.wkW ?_ ?_ (Nat.zero_le _) <;> (first|exact wb0|refine wb1 ?_|refine wb2 ?_ ?_|refine wb3 ?_ ?_ ?_|refine wb4 ?_ ?_ ?_ ?_)
   ·rw [if_neg m1]
    refine Br.of (fun m2=>Go0 ?_) (fun m2=>Go0 ?_)
    ·rw [if_pos m2]
     refine Frc.mk (.c (Qbq (x.zones.getD (modI at_ x.zones.length).toNat default).sectors)) rfl ?_
     conv=>whnf
     have hs := hx.s (modI at_ x.zones.length).toNat
     refine Go0 ?_
     have hgs : ∀ a, a < 0 + (x.zones.getD (modI at_ x.zones.length).toNat default).sectors.length + 1 → appG (appG (Q4 1 (repL 0 [.str ByteArray.empty])) 0 fun i _ => .str ((x.zones.getD (modI at_ x.zones.length).toNat default).sectors.getD i ByteArray.empty)) (0 + (x.zones.getD (modI at_ x.zones.length).toNat default).sectors.length) (Q4 1 [.str ⟨#[120]⟩]) a 0 = .str (((x.zones.getD (modI at_ x.zones.length).toNat default).sectors ++ ([⟨#[120]⟩] : List ByteArray)).getD a ByteArray.empty) := by
      intro a ha
      rw [Nat.zero_add] at ha ⊢
      exact QcG _ _ _ _ _ ha
     have key := QpG (L := x.zones) (id := 3) (x := false) hk (by simp) hgs
     refine RM.fz 3 rfl (Nat.zero_le _) (fun i hi j hj => ?_) ?_
     ·have : j = 0 := by have hj' : j < 1 := hj; omega
      subst this
      exact (congrArg C.imm (hgs i hi)).trans rfl
     refine RM.fz 2 rfl (Nat.zero_le _) (fun i _ j hj => (key i j hj).2) ?_
     refine RM.w1 ?_
     exact WC.fz rfl (by simp) (fun i _ j hj => (key i j hj).1) (fun e => by cases e)
    ·rw [if_neg m2]
     refine Br.of (fun m3=>Go0 ?_) (fun m3=>Go0 ?_)
     ·rw [if_pos m3]
      refine Dr.mk hΓ hMix (by kernel_rfl) (Go0 ?_)
      refine CallP.auto QaC (QaB by_ 5 ) (Go0 ?_)
      refine RM.fz 2 rfl (Nat.zero_le _) (fun _ _ _ _ => (by first | exact rfl | exact Qb7 _ _ | exact QA _ _ _ | exact Qbv _ _ _)) ?_; refine RM.wkW ?_ ?_ (Nat.zero_le _) <;> (first|exact wb0|refine wb1 ?_|refine wb2 ?_ ?_|refine wb3 ?_ ?_ ?_|refine wb4 ?_ ?_ ?_ ?_)
     ·rw [if_neg m3]
      refine Br.of (fun m4=>Go0 ?_) (fun m4=>Go0 ?_)
      ·rw [if_pos m4]
       refine CallN.pureA QaC (QaB by_ 5 ) (Go0 ?_)
       refine RM.fz 2 rfl (Nat.zero_le _) (fun _ _ _ _ => (by first | exact rfl | exact Qb7 _ _ | exact QA _ _ _ | exact Qbv _ _ _)) ?_; refine RM.wkW ?_ ?_ (Nat.zero_le _) <;> (first|exact wb0|refine wb1 ?_|refine wb2 ?_ ?_|refine wb3 ?_ ?_ ?_|refine wb4 ?_ ?_ ?_ ?_)
      ·rw [if_neg m4]
       refine Br.of (fun m5=>Go0 ?_) (fun m5=>Go0 ?_)
       ·rw [if_pos m5]
        refine CallN.pureA QaC (QaB by_ 6 ) (Go0 ?_)
        refine RM.fz 2 rfl (Nat.zero_le _) (fun _ _ _ _ => (by first | exact rfl | exact Qb7 _ _ | exact QA _ _ _ | exact Qbv _ _ _)) ?_; refine RM.wkW ?_ ?_ (Nat.zero_le _) <;> (first|exact wb0|refine wb1 ?_|refine wb2 ?_ ?_|refine wb3 ?_ ?_ ?_|refine wb4 ?_ ?_ ?_ ?_)
       ·rw [if_neg m5]
        refine Br.of (fun m6=>Go0 ?_) (fun m6=>Go0 ?_)
        ·rw [if_pos m6]
         exact RM.i0
        ·rw [if_neg m6]
         refine Br.of (fun m7=>Go0 ?_) (fun m7=>Go0 ?_)
         ·rw [if_pos m7]
          have key : ∀ i j, j < 3 → leF (updG (updG (updG (Qx x.zones) (modI at_ x.zones.length).toNat 0 [.int .i64 5]) (modI at_ x.zones.length).toNat 2 [.nils]) (modI at_ x.zones.length).toNat 1 [.int .i64 0] i j) (Qx (x.zones.set (modI at_ x.zones.length).toNat ⟨5, 0, []⟩) i j) ∧
            (updG (updG (updG (Qx x.zones) (modI at_ x.zones.length).toNat 0 [.int .i64 5]) (modI at_ x.zones.length).toNat 2 [.nils]) (modI at_ x.zones.length).toNat 1 [.int .i64 0] i j).imm = true := by
           intro i j hj
           rw [Qgr _ _ _ _ _ hk, Qbm, Qbm, Qbm]
           by_cases c : i = (modI at_ x.zones.length).toNat
           ·match j, hj with
            | 0, _ => simp only [c]; exact ⟨leF.refl, rfl⟩
            | 1, _ => simp only [c]; exact ⟨leF.refl, rfl⟩
            | 2, _ => simp only [c]; exact ⟨leF.nil rfl, rfl⟩
           ·simp only [c, false_and, if_false]
            exact ⟨leF.refl, QA _ _ _⟩
          refine RM.fz 2 rfl (Nat.zero_le _) (fun i _ j hj => (key i j hj).2) ?_
          refine RM.w1 ?_
          exact WC.fz rfl (by simp) (fun i _ j hj => (key i j hj).1) (fun e => by cases e)
         ·rw [if_neg m7]
          refine RM.fz 2 rfl (Nat.zero_le _) (fun _ _ _ _ => (by first | exact rfl | exact Qb7 _ _ | exact QA _ _ _ | exact Qbv _ _ _)) ?_; refine RM.wkW ?_ ?_ (Nat.zero_le _) <;> (first|exact wb0|refine wb1 ?_|refine wb2 ?_ ?_|refine wb3 ?_ ?_ ?_|refine wb4 ?_ ?_ ?_ ?_)
theorem Qud : HB 14 := hB Tryz.func14
def Qdp (m : List (List Ent)) (k : Nat) : List Ent := (m.take k).flatten
theorem QhV {m : List (List Ent)} {k : Nat} (hk : k < m.length) : Qdp m (k + 1) = Qdp m k ++ m.getD k default := by
 unfold Qdp
 rw [Q6 m hk, List.flatten_append]
 simp
theorem Qqp (m : List (List Ent)) : Qdp m m.length = m.flatten := by unfold Qdp; rw [List.take_length]
theorem Qjs {m : List (List Ent)} : ∀ {k : Nat}, k ≤ m.length → (∀ i, (m.getD i default).length ≤ 1000000) → (Qdp m k).length ≤ k * 1000000
 | 0, _, _ => by simp [Qdp]
 | k + 1, hk, h => by
  rw [QhV (by omega), List.length_append]
  have := Qjs (k := k) (by omega) h
  have := h k
  omega
def Qaj (m : List (List Ent)) (i k : Nat) : List Ent := (Qdp m i ++ (m.getD i default).take k).foldl insE []
theorem QiT (m : List (List Ent)) (i : Nat) : Qaj m i 0 = (Qdp m i).foldl insE [] := by simp [Qaj]
theorem Qji {m : List (List Ent)} {i k : Nat} (hk : k < (m.getD i default).length) : Qaj m i (k + 1) = insE (Qaj m i k) ((m.getD i default).getD k default) := by
 unfold Qaj
 rw [Q6 _ hk, ← List.append_assoc, List.foldl_append]
 rfl
theorem QqF {m : List (List Ent)} {i : Nat} (hi : i < m.length) : Qaj m i (m.getD i default).length = Qaj m (i + 1) 0 := by
 rw [QiT, QhV hi]
 unfold Qaj
 rw [List.take_length]
theorem QsG (m : List (List Ent)) : Qaj m m.length 0 = allM m := by rw [QiT, Qqp]; rfl
theorem QjO (l : List Ent) : ∀ out : List Ent, (l.foldl insE out).length = out.length + l.length := by
 induction l with
 | nil => intro out; rfl
 | cons x l ih => intro out; simp only [List.foldl_cons, ih, Qio, List.length_cons]; omega
theorem Qsk {m : List (List Ent)} {i k : Nat} (hm : m.length ≤ 8) (hs : ∀ i, (m.getD i default).length ≤ 1000000) (hi : i ≤ m.length) : (Qaj m i k).length ≤ 9000000 := by
 unfold Qaj
 rw [QjO, List.length_append, List.length_take]
 have := Qjs hi hs
 have := hs i
 simp only [List.length_nil]
 omega
theorem Qsi {l : List Ent} {b : Int} {a n : Nat} (hn : n ≤ l.length) (h : Qbt l b n = Qbt l b a) (ha : 0 < a) (h2 : b < (l.getD (a - 1) default).block) : Qbt l b n = Qbt l b (a - 1) := by
 rw [h]
 obtain ⟨a', rfl⟩ : ∃ a', a = a' + 1 := ⟨a - 1, by omega⟩
 simp only [Nat.add_sub_cancel] at h2 ⊢
 exact if_pos h2
theorem QrL {l : List Ent} {b : Int} {a : Nat} (h : ¬ (0 < a ∧ b < (l.getD (a - 1) default).block)) : Qbt l b a = a := by
 cases a with
 | zero => rfl
 | succ a =>
  unfold Qbt
  rw [if_neg]
  intro c
  exact h ⟨by omega, by simpa using c⟩
theorem QrC {a b : List Ent} {i : Nat} (h : i < a.length) : (a ++ b).getD i default = a.getD i default := by
 simp only [List.getD, List.getElem?_append_left h]
theorem QjH {a b : List Ent} {i : Nat} (h : a.length ≤ i) : (a ++ b).getD i default = b.getD (i - a.length) default := by
 simp only [List.getD, List.getElem?_append_right h]
theorem Qvj {l : List Ent} {x : Ent} {at_ n : Nat} {t : List C} {g0 : Nat → Nat → C} (hn : n = l.length) (ha : at_ ≤ n) (hs : Qbt l x.block l.length = at_) {i j : Nat} (hi : i < l.length + 1) (hj : j < 6) :
  cutG (cutG (entG l) at_ 1 (Q4 6 (.int .i64 x.block :: .int .i64 x.kind :: .int .i64 x.version :: .int .i64 x.move :: .int .i64 x.zone :: .int .i64 x.offset :: t))) (at_ + 1) (0 + (n - at_)) (appG g0 0 (fun i j => entG l (at_ + i) j)) i j = entG (insE l x) i j := by
 subst hn
 rw [Nat.zero_add]
 unfold cutG appG insE
 rw [hs]
 have e : entG (l.take at_ ++ x :: l.drop at_) i j = ((l.take at_ ++ x :: l.drop at_).getD i default).cell j := rfl
 rw [e]
 have hlt : (l.take at_).length = at_ := by rw [List.length_take]; omega
 by_cases c1 : i < at_
 ·rw [if_pos (by omega), if_pos c1]
  rw [QrC (by rw [hlt]; exact c1)]
  show (l.getD i default).cell j = _
  congr 1
  simp [List.getD, c1]
 ·by_cases c2 : i = at_
  ·subst c2
   rw [if_pos (by omega), if_neg (by omega), if_pos (by omega)]
   rw [QjH (by rw [hlt]; exact Nat.le_refl _), hlt, Nat.sub_self]
   match j, hj with
   | 0, _ => rfl
   | 1, _ => rfl
   | 2, _ => rfl
   | 3, _ => rfl
   | 4, _ => rfl
   | 5, _ => rfl
  ·rw [if_neg (by omega), if_pos (by omega), if_neg (by omega)]
   rw [QjH (by rw [hlt]; omega), hlt]
   show (l.getD (at_ + (i - (at_ + 1) - 0)) default).cell j = _
   congr 1
   obtain ⟨q, hq⟩ : ∃ q, i = at_ + 1 + q := ⟨i - at_ - 1, by omega⟩
   subst hq
   rw [show at_ + 1 + q - at_ = q + 1 by omega, show at_ + (at_ + 1 + q - (at_ + 1) - 0) = at_ + q by omega]
   simp [List.getD]
set_option maxHeartbeats 4000000 in
theorem QkL (m : List (List Ent)) (hs : ∀ i, (m.getD i default).length ≤ 1000000) (hml : m.length ≤ 1000000) : PS 19 [.a [Qh m]] (.c (QQ (allS m))) := by
 refine PSpec.rm ?_
 refine ov0 hΓ Tryz.func19 73 0 [.tmp 2] Tryz.ntmps19 Tryz.results19 ?_
 refine CallN.pureA QdL (QdS m hml hs ) (Go0 ?_)
 by_cases h : Q7 m = true
 ·refine Br.no (by rw [h]; rfl) (Go0 ?_)
  have hm := Qe8 h
  rw [show allS m = allM m from if_pos h]
  refine Lp.reserve 67 6 (entG []) 3 rfl ?_
  refine Lp.mkK hΓ (ι := Nat) [1, 2] (fun i => [(4, .c (.int .i64 i)), (3, .c (.sl 1 6 (Qaj m i 0).length (Qaj m i 0).length false))]) (fun i => [.vr [Qh m], .arr 67 6 (Qaj m i 0).length (entG (Qaj m i 0))]) (fun k => k ≤ m.length) (fun i => m.length - i) 0 (Nat.zero_le _) ?_ ?_
  ·exact Mv.k0
  ·intro k hk
   have hsk := hs k
   refine Go1 fun _h=>?_
   refine Br.of (fun h1=>?_) (fun h1=>?_)<;>(try simp only [Int.toNat_natCast] at h1)<;>refine Go0 ?_
   ·refine Lp.mkK hΓ (ι := Nat) [1, 2, 4] (fun q => [(5, .c (.int .i64 q)), (3, .c (.sl 1 6 (Qaj m k q).length (Qaj m k q).length false))]) (fun q => [.vr [Qh m], .arr 67 6 (Qaj m k q).length (entG (Qaj m k q))]) (fun q => q ≤ (m.getD k default).length) (fun q => (m.getD k default).length - q) 0 (Nat.zero_le _) ?_ ?_
    ·exact Mv.k0
    ·intro q hq
     have hlq := Qsk (k := q) hm.2 hs hk
     refine Go1 fun _h=>?_
     have e0 : (k : Int).toNat = k := rfl
     refine Br.of (fun h2=>?_) (fun h2=>?_)<;>(try simp only [Int.toNat_natCast] at h2)<;>refine Go0 ?_
     ·refine Lp.mkK hΓ (ι := Nat) [1, 2, 3, 4, 5] (fun a => [(6, .c (.int .i64 a))]) (fun _ => [.vr [Qh m], .arr 67 6 (Qaj m k q).length (entG (Qaj m k q))]) (fun a => a ≤ (Qaj m k q).length ∧ Qbt (Qaj m k q) ((m.getD k default).getD q default).block (Qaj m k q).length = Qbt (Qaj m k q) ((m.getD k default).getD q default).block a) (fun a => a) (Qaj m k q).length ⟨Nat.le_refl _, rfl⟩ ?_ ?_
      ·exact Mv.k0
      ·rintro a ⟨ha, ha2⟩
       refine Go0 ?_
       refine Dr.mk hΓ hMix (by kernel_rfl) ?_; conv=>whnf
       have hw : IntKind.i64.wrap (↑a - 1) = ↑a - 1 := Qa _ (by omega) (by omega)
       refine Go0 ?_
       refine Frc.mk (.c (.int .i64 ((Qaj m k q).getD (IntKind.i64.wrap (↑a - 1)).toNat default).block)) rfl (Go0 ?_)
       have hp : 0 < a → (IntKind.i64.wrap (↑a - 1)).toNat = a - 1 := fun h0 => by rw [hw]; omega
       by_cases c : 0 < a ∧ ((m.getD k default).getD q default).block < ((Qaj m k q).getD (a - 1) default).block
       ·refine Br.yes (by rw [hp c.1]; simp [-List.getD_eq_getElem?_getD, c.1, c.2]) ?_
        refine Go0 ?_
        refine ⟨a - 1, ⟨by omega, Qsi (Nat.le_refl _) ha2 c.1 c.2⟩, by omega, ?_⟩
        exact Mv.k0
       ·refine Br.no (Bool.eq_false_iff.2 fun e => c (by
         by_cases c0 : 0 < a
         ·rw [hp c0] at e
          simp [-List.getD_eq_getElem?_getD] at e
          exact e
         ·have : a = 0 := by omega
          subst this
          simp at e)) ?_
        refine Go0 ?_
        have hst := QrL c
        have hle : a ≤ (Qaj m k q).length := ha
        have hqb : q < (m.getD k default).length := by omega
        refine Dr.mkE hΓ hMix [4294967297] [(13, 12)] (by kernel_rfl) (Go0 ?_)
        have w0 := Qa (↑q + 1) (by omega) (by omega)
        refine ⟨q + 1, by omega, by omega, ?_⟩
        have hln : (Qaj m k (q + 1)).length = (Qaj m k q).length + 1 := by rw [Qji hqb, Qio]
        refine Mv.k1 ?_
        intro i hi j hj
        exact WC.eq ((Qvj (x := (m.getD k default).getD q default) rfl hle (ha2.trans hst) (by omega) hj).trans (by rw [Qji hqb])) (QK _ _)
     ·have w0 := Qa (↑k + 1) (by omega) (by omega)
      have : q = (m.getD k default).length := by omega
      subst this
      refine ⟨k + 1, by omega, by omega, ?_⟩
      rw [QqF (by omega)]
      exact Mv.k0
   ·have : k = m.length := by omega
    subst this
    rw [QsG]
    exact RM.allC (Fw.slP rfl rfl rfl (fun _ _ _ _ => rfl) (fun _ _ => QK _ _))
 ·refine Br.yes (by rw [Qa3 h]; rfl) (Go0 ?_)
  rw [show allS m = [] from if_neg h]
  exact RM.i0
theorem Qkj : HB 19 := hB Tryz.func19
def Drn (w w2 : World) : Prop := w2 = { w with drawn := w.drawn + 1 }
def xorB (c k : Int) : Int := bits .xor .u8 c (2 ^ min (IntKind.u64.wrap k).toNat 8 % 256)
def flipS (s : ByteArray) (at_ bit : Int) : ByteArray :=
 if s.toList.isEmpty then s else ⟨(s.data.toList.set (modI at_ s.size).toNat (UInt8.ofNat (bits .xor .u8 (s.data[(modI at_ s.size).toNat]!).toNat (2 ^ min (IntKind.u64.wrap ((modI bit 8).toNat : Int)).toNat 8 % 256)).toNat)).toArray⟩
def encF (f : Fnd) : List Value := [.int .i64 f.zone, .int .i64 f.offset, .int .i64 f.r.kind, .int .i64 f.r.block, .int .i64 f.r.version, .int .i64 f.r.move, .string f.r.payload]
theorem Qut (f : Fnd) : (encF f).length = 7 := rfl
theorem getF (d : Array Fnd) (i : Nat) : d.toList.getD i default = d[i]! := by
 by_cases h : i < d.size
 ·rw [getElem!_pos d i h]; simp [List.getD, h]
 ·rw [getElem!_neg d i h]; simp [List.getD, h]
theorem Qva {d : Array Fnd} {n : Nat} (hd : d.size = n) : ∀ i, i < n → ∀ j, j < 7 → ∀ F v, RepF F (fndG d.toList i j) v → v = (encF d[i]!)[j]! := by
 intro i hi j hj F v h
 unfold fndG rowG at h
 rw [getF] at h
 match j, hj with
 | 0, _ => exact h
 | 1, _ => exact h
 | 2, _ => exact h
 | 3, _ => exact h
 | 4, _ => exact h
 | 5, _ => exact h
 | 6, _ => exact h.1
def sfG : Nat := 1
theorem sfG_eq : Tryz.prog.globals.size = sfG := by kernel_rfl
def lsC : C := .fn (.func 47) 1 fun _ => .ptr 1 0
def swC (n : Nat) : C := .fn (.func 128) 2 fun | 0 => .sl 0 7 n n false | _ => .raw sfG 71
def arrO (n : Nat) (d : Array Fnd) : O := .arr 71 7 n (fndG d.toList)
def sH (n : Nat) (d : Array Fnd) : List O := [arrO n d, .vr [.sl 0 7 n n false]]
theorem QoP : ∀ args W, (callFunc 128 args).run Tryz.prog W = ((Extern.ReflectliteSwapper.swap false args).run Tryz.prog W).andThen fun v w' => .ok (.value v) w' :=
 fun args W => run_callFunc_extern Tryz.func128 (by kernel_rfl) (by kernel_rfl) (by kernel_rfl) (e := Extern.ReflectliteSwapper.swap false) (by kernel_rfl) args W
noncomputable def sfT : TypeInfo := (Tryz.prog.info? 60).get (by kernel_rfl)
noncomputable def sfE : TypeInfo := (Tryz.prog.info? 71).get (by kernel_rfl)
theorem QtA (n b cap : Nat) : SwapSwapsK Tryz.prog 128 #[.slice (some ⟨b, 0, none⟩) n cap, .pointer (some ⟨sfG, 71, none⟩)] encF 7 b 0 n := by
 have h := swapSwapsK_of_literal false 128 QoP 71 sfE (by kernel_rfl) encF 7 (fun _ => rfl) (by kernel_rfl) (fun _ => by kernel_rfl) (fun x v hv => by simp [encF] at hv; rcases hv with rfl | rfl | rfl | rfl | rfl | rfl | rfl <;> rfl) b 0 n cap
 have e : sfG = Tryz.prog.globals.size := sfG_eq.symm
 rw [e]
 exact h
theorem Qbs {X : Cx} (hX : X.P = Tryz.prog) {dst : Option Tmp} {ts : Ts} {H H' : List O} {k : Ts → List O → Prop} {n : Nat} {x : Bool} {u v : Int} (i j : Nat) (d : Array Fnd) (hu : u = i) (hv : v = j) (hd : d.size = n) (hi : i < n) (hj : j < n)
  (h0 : getL H 0 = some (arrO n d)) (hset : setL H 0 (arrO n (Go.Sort.swp d i j)) = some H') (h : putK X.nt dst (.t []) ts fun ts' => k ts' H') : CallX X 128 [.c (.int .i64 u), .c (.int .i64 v), .c (.sl 0 7 n n x), .c (.raw sfG 71)] dst ts H k := by
 subst hu hv
 refine CallX.swap (e := 71) (fndG (Go.Sort.swp d i j).toList) d hi hj h0 (by decide) hd (Qva hd) (fun _ _ _ _ => Qv _ _) (fun q hq => ?_) hset Qut (fun b cap => by rw [hX]; exact QtA n b cap) h
 funext c
 unfold fndG rowG
 rw [getF, getF, Qsd (by omega)]
 repeat' split <;> try rfl
end Go.Proofs
end
