/- Contracts, lemmas; no condition. -/
import Derived.Test.YtkelkepdcfogaaaGreatP15B
import Derived.Test.YtkelkepdcfogaaaGreatP11B
import Derived.Test.YtkelkepdcfogaaaGreatP20B
import Derived.Test.YtkelkepdcfogaaaGreatP18B
import Derived.Test.YtkelkepdcfogaaaGreatP22B
import Derived.Test.YtkelkepdcfogaaaGreatP14B
set_option linter.all false
section
namespace Go.Am
structure RightZ (z : Zone) (size : Int) : Prop where
 st : 0 ≤ z.state ∧ z.state ≤ 5
 len : (z.sectors.length : Int) ≤ size
 dur : 0 ≤ z.durable ∧ z.durable ≤ z.sectors.length
 emp : z.state = 0 ∨ z.state = 5 → z.sectors.length = 0
 full : z.state = 4 → z.durable = z.sectors.length
 part : z.state ≠ 0 → z.state ≠ 4 → z.state ≠ 5 → (z.sectors.length : Int) < size
 secs : ∀ s ∈ z.sectors, s.size = 40
theorem right_iff {z : Zone} {size : Int} : right z size = true ↔ RightZ z size := by
 simp only [right, Bool.and_eq_true, decide_eq_true_eq, Qcn, List.all_eq_true]
 constructor
 ·rintro ⟨⟨h1, h2, h3, h4, h5, h6, h7, h8⟩, h9⟩
  exact ⟨⟨h1, h2⟩, h3, ⟨h4, h5⟩, h6, h7, h8, h9⟩
 ·rintro ⟨⟨h1, h2⟩, h3, ⟨h4, h5⟩, h6, h7, h8, h9⟩
  exact ⟨⟨h1, h2, h3, h4, h5, h6, h7, h8⟩, h9⟩
theorem Qjg (p : Zone → Bool) (z : Zone) : ∀ (l : List Zone) (i : Nat), i < l.length → ((l.set i z).filter p).length + (if p (l.getD i default) = true then 1 else 0) = (l.filter p).length + (if p z = true then 1 else 0)
 | [], i, h => by simp at h
 | x :: r, 0, _ => by
  simp only [List.set_cons_zero, List.filter_cons, List.getD_cons_zero]
  by_cases h1 : p x = true <;> by_cases h2 : p z = true <;> simp [h1, h2]
 | x :: r, i + 1, h => by
  have ih := Qjg p z r i (by simpa using h)
  simp only [List.set_cons_succ, List.filter_cons, List.getD_cons_succ]
  by_cases h1 : p x = true
  ·rw [if_pos h1, if_pos h1, List.length_cons, List.length_cons]; omega
  ·rw [if_neg h1, if_neg h1]; exact ih
theorem Qcv {l : List Zone} {i : Nat} (h : i < l.length) (z : Zone) : QG (l.set i z) + (if Qw (l.getD i default).state = true then 1 else 0) = QG l + (if Qw z.state = true then 1 else 0) := Qjg (fun z => Qw z.state) z l i h
theorem QbX {l : List Zone} {i : Nat} (h : i < l.length) (z : Zone) : Qk (l.set i z) + (if QI (l.getD i default).state = true then 1 else 0) = Qk l + (if QI z.state = true then 1 else 0) := Qjg (fun z => QI z.state) z l i h
def AllR (l : List Zone) (size : Int) : Prop := ∀ z ∈ l, RightZ z size
theorem Dev.ok.all {d : Dev} (h : d.ok) : AllR d.zones d.size := fun z hz => right_iff.1 (h.zones z hz)
theorem AllR.get {l : List Zone} {size : Int} (h : AllR l size) {i : Nat} (hi : i < l.length) : RightZ (l.getD i default) size := by
 rw [Qdf _ _ hi]; exact h _ (List.getElem_mem hi)
theorem AllR.set {l : List Zone} {size : Int} (h : AllR l size) {i : Nat} {z : Zone} (hz : RightZ z size) : AllR (l.set i z) size := by
 intro x hx
 rcases List.mem_or_eq_of_mem_set hx with h1 | h1
 ·exact h x h1
 ·rw [h1]; exact hz
structure Dev.conf3 (d : Dev) : Prop where
 n : 1 ≤ d.zones.length ∧ d.zones.length ≤ 32
 size : 3 ≤ d.size ∧ d.size ≤ 64
 op : 1 ≤ d.maxOpen ∧ d.maxOpen ≤ d.maxActive ∧ d.maxActive ≤ d.zones.length
theorem confOk_iff {d : Dev} : QbJ d = true ↔ d.conf3 := by
 simp only [QbJ, decide_eq_true_eq]
 constructor
 ·rintro ⟨h1, h2, h3, h4, h5, h6, h7⟩
  exact ⟨⟨h1, h2⟩, ⟨h3, h4⟩, h5, h6, h7⟩
 ·rintro ⟨⟨h1, h2⟩, ⟨h3, h4⟩, h5, h6, h7⟩
  exact ⟨h1, h2, h3, h4, h5, h6, h7⟩
theorem Dev.ok.with {d : Dev} (h : d.ok) {l : List Zone} (hn : l.length = d.zones.length) (hr : AllR l d.size) (ho : (QG l : Int) ≤ d.maxOpen) (ha : (Qk l : Int) ≤ d.maxActive) : Dev.ok { d with zones := l } := by
 refine ⟨?_, fun z hz => right_iff.2 (hr z hz), ho, ha⟩
 have := confOk_iff.1 h.conf
 refine confOk_iff.2 ⟨?_, this.size, ?_⟩
 ·dsimp only; rw [hn]; exact this.n
 ·dsimp only; rw [hn]; exact this.op
theorem isOpen_iff {n : Int} : Qw n = true ↔ n = 1 ∨ n = 2 := by simp [Qw]
theorem isActive_iff {n : Int} : QI n = true ↔ n = 1 ∨ n = 2 ∨ n = 3 := by simp [QI]
theorem Qhy {size : Int} (h : 0 ≤ size) : RightZ zone0 size := ⟨by decide, h, by decide, fun _ => rfl, fun h => (by cases h), fun h => absurd rfl h, fun s hs => (by cases hs)⟩
theorem QlZ {d : Dev} (h : d.ok) (zone : Int) : (Qa9 d zone).ok := by
 unfold Qa9
 split
 ·rename_i he
  obtain ⟨_, h0, h1⟩ := Qan he
  have hk : zone.toNat < d.zones.length := by omega
  have hc := confOk_iff.1 h.conf
  have e1 := Qcv hk zone0
  have e2 := QbX hk zone0
  have h1 := h.op
  have h2 := h.act
  rw [if_neg (show ¬ Qw zone0.state = true by decide)] at e1
  rw [if_neg (show ¬ QI zone0.state = true by decide)] at e2
  refine h.with (by simp) (h.all.set (Qhy (by have := hc.size; omega))) ?_ ?_
  ·split at e1 <;> omega
  ·split at e2 <;> omega
 ·exact h
theorem RightZ.fin {z : Zone} {size : Int} (h : RightZ z size) : RightZ (Qbi z) size := by
 unfold Qbi
 split
 ·exact h
 ·exact ⟨by dsimp only; omega, h.len, ⟨Int.natCast_nonneg _, Int.le_refl _⟩, fun e => by dsimp only at e; omega, fun _ => rfl, fun _ e => absurd rfl e, h.secs⟩
theorem Qsw (z : Zone) : (Qbi z).state = 4 := by
 unfold Qbi
 split
 ·assumption
 ·rfl
theorem Qjt {d : Dev} (h : d.ok) (zone : Int) : (QaN d zone).ok := by
 unfold QaN
 split
 ·rename_i he
  obtain ⟨_, h0, h1⟩ := Qan he
  have hk : zone.toNat < d.zones.length := by omega
  have e1 := Qcv hk (Qbi (d.zones.getD zone.toNat default))
  have e2 := QbX hk (Qbi (d.zones.getD zone.toNat default))
  have h1 := h.op
  have h2 := h.act
  rw [Qsw] at e1 e2
  rw [if_neg (show ¬ Qw 4 = true by decide)] at e1
  rw [if_neg (show ¬ QI 4 = true by decide)] at e2
  refine h.with (by simp) (h.all.set (h.all.get hk).fin) ?_ ?_
  ·split at e1 <;> omega
  ·split at e2 <;> omega
 ·exact h
theorem RightZ.shut {z : Zone} {size : Int} (h : RightZ z size) (ho : Qw z.state = true) : RightZ (QaW z) size := by
 have ho' := isOpen_iff.1 ho
 unfold QaW
 by_cases c : z.sectors.length = 0
 ·rw [if_pos c]
  exact ⟨by dsimp only; omega, h.len, h.dur, fun _ => c, fun e => (by cases e), fun e => absurd rfl e, h.secs⟩
 ·rw [if_neg c]
  exact ⟨by dsimp only; omega, h.len, h.dur, fun e => by dsimp only at e; omega, fun e => (by cases e), fun _ _ _ => h.part (by omega) (by omega) (by omega), h.secs⟩
theorem QoZ (z : Zone) : Qw (QaW z).state = false ∧ ((QaW z).state = 0 ∨ (QaW z).state = 3) := by
 unfold QaW
 split
 ·exact ⟨rfl, .inl rfl⟩
 ·exact ⟨rfl, .inr rfl⟩
theorem QiE {l : List Zone} {i : Nat} (hi : i < l.length) (ho : Qw (l.getD i default).state = true) : QG (QX l i) + 1 = QG l ∧ Qk (QX l i) ≤ Qk l := by
 have e1 := Qcv hi (QaW (l.getD i default))
 have e2 := QbX hi (QaW (l.getD i default))
 have hs := (QoZ (l.getD i default)).1
 rw [if_pos ho, if_neg (by rw [hs]; decide)] at e1
 have ha : QI (l.getD i default).state = true := by
  have := isOpen_iff.1 ho
  exact isActive_iff.2 (by omega)
 rw [if_pos ha] at e2
 refine ⟨e1, ?_⟩
 have : Qk (QX l i) + 1 = Qk l + (if QI (QaW (l.getD i default)).state = true then 1 else 0) := e2
 split at this <;> omega
structure RoomOk (d : Dev) (zone : Nat) (l : List Zone) : Prop where
 len : l.length = d.zones.length
 all : AllR l d.size
 op : (QG l : Int) + 1 ≤ d.maxOpen
 act : (l.getD zone default).state = 3 ∧ (Qk l : Int) ≤ d.maxActive ∨ (Qk l : Int) + 1 ≤ d.maxActive
theorem Qt6 {d : Dev} (h : d.ok) {zone : Nat} (hr : (Qh d zone).1 = 0) : RoomOk d zone (Qh d zone).2 := by
 have h1 := h.op
 have h2 := h.act
 by_cases c : d.maxOpen ≤ QG d.zones
 ·by_cases c2 : QV d.zones < d.zones.length
  ·have hs := QeX _ c2
   have ho : Qw (d.zones.getD (QV d.zones) default).state = true := isOpen_iff.2 (.inl hs)
   obtain ⟨e1, e2⟩ := QiE c2 ho
   have e : Qh d zone = if ((QX d.zones (QV d.zones)).getD zone default).state ≠ 3 ∧ d.maxActive ≤ Qk (QX d.zones (QV d.zones)) then (9, QX d.zones (QV d.zones)) else (0, QX d.zones (QV d.zones)) := by
    simp only [Qh]
    rw [if_pos c, if_pos c2]
   rw [e] at hr ⊢
   split at hr
   ·cases hr
   ·rename_i c3
    rw [if_neg c3]
    refine ⟨QdV _ _, h.all.set ((h.all.get c2).shut ho), by dsimp only; omega, ?_⟩
    dsimp only
    by_cases c4 : ((QX d.zones (QV d.zones)).getD zone default).state = 3
    ·exact .inl ⟨c4, by omega⟩
    ·right; omega
  ·have e : Qh d zone = (8, d.zones) := by
    simp only [Qh]
    rw [if_pos c, if_neg c2]
   rw [e] at hr
   cases hr
 ·have e : Qh d zone = if (d.zones.getD zone default).state ≠ 3 ∧ d.maxActive ≤ Qk d.zones then (9, d.zones) else (0, d.zones) := by
   simp only [Qh]
   rw [if_neg c]
  rw [e] at hr ⊢
  split at hr
  ·cases hr
  ·rename_i c3
   rw [if_neg c3]
   refine ⟨rfl, h.all, by dsimp only; omega, ?_⟩
   dsimp only
   by_cases c4 : (d.zones.getD zone default).state = 3
   ·exact .inl ⟨c4, by omega⟩
   ·right; omega
theorem Qmx {d : Dev} (h : d.ok) {zone : Nat} (hk : zone < d.zones.length) (hr : Qw (d.zones.getD zone default).state = true ∨ (Qh d zone).1 = 0) :
  (Qax d zone).length = d.zones.length ∧ AllR (Qax d zone) d.size ∧ (∀ z : Zone, (QG ((Qax d zone).set zone z) : Int) ≤ d.maxOpen) ∧ (∀ z : Zone, (Qk ((Qax d zone).set zone z) : Int) ≤ d.maxActive) := by
 have h1 := h.op
 have h2 := h.act
 unfold Qax
 by_cases c : Qw (d.zones.getD zone default).state = true
 ·rw [if_pos c]
  have ha : QI (d.zones.getD zone default).state = true := by
   have := isOpen_iff.1 c
   exact isActive_iff.2 (by omega)
  refine ⟨rfl, h.all, fun z => ?_, fun z => ?_⟩
  ·have e := Qcv hk z
   rw [if_pos c] at e
   split at e <;> omega
  ·have e := QbX hk z
   rw [if_pos ha] at e
   split at e <;> omega
 ·rw [if_neg c]
  have hr0 := hr.resolve_left c
  have R := Qt6 h hr0
  have hk' : zone < (Qh d zone).2.length := by rw [R.len]; exact hk
  refine ⟨R.len, R.all, fun z => ?_, fun z => ?_⟩
  ·have e := Qcv hk' z
   have := R.op
   split at e <;> split at e <;> omega
  ·have e := QbX hk' z
   rcases R.act with ⟨a1, a2⟩ | a1
   ·rw [if_pos (isActive_iff.2 (by omega))] at e
    split at e <;> omega
   ·split at e <;> split at e <;> omega
theorem QgR (d : Dev) (zone k : Nat) : ((Qax d zone).getD k default).sectors = (d.zones.getD k default).sectors := by
 unfold Qax
 split
 ·rfl
 ·exact Qgc d zone k
theorem Qgk (d : Dev) (zone : Nat) : (Qax d zone).length = d.zones.length := by
 unfold Qax
 split
 ·rfl
 ·exact Qki d zone
theorem Qpf {l : List Zone} {i : Nat} (hi : i < l.length) (k : Nat) : ((QX l i).getD k default).durable = (l.getD k default).durable := by
 simp only [QX]
 by_cases c : k = i
 ·subst c
  simp [List.getD, hi, QaW]
 ·simp only [List.getD]
  rw [List.getElem?_set_ne (Ne.symm c)]
theorem Qsm (d : Dev) (zone k : Nat) : ((Qh d zone).2.getD k default).durable = (d.zones.getD k default).durable := by
 simp only [Qh]
 split
 ·rfl
 ·rename_i l h
  have : (l.getD k default).durable = (d.zones.getD k default).durable := by
   split at h
   ·split at h
    ·rename_i h2
     cases h; exact Qpf h2 _
    ·cases h
   ·cases h; rfl
  split <;> exact this
theorem Qkb (d : Dev) (zone k : Nat) : ((Qax d zone).getD k default).durable = (d.zones.getD k default).durable := by
 unfold Qax
 split
 ·rfl
 ·exact Qsm d zone k
theorem QpD {d : Dev} {zone : Int} (he : Qqh d zone = 0) : Q0 d zone = 0 ∧ (d.zones.getD zone.toNat default).state ≠ 4 ∧ (Qw (d.zones.getD zone.toNat default).state = true ∨ (Qh d zone.toNat).1 = 0) := by
 unfold Qqh at he
 split at he
 ·rename_i h1
  split at he
  ·cases he
  ·rename_i h2
   split at he
   ·exact ⟨h1, h2, .inl (by assumption)⟩
   ·exact ⟨h1, h2, .inr he⟩
 ·exact absurd he (by assumption)
theorem Qri {d : Dev} {zone : Int} (h : Q0 d zone = 0) : (d.zones.getD zone.toNat default).state ≠ 5 := by
 intro h5
 obtain ⟨hok, h0, h1⟩ := Qan h
 have : Q0 d zone = 6 := by
  simp only [Q0, check_ok.2 hok, if_pos, decide_eq_true (show 0 ≤ zone ∧ zone < d.zones.length from ⟨h0, h1⟩), if_pos h5]
 omega
theorem Quk {d : Dev} (h : d.ok) (zone : Int) : (Qi0 d zone).ok := by
 unfold Qi0
 split
 ·rename_i he
  obtain ⟨hb, h4, hr⟩ := QpD he
  obtain ⟨_, h0, h1⟩ := Qan hb
  have h5 := Qri hb
  have hk : zone.toNat < d.zones.length := by omega
  obtain ⟨o1, o2, o3, o4⟩ := Qmx h hk hr
  refine h.with (by simp [o1]) (o2.set ?_) (o3 _) (o4 _)
  have hz := h.all.get hk
  have hsz := (confOk_iff.1 h.conf).size
  have e := QgR d zone.toNat zone.toNat
  have e2 := Qkb d zone.toNat zone.toNat
  refine ⟨by dsimp only; omega, ?_, ?_, fun e => by dsimp only at e; omega, fun e => by dsimp only at e; omega, fun _ _ _ => ?_, ?_⟩
  ·rw [e]; exact hz.len
  ·rw [e, e2]; exact hz.dur
  ·rw [e]
   by_cases c : (d.zones.getD zone.toNat default).state = 0
   ·have := hz.emp (.inl c); omega
   ·exact hz.part c h4 h5
  ·rw [e]; exact hz.secs
 ·exact h
theorem QtE {d : Dev} (h : d.ok) (zone : Int) : (Qgv d zone).ok := by
 unfold Qgv
 split
 ·rename_i he
  split
  ·rename_i ho
   have hb : Q0 d zone = 0 := by
    unfold Qsx at he
    split at he
    ·assumption
    ·exact absurd he (by assumption)
   obtain ⟨_, h0, h1⟩ := Qan hb
   have hk : zone.toNat < d.zones.length := by omega
   obtain ⟨e1, e2⟩ := QiE hk ho
   have h1 := h.op
   have h2 := h.act
   exact h.with (QdV _ _) (h.all.set ((h.all.get hk).shut ho)) (by omega) (by omega)
  ·exact h
 ·exact h
theorem QgH {d : Dev} {zone : Int} {s : ByteArray} (he : QT d zone s = 0) : Q0 d zone = 0 ∧ s.size = 40 ∧ (d.zones.getD zone.toNat default).state ≠ 4 ∧ (Qw (d.zones.getD zone.toNat default).state = true ∨ (Qh d zone.toNat).1 = 0) := by
 unfold QT at he
 split at he
 ·rename_i hc
  split at he
  ·rename_i hr
   split at he
   ·rename_i hs
    split at he
    ·cases he
    ·rename_i h5
     split at he
     ·cases he
     ·rename_i h4
      have hb : Q0 d zone = 0 := by simp only [Q0, hc, if_pos, hr, if_neg h5]
      split at he
      ·exact ⟨hb, hs, h4, .inl (by assumption)⟩
      ·exact ⟨hb, hs, h4, .inr he⟩
   ·cases he
  ·cases he
 ·exact absurd he (by assumption)
theorem QcK {d : Dev} (h : d.ok) (zone : Int) (s : ByteArray) : (QN d zone s).ok := by
 unfold QN
 split
 ·rename_i he
  obtain ⟨hb, hs, h4, hr⟩ := QgH he
  obtain ⟨_, h0, h1⟩ := Qan hb
  have h5 := Qri hb
  have hk : zone.toNat < d.zones.length := by omega
  obtain ⟨o1, o2, o3, o4⟩ := Qmx h hk hr
  refine h.with (by simp [o1]) (o2.set ?_) (o3 _) (o4 _)
  have hz := h.all.get hk
  have hsz := (confOk_iff.1 h.conf).size
  have e := QgR d zone.toNat zone.toNat
  have e2 := Qkb d zone.toNat zone.toNat
  have hlt : ((d.zones.getD zone.toNat default).sectors.length : Int) < d.size := by
   by_cases c : (d.zones.getD zone.toNat default).state = 0
   ·have := hz.emp (.inl c); omega
   ·exact hz.part c h4 h5
  have hsec : ∀ t ∈ ((Qax d zone.toNat).getD zone.toNat default).sectors ++ [s], t.size = 40 := by
   intro t ht
   rcases List.mem_append.1 ht with ht | ht
   ·rw [e] at ht; exact hz.secs t ht
   ·rw [List.mem_singleton.1 ht]; exact hs
  have hd := hz.dur
  unfold grow
  split
  ·rename_i hf
   rw [e] at hf
   refine ⟨by dsimp only; omega, ?_, ?_, fun e => by dsimp only at e; omega, fun _ => ?_, fun _ e => absurd rfl e, hsec⟩ <;> (dsimp only; rw [List.length_append, e]; simp only [List.length_cons, List.length_nil]; omega)
  ·rename_i hf
   rw [e] at hf
   have hst : ∀ n : Int, (if Qw n = true then n else 1) = 1 ∨ (if Qw n = true then n else 1) = 2 := by
    intro n
    split
    ·rename_i ho; exact isOpen_iff.1 ho
    ·exact .inl rfl
   have hst := hst ((Qax d zone.toNat).getD zone.toNat default).state
   refine ⟨by dsimp only; omega, ?_, ?_, fun e => by dsimp only at e; omega, fun e => by dsimp only at e; omega, fun _ _ _ => ?_, hsec⟩ <;> (dsimp only; rw [List.length_append, e]; try rw [e2]) <;> (simp only [List.length_cons, List.length_nil]; omega)
 ·exact h
theorem QqG {z : Zone} {size : Int} (h : RightZ z size) : RightZ (Qhc z) size :=
 ⟨h.st, h.len, ⟨Int.natCast_nonneg _, Int.le_refl _⟩, h.emp, fun _ => rfl, h.part, h.secs⟩
theorem QlF (l : List Zone) : QG (l.map Qhc) = QG l ∧ Qk (l.map Qhc) = Qk l := by
 simp only [QG, Qk, List.filter_map, List.length_map]
 exact ⟨rfl, rfl⟩
theorem QqJ {d : Dev} (h : d.ok) : Dev.ok { d with zones := d.zones.map Qhc } := by
 refine h.with (by simp) ?_ (by rw [(QlF _).1]; exact h.op) (by rw [(QlF _).2]; exact h.act)
 intro z hz
 obtain ⟨x, hx, rfl⟩ := List.mem_map.1 hz
 exact QqG (h.all x hx)
theorem Qub {x : Dev} (h : x.ok) (d : DiceM) (n : Int) : (cmdX d x n).ok := by
 unfold cmdX
 split
 ·exact QlZ h _
 split
 ·exact Qjt h _
 split
 ·exact Quk h _
 split
 ·exact QtE h _
 split
 ·exact QqJ h
 ·exact QcK h _ _
theorem QjD (d : Dev) (z : Int) : (Qa9 d z).zones.length = d.zones.length := by unfold Qa9; split <;> simp
theorem QiM (d : Dev) (z : Int) : (QaN d z).zones.length = d.zones.length := by unfold QaN; split <;> simp
theorem Qs6 (d : Dev) (z : Int) : (Qi0 d z).zones.length = d.zones.length := by unfold Qi0; split <;> simp [Qgk]
theorem QqQ (d : Dev) (z : Int) : (Qgv d z).zones.length = d.zones.length := by
 unfold Qgv
 split
 ·split
  ·exact QdV _ _
  ·rfl
 ·rfl
theorem QfI (d : Dev) (z : Int) (s : ByteArray) : (QN d z s).zones.length = d.zones.length := by unfold QN; split <;> simp [Qgk]
theorem QsQ (x : Dev) (d : DiceM) (n : Int) : (cmdX d x n).zones.length = x.zones.length := by
 unfold cmdX
 split
 ·exact QjD _ _
 split
 ·exact QiM _ _
 split
 ·exact Qs6 _ _
 split
 ·exact QqQ _ _
 split
 ·simp
 ·exact QfI _ _ _
end Go.Am
namespace Go.Am
def DiceM.left (d : DiceM) : Nat := d.l.length - d.at_
theorem QcJ {d : DiceM} : d.step.left = d.left - 1 ∧ d.step.l = d.l := by
 unfold DiceM.step DiceM.left
 split
 ·exact ⟨by omega, rfl⟩
 ·exact ⟨by dsimp only; omega, rfl⟩
theorem Qq3 (d : DiceM) (n : Int) (h : 0 < d.left) : (cmdD d n).left < d.left := by
 have h1 := (QcJ (d := d)).1
 have h2 := (QcJ (d := d.step)).1
 have h3 := (QcJ (d := d.step.step)).1
 have h4 := (QcJ (d := d.step.step.step)).1
 have h5 := (QcJ (d := d.step.step.step.step)).1
 have h6 := (QcJ (d := d.step.step.step.step.step)).1
 unfold cmdD
 split
 ·omega
 ·simp only [recD]; omega
def devF : Nat → DiceM → Dev → Int → Dev
 | 0, _, x, _ => x
 | f + 1, d, x, n => if 0 < d.left then devF f (cmdD d n) (cmdX d x n) n else x
theorem Qr6 : ∀ (f g : Nat) (d : DiceM) (x : Dev) (n : Int), d.left ≤ f → d.left ≤ g → devF f d x n = devF g d x n
 | 0, 0, _, _, _, _, _ => rfl
 | 0, g + 1, d, x, n, h, _ => by simp only [devF]; rw [if_neg (by omega)]
 | f + 1, 0, d, x, n, _, h => by simp only [devF]; rw [if_neg (by omega)]
 | f + 1, g + 1, d, x, n, h1, h2 => by
  simp only [devF]
  split
  ·rename_i h
   have := Qq3 d n h
   exact Qr6 f g _ _ _ (by omega) (by omega)
  ·rfl
def devN (d : DiceM) : Int := 2 + d.next 4
def Qu4 (d : DiceM) : Dev := newX (devN d) (3 + d.step.next 3) (1 + d.step.step.next 2) 2
def deviceD (l : List Int) : Dev := devF l.length (DiceM.step (DiceM.step (DiceM.step ⟨l, 0⟩))) (Qu4 ⟨l, 0⟩) (devN ⟨l, 0⟩)
theorem QoU (p : Zone → Bool) (hp : p zone0 = false) (n : Nat) : ((List.replicate n zone0).filter p).length = 0 := by
 rw [List.length_eq_zero_iff, List.filter_eq_nil_iff]
 intro z hz
 rw [List.mem_replicate] at hz
 rw [hz.2, hp]
 decide
theorem QuP {zones size op act : Int} (h1 : 1 ≤ zones) (h2 : zones ≤ 32) (h3 : 3 ≤ size) (h4 : size ≤ 64) (h5 : 1 ≤ op) (h6 : op ≤ act) (h7 : act ≤ zones) : (newX zones size op act).ok := by
 refine ⟨confOk_iff.2 ⟨?_, ⟨h3, h4⟩, h5, h6, ?_⟩, fun z hz => ?_, ?_, ?_⟩
 ·simp only [newX, List.length_replicate]; omega
 ·simp only [newX, List.length_replicate]; omega
 ·simp only [newX, List.mem_replicate] at hz
  rw [hz.2]
  exact right_iff.2 (Qhy (by simp only [newX]; omega))
 ·have : QG (newX zones size op act).zones = 0 := QoU _ (by decide) _
  rw [this]; simp only [newX]; omega
 ·have : Qk (newX zones size op act).zones = 0 := QoU _ (by decide) _
  rw [this]; simp only [newX]; omega
theorem Quh : ∀ (f : Nat) (d : DiceM) (x : Dev) (n : Int), x.ok → (devF f d x n).ok ∧ (devF f d x n).zones.length = x.zones.length
 | 0, _, x, _, h => ⟨h, rfl⟩
 | f + 1, d, x, n, h => by
  simp only [devF]
  split
  ·obtain ⟨h1, h2⟩ := Quh f (cmdD d n) (cmdX d x n) n (Qub h d n)
   exact ⟨h1, h2.trans (QsQ x d n)⟩
  ·exact ⟨h, rfl⟩
def oddD (x : Dev) (what at_ by_ : Int) : Dev :=
 if x.zones.length = 0 then x else
  let k := (modI at_ x.zones.length).toNat
  let z := x.zones.getD k default
  let m := modI what 9
  if m = 0 then { x with zones := x.zones.set k { z with state := IntKind.i64.wrap (modI by_ 8 - 1) } }
  else if m = 1 then { x with zones := x.zones.set k { z with durable := IntKind.i64.wrap (IntKind.i64.wrap (z.durable + modI by_ 5) - 2) } }
  else if m = 2 then { x with zones := x.zones.set k { z with sectors := z.sectors ++ [⟨#[120]⟩] } }
  else if m = 3 then { x with size := IntKind.i64.wrap (IntKind.i64.wrap (x.size + modI by_ 5) - 2) }
  else if m = 4 then { x with maxOpen := modI by_ 5 }
  else if m = 5 then { x with maxActive := modI by_ 6 }
  else if m = 6 then { x with zones := [] }
  else if m = 7 then { x with zones := x.zones.set k ⟨5, 0, []⟩ }
  else x
end Go.Am
namespace Go.Am
structure Zone.fits (z : Zone) : Prop where
 st : -9223372036854775808 ≤ z.state ∧ z.state ≤ 9223372036854775807
 du : -9223372036854775808 ≤ z.durable ∧ z.durable ≤ 9223372036854775807
def Dev.dur (d : Dev) : Prop := ∀ i, (d.zones.getD i default).durable ≤ 9223372036854775807
theorem Qnr : (default : Zone).durable ≤ 9223372036854775807 := by decide
theorem Dev.ok.dur {d : Dev} (h : d.ok) : d.dur := by
 intro i
 by_cases hi : i < d.zones.length
 ·have h1 := (h.all.get hi).dur
  have h2 := h.small.s i
  omega
 ·have : d.zones.getD i default = default := by simp [List.getD, Nat.le_of_not_lt hi]
  rw [this]
  exact Qnr
end Go.Am
end

section
open Go Go.Am
namespace Go.Proofs
set_option maxRecDepth 20000
def QcW (m : List (List Ent)) (k : Nat) : List Ent := (m.take k).flatten
theorem Qhq {m : List (List Ent)} {k : Nat} (hk : k < m.length) : QcW m (k + 1) = QcW m k ++ m.getD k default := by
 unfold QcW
 rw [Q1 m hk, List.flatten_append]
 simp
theorem Qpe (m : List (List Ent)) : QcW m m.length = m.flatten := by unfold QcW; rw [List.take_length]
theorem Qij {m : List (List Ent)} : ∀ {k : Nat}, k ≤ m.length → (∀ i, (m.getD i default).length ≤ 1000000) → (QcW m k).length ≤ k * 1000000
 | 0, _, _ => by simp [QcW]
 | k + 1, hk, h => by
  rw [Qhq (by omega), List.length_append]
  have := Qij (k := k) (by omega) h
  have := h k
  omega
def Qad (m : List (List Ent)) (i k : Nat) : List Ent := (QcW m i ++ (m.getD i default).take k).foldl insE []
theorem QiB (m : List (List Ent)) (i : Nat) : Qad m i 0 = (QcW m i).foldl insE [] := by simp [Qad]
theorem Qio {m : List (List Ent)} {i k : Nat} (hk : k < (m.getD i default).length) : Qad m i (k + 1) = insE (Qad m i k) ((m.getD i default).getD k default) := by
 unfold Qad
 rw [Q1 _ hk, ← List.append_assoc, List.foldl_append]
 rfl
theorem QqA {m : List (List Ent)} {i : Nat} (hi : i < m.length) : Qad m i (m.getD i default).length = Qad m (i + 1) 0 := by
 rw [QiB, Qhq hi]
 unfold Qad
 rw [List.take_length]
theorem Qsg (m : List (List Ent)) : Qad m m.length 0 = allM m := by rw [QiB, Qpe]; rfl
theorem Qjj (l : List Ent) : ∀ out : List Ent, (l.foldl insE out).length = out.length + l.length := by
 induction l with
 | nil => intro out; rfl
 | cons x l ih => intro out; simp only [List.foldl_cons, ih, QhX, List.length_cons]; omega
theorem Qrx {m : List (List Ent)} {i k : Nat} (hm : m.length ≤ 8) (hs : ∀ i, (m.getD i default).length ≤ 1000000) (hi : i ≤ m.length) : (Qad m i k).length ≤ 9000000 := by
 unfold Qad
 rw [Qjj, List.length_append, List.length_take]
 have := Qij hi hs
 have := hs i
 simp only [List.length_nil]
 omega
theorem Qr8 {l : List Ent} {b : Int} {a n : Nat} (hn : n ≤ l.length) (h : Qbc l b n = Qbc l b a) (ha : 0 < a) (h2 : b < (l.getD (a - 1) default).block) : Qbc l b n = Qbc l b (a - 1) := by
 rw [h]
 obtain ⟨a', rfl⟩ : ∃ a', a = a' + 1 := ⟨a - 1, by omega⟩
 simp only [Nat.add_sub_cancel] at h2 ⊢
 exact if_pos h2
theorem QqK {l : List Ent} {b : Int} {a : Nat} (h : ¬ (0 < a ∧ b < (l.getD (a - 1) default).block)) : Qbc l b a = a := by
 cases a with
 | zero => rfl
 | succ a =>
  unfold Qbc
  rw [if_neg]
  intro c
  exact h ⟨by omega, by simpa using c⟩
theorem Qpv {a b : List Ent} {i : Nat} (h : i < a.length) : (a ++ b).getD i default = a.getD i default := by
 simp only [List.getD, List.getElem?_append_left h]
theorem Qi6 {a b : List Ent} {i : Nat} (h : a.length ≤ i) : (a ++ b).getD i default = b.getD (i - a.length) default := by
 simp only [List.getD, List.getElem?_append_right h]
theorem Qul {l : List Ent} {x : Ent} {at_ n : Nat} {t : List C} {g0 : Nat → Nat → C} (hn : n = l.length) (ha : at_ ≤ n) (hs : Qbc l x.block l.length = at_) {i j : Nat} (hi : i < l.length + 1) (hj : j < 6) :
  cutG (cutG (entG l) at_ 1 (Qaf 6 (.int .i64 x.block :: .int .i64 x.kind :: .int .i64 x.version :: .int .i64 x.move :: .int .i64 x.zone :: .int .i64 x.offset :: t))) (at_ + 1) (0 + (n - at_)) (appG g0 0 (fun i j => entG l (at_ + i) j)) i j = entG (insE l x) i j := by
 subst hn
 rw [Nat.zero_add]
 unfold cutG appG insE
 rw [hs]
 have e : entG (l.take at_ ++ x :: l.drop at_) i j = ((l.take at_ ++ x :: l.drop at_).getD i default).cell j := rfl
 rw [e]
 have hlt : (l.take at_).length = at_ := by rw [List.length_take]; omega
 by_cases c1 : i < at_
 ·rw [if_pos (by omega), if_pos c1]
  rw [Qpv (by rw [hlt]; exact c1)]
  show (l.getD i default).cell j = _
  congr 1
  simp [List.getD, c1]
 ·by_cases c2 : i = at_
  ·subst c2
   rw [if_pos (by omega), if_neg (by omega), if_pos (by omega)]
   rw [Qi6 (by rw [hlt]; exact Nat.le_refl _), hlt, Nat.sub_self]
   match j, hj with
   | 0, _ => rfl
   | 1, _ => rfl
   | 2, _ => rfl
   | 3, _ => rfl
   | 4, _ => rfl
   | 5, _ => rfl
  ·rw [if_neg (by omega), if_pos (by omega), if_neg (by omega)]
   rw [Qi6 (by rw [hlt]; omega), hlt]
   show (l.getD (at_ + (i - (at_ + 1) - 0)) default).cell j = _
   congr 1
   obtain ⟨q, hq⟩ : ∃ q, i = at_ + 1 + q := ⟨i - at_ - 1, by omega⟩
   subst hq
   rw [show at_ + 1 + q - at_ = q + 1 by omega, show at_ + (at_ + 1 + q - (at_ + 1) - 0) = at_ + q by omega]
   simp [List.getD]
set_option maxHeartbeats 4000000 in
theorem Qkt (m : List (List Ent)) (hs : ∀ i, (m.getD i default).length ≤ 1000000) (hml : m.length ≤ 1000000) : PS 19 [.a [Qm m]] (.c (QR (allS m))) := by
 refine PSpec.rm ?_
 refine ov hΓ Tryz.func19 73 0 [.tmp 2] Tryz.ntmps19 Tryz.results19 ?_
 ((conv=>whnf);(repeat' ((first|refine Nd ?_|refine Hv fun _h=>?_);conv=>whnf)))
 refine CallN.pureA Qdr (Qdv m hml hs ) ?_
 ((conv=>whnf);(repeat' ((first|refine Nd ?_|refine Hv fun _h=>?_);conv=>whnf)))
 by_cases h : Q3 m = true
 ·refine Br.no (by rw [h]; rfl) ?_
  ((conv=>whnf);(repeat' ((first|refine Nd ?_|refine Hv fun _h=>?_);conv=>whnf)))
  have hm := QeT h
  rw [show allS m = allM m from if_pos h]
  refine Lp.reserve 67 6 (entG []) 3 rfl ?_
  refine Lp.mkK hΓ (ι := Nat) [1, 2] (fun i => [(4, .c (.int .i64 i)), (3, .c (.sl 1 6 (Qad m i 0).length (Qad m i 0).length false))]) (fun i => [.vr [Qm m], .arr 67 6 (Qad m i 0).length (entG (Qad m i 0))]) (fun k => k ≤ m.length) (fun i => m.length - i) 0 (Nat.zero_le _) ?_ ?_
  ·exact Mv.k0
  ·intro k hk
   have hsk := hs k
   ((conv=>whnf);(repeat' ((first|refine Nd ?_|refine Hv fun _h=>?_);conv=>whnf)))
   refine Br.of (fun h1=>?_) (fun h1=>?_)<;>(try simp only [Int.toNat_natCast] at h1)<;>(conv=>whnf)
   ·((conv=>whnf);(repeat' ((first|refine Nd ?_|refine Hv fun _h=>?_);conv=>whnf)))
    refine Lp.mkK hΓ (ι := Nat) [1, 2, 4] (fun q => [(5, .c (.int .i64 q)), (3, .c (.sl 1 6 (Qad m k q).length (Qad m k q).length false))]) (fun q => [.vr [Qm m], .arr 67 6 (Qad m k q).length (entG (Qad m k q))]) (fun q => q ≤ (m.getD k default).length) (fun q => (m.getD k default).length - q) 0 (Nat.zero_le _) ?_ ?_
    ·exact Mv.k0
    ·intro q hq
     have hlq := Qrx (k := q) hm.2 hs hk
     ((conv=>whnf);(repeat' ((first|refine Nd ?_|refine Hv fun _h=>?_);conv=>whnf)))
     have e0 : (k : Int).toNat = k := rfl
     refine Br.of (fun h2=>?_) (fun h2=>?_)<;>(try simp only [Int.toNat_natCast] at h2)<;>(conv=>whnf)
     ·((conv=>whnf);(repeat' ((first|refine Nd ?_|refine Hv fun _h=>?_);conv=>whnf)))
      refine Lp.mkK hΓ (ι := Nat) [1, 2, 3, 4, 5] (fun a => [(6, .c (.int .i64 a))]) (fun _ => [.vr [Qm m], .arr 67 6 (Qad m k q).length (entG (Qad m k q))]) (fun a => a ≤ (Qad m k q).length ∧ Qbc (Qad m k q) ((m.getD k default).getD q default).block (Qad m k q).length = Qbc (Qad m k q) ((m.getD k default).getD q default).block a) (fun a => a) (Qad m k q).length ⟨Nat.le_refl _, rfl⟩ ?_ ?_
      ·exact Mv.k0
      ·rintro a ⟨ha, ha2⟩
       ((conv=>whnf);(repeat' ((first|refine Nd ?_|refine Hv fun _h=>?_);conv=>whnf)))
       refine Dr.mk hΓ hMix (by kernel_rfl) ?_; conv=>whnf
       have hw : IntKind.i64.wrap (↑a - 1) = ↑a - 1 := Qa _ (by omega) (by omega)
       ((conv=>whnf);(repeat' ((first|refine Nd ?_|refine Hv fun _h=>?_);conv=>whnf)))
       refine Frc.mk (.c (.int .i64 ((Qad m k q).getD (IntKind.i64.wrap (↑a - 1)).toNat default).block)) rfl ?_
       ((conv=>whnf);(repeat' ((first|refine Nd ?_|refine Hv fun _h=>?_);conv=>whnf)))
       have hp : 0 < a → (IntKind.i64.wrap (↑a - 1)).toNat = a - 1 := fun h0 => by rw [hw]; omega
       by_cases c : 0 < a ∧ ((m.getD k default).getD q default).block < ((Qad m k q).getD (a - 1) default).block
       ·refine Br.yes (by rw [hp c.1]; simp [-List.getD_eq_getElem?_getD, c.1, c.2]) ?_
        ((conv=>whnf);(repeat' ((first|refine Nd ?_|refine Hv fun _h=>?_);conv=>whnf)))
        refine ⟨a - 1, ⟨by omega, Qr8 (Nat.le_refl _) ha2 c.1 c.2⟩, by omega, ?_⟩
        exact Mv.k0
       ·refine Br.no (Bool.eq_false_iff.2 fun e => c (by
         by_cases c0 : 0 < a
         ·rw [hp c0] at e
          simp [-List.getD_eq_getElem?_getD] at e
          exact e
         ·have : a = 0 := by omega
          subst this
          simp at e)) ?_
        ((conv=>whnf);(repeat' ((first|refine Nd ?_|refine Hv fun _h=>?_);conv=>whnf)))
        have hst := QqK c
        have hle : a ≤ (Qad m k q).length := ha
        have hqb : q < (m.getD k default).length := by omega
        refine Dr.mkE hΓ hMix [4294967297] [(13, 12)] (by kernel_rfl) ?_; conv=>whnf
        ((conv=>whnf);(repeat' ((first|refine Nd ?_|refine Hv fun _h=>?_);conv=>whnf)))
        have w0 := Qa (↑q + 1) (by omega) (by omega)
        refine ⟨q + 1, by omega, by omega, ?_⟩
        have hln : (Qad m k (q + 1)).length = (Qad m k q).length + 1 := by rw [Qio hqb, QhX]
        refine Mv.k1 ?_
        intro i hi j hj
        exact WC.eq ((Qul (x := (m.getD k default).getD q default) rfl hle (ha2.trans hst) (by omega) hj).trans (by rw [Qio hqb])) (QF _ _)
     ·((conv=>whnf);(repeat' ((first|refine Nd ?_|refine Hv fun _h=>?_);conv=>whnf)))
      have w0 := Qa (↑k + 1) (by omega) (by omega)
      have : q = (m.getD k default).length := by omega
      subst this
      refine ⟨k + 1, by omega, by omega, ?_⟩
      rw [QqA (by omega)]
      exact Mv.k0
   ·((conv=>whnf);(repeat' ((first|refine Nd ?_|refine Hv fun _h=>?_);conv=>whnf)))
    have : k = m.length := by omega
    subst this
    rw [Qsg]
    exact RM.allC (Fw.slP rfl rfl rfl (fun _ _ _ _ => rfl) (fun _ _ => QF _ _))
 ·refine Br.yes (by rw [QaM h]; rfl) ?_
  ((conv=>whnf);(repeat' ((first|refine Nd ?_|refine Hv fun _h=>?_);conv=>whnf)))
  rw [show allS m = [] from if_neg h]
  exact RM.i0
theorem Qkc : HB 19 := hB Tryz.func19
def encF (f : Fnd) : List Value := [.int .i64 f.zone, .int .i64 f.offset, .int .i64 f.r.kind, .int .i64 f.r.block, .int .i64 f.r.version, .int .i64 f.r.move, .string f.r.payload]
theorem Qs0 (f : Fnd) : (encF f).length = 7 := rfl
theorem getF (d : Array Fnd) (i : Nat) : d.toList.getD i default = d[i]! := by
 by_cases h : i < d.size
 ·rw [getElem!_pos d i h]; simp [List.getD, h]
 ·rw [getElem!_neg d i h]; simp [List.getD, h]
theorem QtX {d : Array Fnd} {n : Nat} (hd : d.size = n) : ∀ i, i < n → ∀ j, j < 7 → ∀ F v, RepF F (fndG d.toList i j) v → v = (encF d[i]!)[j]! := by
 intro i hi j hj F v h
 unfold fndG rowG at h
 rw [getF] at h
 match j, hj with
 | 0, _ => exact h
 | 1, _ => exact h
 | 2, _ => exact h
 | 3, _ => exact h
 | 4, _ => exact h
 | 5, _ => exact h
 | 6, _ => exact h.1
def sfG : Nat := 1
theorem sfG_eq : Tryz.prog.globals.size = sfG := by kernel_rfl
def lsC : C := .fn (.func 47) 1 fun _ => .ptr 1 0
def swC (n : Nat) : C := .fn (.func 128) 2 fun | 0 => .sl 0 7 n n false | _ => .raw sfG 71
def arrO (n : Nat) (d : Array Fnd) : O := .arr 71 7 n (fndG d.toList)
def sH (n : Nat) (d : Array Fnd) : List O := [arrO n d, .vr [.sl 0 7 n n false]]
theorem Qoh : ∀ args W, (callFunc 128 args).run Tryz.prog W = ((Extern.ReflectliteSwapper.swap false args).run Tryz.prog W).andThen fun v w' => .ok (.value v) w' :=
 fun args W => run_callFunc_extern Tryz.func128 (by kernel_rfl) (by kernel_rfl) (by kernel_rfl) (e := Extern.ReflectliteSwapper.swap false) (by kernel_rfl) args W
noncomputable def sfT : TypeInfo := (Tryz.prog.info? 60).get (by kernel_rfl)
noncomputable def sfE : TypeInfo := (Tryz.prog.info? 71).get (by kernel_rfl)
theorem QtG (n b cap : Nat) : SwapSwapsK Tryz.prog 128 #[.slice (some ⟨b, 0, none⟩) n cap, .pointer (some ⟨sfG, 71, none⟩)] encF 7 b 0 n := by
 have h := swapSwapsK_of_literal false 128 Qoh 71 sfE (by kernel_rfl) encF 7 (fun _ => rfl) (by kernel_rfl) (fun _ => by kernel_rfl) (fun x v hv => by simp [encF] at hv; rcases hv with rfl | rfl | rfl | rfl | rfl | rfl | rfl <;> rfl) b 0 n cap
 have e : sfG = Tryz.prog.globals.size := sfG_eq.symm
 rw [e]
 exact h
theorem Qbe {X : Cx} (hX : X.P = Tryz.prog) {dst : Option Tmp} {ts : Ts} {H H' : List O} {k : Ts → List O → Prop} {n : Nat} {x : Bool} {u v : Int} (i j : Nat) (d : Array Fnd) (hu : u = i) (hv : v = j) (hd : d.size = n) (hi : i < n) (hj : j < n)
  (h0 : getL H 0 = some (arrO n d)) (hset : setL H 0 (arrO n (Go.Sort.swp d i j)) = some H') (h : putK X.nt dst (.t []) ts fun ts' => k ts' H') : CallX X 128 [.c (.int .i64 u), .c (.int .i64 v), .c (.sl 0 7 n n x), .c (.raw sfG 71)] dst ts H k := by
 subst hu hv
 refine CallX.swap (e := 71) (fndG (Go.Sort.swp d i j).toList) d hi hj h0 (by decide) hd (QtX hd) (fun _ _ _ _ => Ql _ _) (fun q hq => ?_) hset Qs0 (fun b cap => by rw [hX]; exact QtG n b cap) h
 funext c
 unfold fndG rowG
 rw [getF, getF, Qsz (by omega)]
 repeat' split <;> try rfl
end Go.Proofs
end
