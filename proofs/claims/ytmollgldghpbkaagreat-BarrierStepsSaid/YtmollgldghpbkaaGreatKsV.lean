/- Contracts, lemmas; no condition. -/
import Derived.Test.YtmollgldghpbkaaGreatModAV
import Derived.Test.YtmollgldghpbkaaGreatModCV
import Derived.Test.YtmollgldghpbkaaGreatZRV
import Derived.Test.YtmollgldghpbkaaGreatAmEV
import Derived.Test.YtmollgldghpbkaaGreatRfV
import Derived.Test.YtmollgldghpbkaaGreatCtIV
set_option linter.all false
section
namespace Go.Am
structure RightZ (z : Zone) (size : Int) : Prop where
 st : 0 ≤ z.state ∧ z.state ≤ 5
 len : (z.sectors.length : Int) ≤ size
 dur : 0 ≤ z.durable ∧ z.durable ≤ z.sectors.length
 emp : z.state = 0 ∨ z.state = 5 → z.sectors.length = 0
 full : z.state = 4 → z.durable = z.sectors.length
 part : z.state ≠ 0 → z.state ≠ 4 → z.state ≠ 5 → (z.sectors.length : Int) < size
 secs : ∀ s ∈ z.sectors, s.size = 40
theorem right_iff {z : Zone} {size : Int} : right z size = true ↔ RightZ z size := by
 simp only [right, Bool.and_eq_true, decide_eq_true_eq, Qco, List.all_eq_true]
 constructor
 ·rintro ⟨⟨h1, h2, h3, h4, h5, h6, h7, h8⟩, h9⟩
  exact ⟨⟨h1, h2⟩, h3, ⟨h4, h5⟩, h6, h7, h8, h9⟩
 ·rintro ⟨⟨h1, h2⟩, h3, ⟨h4, h5⟩, h6, h7, h8, h9⟩
  exact ⟨⟨h1, h2, h3, h4, h5, h6, h7, h8⟩, h9⟩
theorem QkP (p : Zone → Bool) (z : Zone) : ∀ (l : List Zone) (i : Nat), i < l.length → ((l.set i z).filter p).length + (if p (l.getD i default) = true then 1 else 0) = (l.filter p).length + (if p z = true then 1 else 0)
 | [], i, h => by simp at h
 | x :: r, 0, _ => by
  simp only [List.set_cons_zero, List.filter_cons, List.getD_cons_zero]
  by_cases h1 : p x = true <;> by_cases h2 : p z = true <;> simp [h1, h2]
 | x :: r, i + 1, h => by
  have ih := QkP p z r i (by simpa using h)
  simp only [List.set_cons_succ, List.filter_cons, List.getD_cons_succ]
  by_cases h1 : p x = true
  ·rw [if_pos h1, if_pos h1, List.length_cons, List.length_cons]; omega
  ·rw [if_neg h1, if_neg h1]; exact ih
theorem Qc7 {l : List Zone} {i : Nat} (h : i < l.length) (z : Zone) : QP (l.set i z) + (if QK (l.getD i default).state = true then 1 else 0) = QP l + (if QK z.state = true then 1 else 0) := QkP (fun z => QK z.state) z l i h
theorem Qch {l : List Zone} {i : Nat} (h : i < l.length) (z : Zone) : Qt (l.set i z) + (if QR (l.getD i default).state = true then 1 else 0) = Qt l + (if QR z.state = true then 1 else 0) := QkP (fun z => QR z.state) z l i h
def AllR (l : List Zone) (size : Int) : Prop := ∀ z ∈ l, RightZ z size
theorem Dev.ok.all {d : Dev} (h : d.ok) : AllR d.zones d.size := fun z hz => right_iff.1 (h.zones z hz)
theorem AllR.get {l : List Zone} {size : Int} (h : AllR l size) {i : Nat} (hi : i < l.length) : RightZ (l.getD i default) size := by
 rw [QaM _ _ hi]; exact h _ (List.getElem_mem hi)
theorem AllR.set {l : List Zone} {size : Int} (h : AllR l size) {i : Nat} {z : Zone} (hz : RightZ z size) : AllR (l.set i z) size := by
 intro x hx
 rcases List.mem_or_eq_of_mem_set hx with h1 | h1
 ·exact h x h1
 ·rw [h1]; exact hz
structure Dev.conf3 (d : Dev) : Prop where
 n : 1 ≤ d.zones.length ∧ d.zones.length ≤ 32
 size : 3 ≤ d.size ∧ d.size ≤ 64
 op : 1 ≤ d.maxOpen ∧ d.maxOpen ≤ d.maxActive ∧ d.maxActive ≤ d.zones.length
theorem confOk_iff {d : Dev} : Qbu d = true ↔ d.conf3 := by
 simp only [Qbu, decide_eq_true_eq]
 constructor
 ·rintro ⟨h1, h2, h3, h4, h5, h6, h7⟩
  exact ⟨⟨h1, h2⟩, ⟨h3, h4⟩, h5, h6, h7⟩
 ·rintro ⟨⟨h1, h2⟩, ⟨h3, h4⟩, h5, h6, h7⟩
  exact ⟨h1, h2, h3, h4, h5, h6, h7⟩
theorem Dev.ok.with {d : Dev} (h : d.ok) {l : List Zone} (hn : l.length = d.zones.length) (hr : AllR l d.size) (ho : (QP l : Int) ≤ d.maxOpen) (ha : (Qt l : Int) ≤ d.maxActive) : Dev.ok { d with zones := l } := by
 refine ⟨?_, fun z hz => right_iff.2 (hr z hz), ho, ha⟩
 have := confOk_iff.1 h.conf
 refine confOk_iff.2 ⟨?_, this.size, ?_⟩
 ·dsimp only; rw [hn]; exact this.n
 ·dsimp only; rw [hn]; exact this.op
theorem isOpen_iff {n : Int} : QK n = true ↔ n = 1 ∨ n = 2 := by simp [QK]
theorem isActive_iff {n : Int} : QR n = true ↔ n = 1 ∨ n = 2 ∨ n = 3 := by simp [QR]
theorem QoK {size : Int} (h : 0 ≤ size) : RightZ zone0 size := ⟨by decide, h, by decide, fun _ => rfl, fun h => (by cases h), fun h => absurd rfl h, fun s hs => (by cases hs)⟩
theorem Quk {d : Dev} (h : d.ok) (zone : Int) : (QhJ d zone).ok := by
 unfold QhJ
 split
 ·rename_i he
  obtain ⟨_, h0, h1⟩ := QbT he
  have hk : zone.toNat < d.zones.length := by omega
  have hc := confOk_iff.1 h.conf
  have e1 := Qc7 hk zone0
  have e2 := Qch hk zone0
  have h1 := h.op
  have h2 := h.act
  rw [if_neg (show ¬ QK zone0.state = true by decide)] at e1
  rw [if_neg (show ¬ QR zone0.state = true by decide)] at e2
  refine h.with (by simp) (h.all.set (QoK (by have := hc.size; omega))) ?_ ?_
  ·split at e1 <;> omega
  ·split at e2 <;> omega
 ·exact h
theorem RightZ.fin {z : Zone} {size : Int} (h : RightZ z size) : RightZ (QdR z) size := by
 unfold QdR
 split
 ·exact h
 ·exact ⟨by dsimp only; omega, h.len, ⟨Int.natCast_nonneg _, Int.le_refl _⟩, fun e => by dsimp only at e; omega, fun _ => rfl, fun _ e => absurd rfl e, h.secs⟩
theorem Qtt (z : Zone) : (QdR z).state = 4 := by
 unfold QdR
 split
 ·assumption
 ·rfl
theorem Qsz {d : Dev} (h : d.ok) (zone : Int) : (Qgc d zone).ok := by
 unfold Qgc
 split
 ·rename_i he
  obtain ⟨_, h0, h1⟩ := QbT he
  have hk : zone.toNat < d.zones.length := by omega
  have e1 := Qc7 hk (QdR (d.zones.getD zone.toNat default))
  have e2 := Qch hk (QdR (d.zones.getD zone.toNat default))
  have h1 := h.op
  have h2 := h.act
  rw [Qtt] at e1 e2
  rw [if_neg (show ¬ QK 4 = true by decide)] at e1
  rw [if_neg (show ¬ QR 4 = true by decide)] at e2
  refine h.with (by simp) (h.all.set (h.all.get hk).fin) ?_ ?_
  ·split at e1 <;> omega
  ·split at e2 <;> omega
 ·exact h
theorem RightZ.shut {z : Zone} {size : Int} (h : RightZ z size) (ho : QK z.state = true) : RightZ (Qa7 z) size := by
 have ho' := isOpen_iff.1 ho
 unfold Qa7
 by_cases c : z.sectors.length = 0
 ·rw [if_pos c]
  exact ⟨by dsimp only; omega, h.len, h.dur, fun _ => c, fun e => (by cases e), fun e => absurd rfl e, h.secs⟩
 ·rw [if_neg c]
  exact ⟨by dsimp only; omega, h.len, h.dur, fun e => by dsimp only at e; omega, fun e => (by cases e), fun _ _ _ => h.part om om om, h.secs⟩
theorem Qq8 (z : Zone) : QK (Qa7 z).state = false ∧ ((Qa7 z).state = 0 ∨ (Qa7 z).state = 3) := by
 unfold Qa7
 split
 ·exact ⟨rfl, .inl rfl⟩
 ·exact ⟨rfl, .inr rfl⟩
theorem QiY {l : List Zone} {i : Nat} (hi : i < l.length) (ho : QK (l.getD i default).state = true) : QP (Qac l i) + 1 = QP l ∧ Qt (Qac l i) ≤ Qt l := by
 have e1 := Qc7 hi (Qa7 (l.getD i default))
 have e2 := Qch hi (Qa7 (l.getD i default))
 have hs := (Qq8 (l.getD i default)).1
 rw [if_pos ho, if_neg (by rw [hs]; decide)] at e1
 have ha : QR (l.getD i default).state = true := by
  have := isOpen_iff.1 ho
  exact isActive_iff.2 om
 rw [if_pos ha] at e2
 refine ⟨e1, ?_⟩
 have : Qt (Qac l i) + 1 = Qt l + (if QR (Qa7 (l.getD i default)).state = true then 1 else 0) := e2
 split at this <;> omega
structure RoomOk (d : Dev) (zone : Nat) (l : List Zone) : Prop where
 len : l.length = d.zones.length
 all : AllR l d.size
 op : (QP l : Int) + 1 ≤ d.maxOpen
 act : (l.getD zone default).state = 3 ∧ (Qt l : Int) ≤ d.maxActive ∨ (Qt l : Int) + 1 ≤ d.maxActive
theorem QuZ {d : Dev} (h : d.ok) {zone : Nat} (hr : (Qr d zone).1 = 0) : RoomOk d zone (Qr d zone).2 := by
 have h1 := h.op
 have h2 := h.act
 by_cases c : d.maxOpen ≤ QP d.zones
 ·by_cases c2 : Q6 d.zones < d.zones.length
  ·have hs := Qfq _ c2
   have ho : QK (d.zones.getD (Q6 d.zones) default).state = true := isOpen_iff.2 (.inl hs)
   obtain ⟨e1, e2⟩ := QiY c2 ho
   have e : Qr d zone = if ((Qac d.zones (Q6 d.zones)).getD zone default).state ≠ 3 ∧ d.maxActive ≤ Qt (Qac d.zones (Q6 d.zones)) then (9, Qac d.zones (Q6 d.zones)) else (0, Qac d.zones (Q6 d.zones)) := by
    simp only [Qr]
    rw [if_pos c, if_pos c2]
   rw [e] at hr ⊢
   split at hr
   ·cases hr
   ·rename_i c3
    rw [if_neg c3]
    refine ⟨QeA _ _, h.all.set ((h.all.get c2).shut ho), by dsimp only; omega, ?_⟩
    dsimp only
    by_cases c4 : ((Qac d.zones (Q6 d.zones)).getD zone default).state = 3
    ·exact .inl ⟨c4, om⟩
    ·right; omega
  ·have e : Qr d zone = (8, d.zones) := by
    simp only [Qr]
    rw [if_pos c, if_neg c2]
   rw [e] at hr
   cases hr
 ·have e : Qr d zone = if (d.zones.getD zone default).state ≠ 3 ∧ d.maxActive ≤ Qt d.zones then (9, d.zones) else (0, d.zones) := by
   simp only [Qr]
   rw [if_neg c]
  rw [e] at hr ⊢
  split at hr
  ·cases hr
  ·rename_i c3
   rw [if_neg c3]
   refine ⟨rfl, h.all, by dsimp only; omega, ?_⟩
   dsimp only
   by_cases c4 : (d.zones.getD zone default).state = 3
   ·exact .inl ⟨c4, om⟩
   ·right; omega
theorem QmZ {d : Dev} (h : d.ok) {zone : Nat} (hk : zone < d.zones.length) (hr : QK (d.zones.getD zone default).state = true ∨ (Qr d zone).1 = 0) :
  (Qa5 d zone).length = d.zones.length ∧ AllR (Qa5 d zone) d.size ∧ (∀ z : Zone, (QP ((Qa5 d zone).set zone z) : Int) ≤ d.maxOpen) ∧ (∀ z : Zone, (Qt ((Qa5 d zone).set zone z) : Int) ≤ d.maxActive) := by
 have h1 := h.op
 have h2 := h.act
 unfold Qa5
 by_cases c : QK (d.zones.getD zone default).state = true
 ·rw [if_pos c]
  have ha : QR (d.zones.getD zone default).state = true := by
   have := isOpen_iff.1 c
   exact isActive_iff.2 om
  refine ⟨rfl, h.all, fun z => ?_, fun z => ?_⟩
  ·have e := Qc7 hk z
   rw [if_pos c] at e
   split at e <;> omega
  ·have e := Qch hk z
   rw [if_pos ha] at e
   split at e <;> omega
 ·rw [if_neg c]
  have hr0 := hr.resolve_left c
  have R := QuZ h hr0
  have hk' : zone < (Qr d zone).2.length := by rw [R.len]; exact hk
  refine ⟨R.len, R.all, fun z => ?_, fun z => ?_⟩
  ·have e := Qc7 hk' z
   have := R.op
   split at e <;> split at e <;> omega
  ·have e := Qch hk' z
   rcases R.act with ⟨a1, a2⟩ | a1
   ·rw [if_pos (isActive_iff.2 om)] at e
    split at e <;> omega
   ·split at e <;> split at e <;> omega
theorem Qlr (d : Dev) (zone k : Nat) : ((Qa5 d zone).getD k default).sectors = (d.zones.getD k default).sectors := by
 unfold Qa5
 split
 ·rfl
 ·exact QgR d zone k
theorem Qlz (d : Dev) (zone : Nat) : (Qa5 d zone).length = d.zones.length := by
 unfold Qa5
 split
 ·rfl
 ·exact Qk2 d zone
theorem Qp2 {l : List Zone} {i : Nat} (hi : i < l.length) (k : Nat) : ((Qac l i).getD k default).durable = (l.getD k default).durable := by
 simp only [Qac]
 by_cases c : k = i
 ·subst c
  simp [List.getD, hi, Qa7]
 ·simp only [List.getD]
  rw [List.getElem?_set_ne (Ne.symm c)]
theorem QrX (d : Dev) (zone k : Nat) : ((Qr d zone).2.getD k default).durable = (d.zones.getD k default).durable := by
 simp only [Qr]
 split
 ·rfl
 ·rename_i l h
  have : (l.getD k default).durable = (d.zones.getD k default).durable := by
   split at h
   ·split at h
    ·rename_i h2
     cases h; exact Qp2 h2 _
    ·cases h
   ·cases h; rfl
  split <;> exact this
theorem Qlm (d : Dev) (zone k : Nat) : ((Qa5 d zone).getD k default).durable = (d.zones.getD k default).durable := by
 unfold Qa5
 split
 ·rfl
 ·exact QrX d zone k
theorem QpQ {d : Dev} {zone : Int} (he : QrD d zone = 0) : Qai d zone = 0 ∧ (d.zones.getD zone.toNat default).state ≠ 4 ∧ (QK (d.zones.getD zone.toNat default).state = true ∨ (Qr d zone.toNat).1 = 0) := by
 unfold QrD at he
 split at he
 ·rename_i h1
  split at he
  ·cases he
  ·rename_i h2
   split at he
   ·exact ⟨h1, h2, .inl (by assumption)⟩
   ·exact ⟨h1, h2, .inr he⟩
 ·exact absurd he (by assumption)
theorem Qtm {d : Dev} {zone : Int} (h : Qai d zone = 0) : (d.zones.getD zone.toNat default).state ≠ 5 := by
 intro h5
 obtain ⟨hok, h0, h1⟩ := QbT h
 have : Qai d zone = 6 := by
  simp only [Qai, check_ok.2 hok, if_pos, decide_eq_true (show 0 ≤ zone ∧ zone < d.zones.length from ⟨h0, h1⟩), if_pos h5]
 omega
theorem Qu9 {d : Dev} (h : d.ok) (zone : Int) : (Qi2 d zone).ok := by
 unfold Qi2
 split
 ·rename_i he
  obtain ⟨hb, h4, hr⟩ := QpQ he
  obtain ⟨_, h0, h1⟩ := QbT hb
  have h5 := Qtm hb
  have hk : zone.toNat < d.zones.length := by omega
  obtain ⟨o1, o2, o3, o4⟩ := QmZ h hk hr
  refine h.with (by simp [o1]) (o2.set ?_) (o3 _) (o4 _)
  have hz := h.all.get hk
  have hsz := (confOk_iff.1 h.conf).size
  have e := Qlr d zone.toNat zone.toNat
  have e2 := Qlm d zone.toNat zone.toNat
  refine ⟨by dsimp only; omega, ?_, ?_, fun e => by dsimp only at e; omega, fun e => by dsimp only at e; omega, fun _ _ _ => ?_, ?_⟩
  ·rw [e]; exact hz.len
  ·rw [e, e2]; exact hz.dur
  ·rw [e]
   by_cases c : (d.zones.getD zone.toNat default).state = 0
   ·have := hz.emp (.inl c); omega
   ·exact hz.part c h4 h5
  ·rw [e]; exact hz.secs
 ·exact h
theorem Qur {d : Dev} (h : d.ok) (zone : Int) : (Qh0 d zone).ok := by
 unfold Qh0
 split
 ·rename_i he
  split
  ·rename_i ho
   have hb : Qai d zone = 0 := by
    unfold Qtg at he
    split at he
    ·assumption
    ·exact absurd he (by assumption)
   obtain ⟨_, h0, h1⟩ := QbT hb
   have hk : zone.toNat < d.zones.length := by omega
   obtain ⟨e1, e2⟩ := QiY hk ho
   have h1 := h.op
   have h2 := h.act
   exact h.with (QeA _ _) (h.all.set ((h.all.get hk).shut ho)) om om
  ·exact h
 ·exact h
theorem QnN {d : Dev} {zone : Int} {s : ByteArray} (he : Q9 d zone s = 0) : Qai d zone = 0 ∧ s.size = 40 ∧ (d.zones.getD zone.toNat default).state ≠ 4 ∧ (QK (d.zones.getD zone.toNat default).state = true ∨ (Qr d zone.toNat).1 = 0) := by
 unfold Q9 at he
 split at he
 ·rename_i hc
  split at he
  ·rename_i hr
   split at he
   ·rename_i hs
    split at he
    ·cases he
    ·rename_i h5
     split at he
     ·cases he
     ·rename_i h4
      have hb : Qai d zone = 0 := by simp only [Qai, hc, if_pos, hr, if_neg h5]
      split at he
      ·exact ⟨hb, hs, h4, .inl (by assumption)⟩
      ·exact ⟨hb, hs, h4, .inr he⟩
   ·cases he
  ·cases he
 ·exact absurd he (by assumption)
theorem QhY {d : Dev} (h : d.ok) (zone : Int) (s : ByteArray) : (Qaa d zone s).ok := by
 unfold Qaa
 split
 ·rename_i he
  obtain ⟨hb, hs, h4, hr⟩ := QnN he
  obtain ⟨_, h0, h1⟩ := QbT hb
  have h5 := Qtm hb
  have hk : zone.toNat < d.zones.length := by omega
  obtain ⟨o1, o2, o3, o4⟩ := QmZ h hk hr
  refine h.with (by simp [o1]) (o2.set ?_) (o3 _) (o4 _)
  have hz := h.all.get hk
  have hsz := (confOk_iff.1 h.conf).size
  have e := Qlr d zone.toNat zone.toNat
  have e2 := Qlm d zone.toNat zone.toNat
  have hlt : ((d.zones.getD zone.toNat default).sectors.length : Int) < d.size := by
   by_cases c : (d.zones.getD zone.toNat default).state = 0
   ·have := hz.emp (.inl c); omega
   ·exact hz.part c h4 h5
  have hsec : ∀ t ∈ ((Qa5 d zone.toNat).getD zone.toNat default).sectors ++ [s], t.size = 40 := by
   intro t ht
   rcases List.mem_append.1 ht with ht | ht
   ·rw [e] at ht; exact hz.secs t ht
   ·rw [List.mem_singleton.1 ht]; exact hs
  have hd := hz.dur
  unfold grow
  split
  ·rename_i hf
   rw [e] at hf
   refine ⟨by dsimp only; omega, ?_, ?_, fun e => by dsimp only at e; omega, fun _ => ?_, fun _ e => absurd rfl e, hsec⟩ <;> (dsimp only; rw [List.length_append, e]; simp only [List.length_cons, List.length_nil]; omega)
  ·rename_i hf
   rw [e] at hf
   have hst : ∀ n : Int, (if QK n = true then n else 1) = 1 ∨ (if QK n = true then n else 1) = 2 := by
    intro n
    split
    ·rename_i ho; exact isOpen_iff.1 ho
    ·exact .inl rfl
   have hst := hst ((Qa5 d zone.toNat).getD zone.toNat default).state
   refine ⟨by dsimp only; omega, ?_, ?_, fun e => by dsimp only at e; omega, fun e => by dsimp only at e; omega, fun _ _ _ => ?_, hsec⟩ <;> (dsimp only; rw [List.length_append, e]; try rw [e2]) <;> (simp only [List.length_cons, List.length_nil]; omega)
 ·exact h
theorem Qrt {z : Zone} {size : Int} (h : RightZ z size) : RightZ (QdC z) size :=
 ⟨h.st, h.len, ⟨Int.natCast_nonneg _, Int.le_refl _⟩, h.emp, fun _ => rfl, h.part, h.secs⟩
theorem QnA (l : List Zone) : QP (l.map QdC) = QP l ∧ Qt (l.map QdC) = Qt l := by
 simp only [QP, Qt, List.filter_map, List.length_map]
 exact ⟨rfl, rfl⟩
theorem Qjl {d : Dev} (h : d.ok) : Dev.ok { d with zones := d.zones.map QdC } := by
 refine h.with (by simp) ?_ (by rw [(QnA _).1]; exact h.op) (by rw [(QnA _).2]; exact h.act)
 intro z hz
 obtain ⟨x, hx, rfl⟩ := List.mem_map.1 hz
 exact Qrt (h.all x hx)
theorem Qu8 {x : Dev} (h : x.ok) (d : DiceM) (n : Int) : (cmdX d x n).ok := by
 unfold cmdX
 split
 ·exact Quk h _
 split
 ·exact Qsz h _
 split
 ·exact Qu9 h _
 split
 ·exact Qur h _
 split
 ·exact Qjl h
 ·exact QhY h _ _
theorem Qsg (d : Dev) (z : Int) : (QhJ d z).zones.length = d.zones.length := by unfold QhJ; split <;> simp
theorem Qqe (d : Dev) (z : Int) : (Qgc d z).zones.length = d.zones.length := by unfold Qgc; split <;> simp
theorem QtJ (d : Dev) (z : Int) : (Qi2 d z).zones.length = d.zones.length := by unfold Qi2; split <;> simp [Qlz]
theorem QrV (d : Dev) (z : Int) : (Qh0 d z).zones.length = d.zones.length := by
 unfold Qh0
 split
 ·split
  ·exact QeA _ _
  ·rfl
 ·rfl
theorem Qgm (d : Dev) (z : Int) (s : ByteArray) : (Qaa d z s).zones.length = d.zones.length := by unfold Qaa; split <;> simp [Qlz]
theorem QtO (x : Dev) (d : DiceM) (n : Int) : (cmdX d x n).zones.length = x.zones.length := by
 unfold cmdX
 split
 ·exact Qsg _ _
 split
 ·exact Qqe _ _
 split
 ·exact QtJ _ _
 split
 ·exact QrV _ _
 split
 ·simp
 ·exact Qgm _ _ _
end Go.Am
namespace Go.Am
def DiceM.left (d : DiceM) : Nat := d.l.length - d.at_
theorem Qdi {d : DiceM} : d.step.left = d.left - 1 ∧ d.step.l = d.l := by
 unfold DiceM.step DiceM.left
 split
 ·exact ⟨om, rfl⟩
 ·exact ⟨by dsimp only; omega, rfl⟩
theorem Qsq (d : DiceM) (n : Int) (h : 0 < d.left) : (cmdD d n).left < d.left := by
 have h1 := (Qdi (d := d)).1
 have h2 := (Qdi (d := d.step)).1
 have h3 := (Qdi (d := d.step.step)).1
 have h4 := (Qdi (d := d.step.step.step)).1
 have h5 := (Qdi (d := d.step.step.step.step)).1
 have h6 := (Qdi (d := d.step.step.step.step.step)).1
 unfold cmdD
 split
 ·omega
 ·simp only [recD]; omega
theorem QpE {d : DiceM} (h : d.ok) (n : Int) : (cmdD d n).ok := by
 unfold cmdD
 split
 ·exact h.step.step
 ·exact h.step.step.step.step.step.step
def devF : Nat → DiceM → Dev → Int → Dev
 | 0, _, x, _ => x
 | f + 1, d, x, n => if 0 < d.left then devF f (cmdD d n) (cmdX d x n) n else x
theorem QsM : ∀ (f g : Nat) (d : DiceM) (x : Dev) (n : Int), d.left ≤ f → d.left ≤ g → devF f d x n = devF g d x n
 | 0, 0, _, _, _, _, _ => rfl
 | 0, g + 1, d, x, n, h, _ => by simp only [devF]; rw [if_neg om]
 | f + 1, 0, d, x, n, _, h => by simp only [devF]; rw [if_neg om]
 | f + 1, g + 1, d, x, n, h1, h2 => by
  simp only [devF]
  split
  ·rename_i h
   have := Qsq d n h
   exact QsM f g _ _ _ om om
  ·rfl
def devN (d : DiceM) : Int := 2 + d.next 4
def QvT (d : DiceM) : Dev := newX (devN d) (3 + d.step.next 3) (1 + d.step.step.next 2) 2
def deviceD (l : List Int) : Dev := devF l.length (DiceM.step (DiceM.step (DiceM.step ⟨l, 0⟩))) (QvT ⟨l, 0⟩) (devN ⟨l, 0⟩)
theorem Qu2 : ∀ (f : Nat) (d : DiceM) (x : Dev) (n : Int), x.ok → (devF f d x n).ok ∧ (devF f d x n).zones.length = x.zones.length
 | 0, _, x, _, h => ⟨h, rfl⟩
 | f + 1, d, x, n, h => by
  simp only [devF]
  split
  ·obtain ⟨h1, h2⟩ := Qu2 f (cmdD d n) (cmdX d x n) n (Qu8 h d n)
   exact ⟨h1, h2.trans (QtO x d n)⟩
  ·exact ⟨h, rfl⟩
def oddD (x : Dev) (what at_ by_ : Int) : Dev :=
 if x.zones.length = 0 then x else
  let k := (modI at_ x.zones.length).toNat
  let z := x.zones.getD k default
  let m := modI what 9
  if m = 0 then { x with zones := x.zones.set k { z with state := IntKind.i64.wrap (modI by_ 8 - 1) } }
  else if m = 1 then { x with zones := x.zones.set k { z with durable := IntKind.i64.wrap (IntKind.i64.wrap (z.durable + modI by_ 5) - 2) } }
  else if m = 2 then { x with zones := x.zones.set k { z with sectors := z.sectors ++ [⟨#[120]⟩] } }
  else if m = 3 then { x with size := IntKind.i64.wrap (IntKind.i64.wrap (x.size + modI by_ 5) - 2) }
  else if m = 4 then { x with maxOpen := modI by_ 5 }
  else if m = 5 then { x with maxActive := modI by_ 6 }
  else if m = 6 then { x with zones := [] }
  else if m = 7 then { x with zones := x.zones.set k ⟨5, 0, []⟩ }
  else x
end Go.Am
namespace Go.Am
structure Zone.fits (z : Zone) : Prop where
 st : -9223372036854775808 ≤ z.state ∧ z.state ≤ 9223372036854775807
 du : -9223372036854775808 ≤ z.durable ∧ z.durable ≤ 9223372036854775807
def Dev.dur (d : Dev) : Prop := ∀ i, (d.zones.getD i default).durable ≤ 9223372036854775807
theorem Qoj : (default : Zone).durable ≤ 9223372036854775807 := by decide
theorem Dev.ok.dur {d : Dev} (h : d.ok) : d.dur := by
 intro i
 by_cases hi : i < d.zones.length
 ·have h1 := (h.all.get hi).dur
  have h2 := h.small.s i
  omega
 ·have : d.zones.getD i default = default := by simp [List.getD, Nat.le_of_not_lt hi]
  rw [this]
  exact Qoj
theorem QoR {l : List Zone} (h : ∀ i, (l.getD i default).durable ≤ 9223372036854775807) {k : Nat} {z : Zone} (hz : z.durable ≤ 9223372036854775807) (i : Nat) : ((l.set k z).getD i default).durable ≤ 9223372036854775807 := by
 by_cases c : i = k
 ·subst c
  by_cases hi : i < l.length
  ·have : (l.set i z).getD i default = z := by simp [List.getD, hi]
   rw [this]; exact hz
  ·rw [List.set_eq_of_length_le om]; exact h i
 ·have : (l.set k z).getD i default = l.getD i default := by
   simp only [List.getD]
   rw [List.getElem?_set_ne (Ne.symm c)]
  rw [this]; exact h i
theorem QoQ {l : List Zone} (h : ∀ i, (l.getD i default).sectors.length ≤ 10000000) {k : Nat} {z : Zone} (hz : z.sectors.length ≤ 10000000) (i : Nat) : ((l.set k z).getD i default).sectors.length ≤ 10000000 := by
 by_cases c : i = k
 ·subst c
  by_cases hi : i < l.length
  ·have : (l.set i z).getD i default = z := by simp [List.getD, hi]
   rw [this]; exact hz
  ·rw [List.set_eq_of_length_le om]; exact h i
 ·have : (l.set k z).getD i default = l.getD i default := by
   simp only [List.getD]
   rw [List.getElem?_set_ne (Ne.symm c)]
  rw [this]; exact h i
theorem Qof (x : Int) : IntKind.i64.wrap x ≤ 9223372036854775807 := by
 rw [IntKind.wrap_i64]; omega
theorem Qox {x : Dev} (h : x.ok) (what at_ by_ : Int) : (oddD x what at_ by_).small ∧ (oddD x what at_ by_).dur := by
 have hs := h.small
 have hd := h.dur
 have hsec : ∀ i, (x.zones.getD i default).sectors.length ≤ 64 := by
  intro i
  by_cases hi : i < x.zones.length
  ·have h1 := (h.all.get hi).len
   have h2 := (confOk_iff.1 h.conf).size
   omega
  ·have : x.zones.getD i default = default := by simp [List.getD, Nat.le_of_not_lt hi]
   rw [this]; exact Nat.zero_le _
 have hz := hs.z
 have key : ∀ (k : Nat) (z : Zone), z.sectors.length ≤ 10000000 → z.durable ≤ 9223372036854775807 → Dev.small { x with zones := x.zones.set k z } ∧ Dev.dur { x with zones := x.zones.set k z } := fun k z h1 h2 =>
  ⟨⟨by simpa using hz, QoQ hs.s h1⟩, QoR hd h2⟩
 have same : ∀ a b c : Int, Dev.small ⟨a, b, c, x.zones⟩ ∧ Dev.dur ⟨a, b, c, x.zones⟩ := fun _ _ _ => ⟨⟨hz, hs.s⟩, hd⟩
 unfold oddD
 split
 ·exact ⟨hs, hd⟩
 ·dsimp only
  repeat' split
  ·exact key _ _ (hs.s _) (hd _)
  ·exact key _ _ (hs.s _) (Qof _)
  ·refine key _ _ ?_ (hd _)
   have := hsec (modI at_ x.zones.length).toNat
   simp only [List.length_append, List.length_cons, List.length_nil]; omega
  ·exact same _ _ _
  ·exact same _ _ _
  ·exact same _ _ _
  ·exact ⟨⟨Nat.zero_le _, fun i => (by simp [List.getD]; exact Nat.zero_le _)⟩, fun i => (by simp [List.getD]; exact Qoj)⟩
  ·exact key _ _ (Nat.zero_le _) (by decide)
  ·exact ⟨hs, hd⟩
end Go.Am
end

section
open Go Go.Am
namespace Go.Proofs
set_option maxRecDepth 20000
theorem Qwo (d : Dev) (hd : d.small) (hw : ∀ i, (d.zones.getD i default).durable ≤ 9223372036854775807) : PS 15 [d.s] (.c (Qi (volL d.zones))) := by
 refine PSpec.rm ?_
 refine ov hΓ Tryz.func15 36 0 [.tmp 2] Tryz.ntmps15 Tryz.results15 ?_
 have hz := hd.z
 refine Go1 fun _h=>?_
 refine Lp.mkK hΓ (ι := Nat) [1] (fun k => [(4, .c (.int .i64 k)), (3, .c (.sl 1 1 d.zones.length d.zones.length true))]) (fun k => [.vr d.cells, .arr 3 1 d.zones.length (Qam .i64 (Qv8 volI d.zones k))]) (fun k => k ≤ d.zones.length) (fun k => d.zones.length - k) 0 (Nat.zero_le _) ?_ ?_
 ·refine Mv.k1 ?_
  intro i hi j hj
  exact WC.eq ((Qwl (n := d.zones.length) rfl i j hj).trans (by rw [Qw6])) rfl
 ·intro k hk
  refine Go1 fun _h=>?_
  refine Br.of (fun h1=>Go0 ?_) (fun h1=>Go0 ?_)
  ·have hlt : k < d.zones.length := by omega
   have hs := hd.s k
   refine Dr.mk hΓ hMix (by kernel_rfl) (Go0 ?_)
   refine ⟨k + 1, om, om, ?_⟩
   refine Mv.k1 ?_
   intro i hi j hj
   rw [← Qxe hlt]
   refine WC.eq ((QiQ (by rw [Qw9] <;> omega) i j hj).trans ?_) rfl
   have hwk := hw k
   simp only [Int.toNat_natCast]
   have e : max 0 (IntKind.i64.wrap (↑(d.zones.getD k default).sectors.length - max 0 (d.zones.getD k default).durable)) = volI (d.zones.getD k default) := by
    simp only [volI]
    rw [Qa _ om om]
    split <;> omega
   rw [e]
  ·have : k = d.zones.length := by omega
   subst this
   rw [Qw7]
   refine RM.fz 1 rfl (Nat.zero_le _) (fun _ _ _ _ => (by first | exact rfl | exact QaP _ _ | exact QbI _ _ _ | exact QiA _ _ _)) ?_; refine RM.wkW ?_ ?_ (Nat.zero_le _) <;> (first|exact wb0|refine wb1 ?_|refine wb2 ?_ ?_|refine wb3 ?_ ?_ ?_|refine wb4 ?_ ?_ ?_ ?_)
theorem Qwp : HB 15 := hB Tryz.func15
theorem Qw3 (z : Zone) (k : Int) : PS 131 [z.s, .c (.int .i64 k)] (QdC z).s := by
 refine PSpec.rm ?_
 refine ov hΓ Tryz.func131 10 0 [.cell 4 117] Tryz.ntmps131 Tryz.results131 ?_
 refine Go1 fun _h=>?_
 exact RM.i0
theorem Qw2 : HB 131 := hB Tryz.func131
theorem QwC (d : Dev) (keep : List Int) (f : Nat) (g : Zone → Int → Zone) (hb : HB f) (hf : check d = 0 → ∀ z ∈ d.zones, ∀ k, PS f [z.s, .c (.int .i64 k)] (g z k).s) :
  PS 130 [d.s, .c (Qi keep), .c (.fn (.func f) 0 (fun _ => .junk))] (Dev.out (if check d = 0 then { d with zones := tabL (fun i => g (d.zones.getD i default) (keep.getD i 0)) d.zones.length } else dev0) (check d)) := by
 refine PSpec.rm ?_
 refine ov hΓ Tryz.func130 52 0 [.cell 6 29, .tmp 7] Tryz.ntmps130 Tryz.results130 ?_
 conv=>whnf
 refine CallN.pure Qj1 (Qjg d ) (leA.refl rfl) rfl (Go0 ?_)
 refine Br.of (fun h1=>Go0 ?_) (fun h1=>Go1 fun _h=>?_)
 ·rw [if_neg h1]
  exact RM.i0
 ·have hz := (check_ok.1 h1).small.z
  refine Lp.mkK hΓ (ι := Nat) [23, 22, 9, 6, 3, 1, 2] (fun k => [(24, .c (.int .i64 k))]) (fun k => [.vr d.cells, .vr dev0.cells, .vr [.int .i64 d.size, .int .i64 d.maxOpen, .int .i64 d.maxActive, .sl 3 3 k k false], .arr 117 3 k (QaK (tabL (fun i => g (d.zones.getD i default) (keep.getD i 0)) k))])
   (fun k => k ≤ d.zones.length) (fun k => d.zones.length - k) 0 (Nat.zero_le _) ?_ ?_
  ·refine (Mv.reserveO 2 3 117 3 (QaK []) rfl rfl rfl rfl).trans ?_
   first | exact Mv.k0 | (refine Mv.k1 ?_; intro i hi j hj; omega)
  ·intro k hk
   refine Go0 ?_
   refine Br.of (fun h2=>Go1 fun _h=>?_) (fun h2=>Go0 ?_)
   ·have hlt : k < d.zones.length := by omega
    have hs := (check_ok.1 h1).small.s k
    have hf' := hf h1 (d.zones.getD k default) (by rw [QaM _ _ hlt]; exact List.getElem_mem hlt)
    have h0 : keep.length ≤ k → keep.getD k 0 = 0 := fun h => by simp [List.getD, h]
    refine Br.of (fun h3=>?_) (fun h3=>?_)<;>(try simp only [Int.toNat_natCast] at h3)<;>(conv=>whnf)
    ·refine Go0 ?_
     refine Dr.mvK [9, 24, 23, 22, 6, 3, 1, 2, 11] [(12, .c (.int .i64 (keep.getD k 0)))] [.vr d.cells, .vr dev0.cells, .vr [.int .i64 d.size, .int .i64 d.maxOpen, .int .i64 d.maxActive, .sl 3 3 k k false], .arr 117 3 k (QaK (tabL (fun i => g (d.zones.getD i default) (keep.getD i 0)) k)), .vr [.int .i64 (d.zones.getD k default).state, .int .i64 (d.zones.getD k default).durable, QbW (d.zones.getD k default).sectors]] ?_ ?_
     ·refine (Mv.fz 5 rfl (Nat.zero_le _) (fun _ _ _ _ => rfl)).trans ?_
      refine Mv.k1 ?_
      intro i hi j hj
      exact WC.fzImm (QbI _ _ _)
     ·refine Dr.mk hΓ hMix (by kernel_rfl) (Go0 ?_)
      refine CallP.mkW hb (hf' (keep.getD k 0)) wb0 rfl (Go0 ?_)
      refine ⟨k + 1, om, om, ?_⟩
      refine Mv.k1 ?_
      intro i hi j hj
      refine WC.eq ((Qwr (by simp) (by simpa using hi) hj).trans ?_) (QbI _ _ _)
      rw [Qs1]
    ·have e12 := h0 om
     refine Go0 ?_
     refine Dr.mvK [9, 24, 23, 22, 6, 3, 1, 2, 11] [(12, .c (.int .i64 (keep.getD k 0)))] [.vr d.cells, .vr dev0.cells, .vr [.int .i64 d.size, .int .i64 d.maxOpen, .int .i64 d.maxActive, .sl 3 3 k k false], .arr 117 3 k (QaK (tabL (fun i => g (d.zones.getD i default) (keep.getD i 0)) k)), .vr [.int .i64 (d.zones.getD k default).state, .int .i64 (d.zones.getD k default).durable, QbW (d.zones.getD k default).sectors]] ?_ ?_
     ·refine (Mv.fz 5 rfl (Nat.zero_le _) (fun _ _ _ _ => rfl)).trans ?_
      refine Mv.k1 ?_
      intro i hi j hj
      exact WC.fzImm (QbI _ _ _)
     ·refine Dr.mk hΓ hMix (by kernel_rfl) (Go0 ?_)
      refine CallP.mkW hb (hf' (keep.getD k 0)) wb0 rfl (Go0 ?_)
      refine ⟨k + 1, om, om, ?_⟩
      refine Mv.k1 ?_
      intro i hi j hj
      refine WC.eq ((Qwr (by simp) (by simpa using hi) hj).trans ?_) (QbI _ _ _)
      rw [Qs1]
   ·have : k = d.zones.length := by omega
    subst this
    rw [if_pos h1, h1]
    refine RM.fz 3 rfl (Nat.zero_le _) (fun _ _ _ _ => (by first | exact rfl | exact QaP _ _ | exact QbI _ _ _ | exact QiA _ _ _)) ?_; refine RM.wkW ?_ ?_ (Nat.zero_le _) <;> (first|exact wb0|refine wb1 ?_|refine wb2 ?_ ?_|refine wb3 ?_ ?_ ?_|refine wb4 ?_ ?_ ?_ ?_)
theorem QwD : HB 130 := hB Tryz.func130
theorem Qxb (d : Dev) (hd : d.small) : PS 50 [d.s] (Dev.out (Qbn d) (check d)) := by
 refine PSpec.rm ?_
 refine ov hΓ Tryz.func50 14 0 [.cell 2 29, .tmp 3] Tryz.ntmps50 Tryz.results50 ?_
 have hz := hd.z
 refine Go1 fun _h=>?_
 refine CallN.fzK 2 [] [(2, .c (.ptr 1 0)), (4, .u)] [.vr d.cells, .vr dev0.cells] [d.s, .c (Qi (List.replicate d.zones.length 0)), .c (.fn (.func 131) 0 fun _ => .junk)] rfl (Nat.zero_le _) (fun i _ j hj => ?_) ?_ ?_ ?_ leN ?_
 ·exact congrArg C.imm (Qwl (q := .i64) (n := d.zones.length) rfl i j hj)
 ·exact wb0
 ·exact wb0
 ·refine wb1 ?_
  refine WC.fz rfl (by simp) (fun i _ j hj => leF.of_eq (Qwl rfl i j hj)) (fun e => by cases e)
 ·refine CallN.pureA QwD (QwC d _ _ (fun z _ => QdC z) Qw2 (fun h z hz k => Qw3 z k)) (Go0 ?_)
  have e : Qbn d = (if check d = 0 then { d with zones := tabL (fun i => QdC (d.zones.getD i default)) d.zones.length } else dev0) := by
   simp only [Qbn, QnV]
  rw [e]
  exact RM.i0
theorem Qxa : HB 50 := hB Tryz.func50
theorem QgZ (d : Dev) (hd : d.small) : PS 95 [d.s] (Dev.out (Qbn d) (check d)) := by
 refine PSpec.rm ?_
 refine ov hΓ Tryz.func95 37 0 [.cell 2 29, .tmp 3] Tryz.ntmps95 Tryz.results95 ?_
 conv=>whnf
 refine CallN.pure Qb2 (QbZ d ) (leA.refl rfl) rfl (Go0 ?_)
 refine Br.of (fun h1=>?_) (fun h1=>?_)<;>(try simp only [Int.toNat_natCast] at h1)<;>(conv=>whnf)
 ·refine Go0 ?_
  rw [show Qbn d = dev0 from if_neg h1]
  exact RM.i0
 ·have hz := hd.z
  refine Go0 ?_
  refine Lp.mkK hΓ (ι := Nat) [2, 1] (fun k => [(5, .c (.int .i64 k))]) (fun k => [.vr [.int .i64 d.size, .int .i64 d.maxOpen, .int .i64 d.maxActive, .sl 2 3 d.zones.length d.zones.length false], .vr dev0.cells, .arr 117 3 d.zones.length (QaK (updL QdC d.zones k))]) (fun k => k ≤ d.zones.length) (fun k => d.zones.length - k) 0 (Nat.zero_le _) ?_ ?_
  ·refine Mv.k1 ?_
   intro i hi j hj
   exact WC.eq ((Qlx (f := Zone.cell) j).trans (by first | (rw [updI_zero]; rfl) | (rw [updL_zero]; rfl))) (QbI _ _ _)
  ·intro k hk
   refine Go0 ?_
   refine Br.of (fun h2=>Go0 ?_) (fun h2=>Go0 ?_)
   ·have hlt : k < d.zones.length := by omega
    refine Dr.mk hΓ hMix (by kernel_rfl) (Go0 ?_)
    have hg : (updL QdC d.zones k).getD k default = d.zones.getD k default := Que (Nat.le_refl _) hlt
    refine Frc.mk (.c (QbW (d.zones.getD k default).sectors)) (congrArg (fun z : Zone => S.c (QbW z.sectors)) hg) (Go0 ?_)
    refine ⟨k + 1, om, om, ?_⟩
    refine Mv.k1 ?_
    intro i hi j hj
    refine WC.eq ((Qqk (by simpa using hlt) _ i j hj).trans ?_) (QbI _ _ _)
    rw [Int.toNat_natCast, hg]
    exact congrArg (fun l => QaK l i j) (Qus (f := fun _ => QdC) hlt)
   ·have : k = d.zones.length := by omega
    subst this
    rw [Qul, show Qbn d = { d with zones := d.zones.map QdC } from if_pos h1, h1]
    refine RM.fz 2 rfl (Nat.zero_le _) (fun _ _ _ _ => (by first | exact rfl | exact QaP _ _ | exact QbI _ _ _ | exact QiA _ _ _)) ?_; refine RM.wkW ?_ ?_ (Nat.zero_le _) <;> (first|exact wb0|refine wb1 ?_|refine wb2 ?_ ?_|refine wb3 ?_ ?_ ?_|refine wb4 ?_ ?_ ?_ ?_)
theorem Qg2 : HB 95 := hB Tryz.func95
theorem QqQ (n : Int) : PS 63 [.c (.int .i64 n)] (.c (.str (QdH n))) := by
 refine PSpec.rm ?_
 refine ov0 hΓ Tryz.func63 30 0 [.tmp 2] Tryz.ntmps63 Tryz.results63 ?_
 refine Lp.mkK hΓ (ι := Nat) [0] (fun k => [(4, .c (.int .i64 k)), (3, .c (.sl 0 1 16 16 true))]) (fun k => [.arr 5 1 16 (genG (fun i => if i < k then QnY n i else 0))]) (fun k => k ≤ 16) (fun k => 16 - k) 0 (Nat.zero_le _) ?_ ?_
 ·refine Mv.k1 ?_
  intro i hi j hj
  have hj' : j < 1 := hj
  have : j = 0 := by omega
  subst this
  exact WC.eq (by simp [Qbo, QW, lget, getL, genG, Z.toC]) rfl
 ·intro k hk
  refine Go0 ?_
  refine Br.of (fun h1=>Go0 ?_) (fun h1=>Go0 ?_)
  ·refine CallN.pureA QeW (QeY _ _ ) (Go0 ?_)
   refine ⟨k + 1, om, om, ?_⟩
   refine Mv.k1 ?_
   intro i hi j hj
   refine WC.eq ((QgE i j hj).trans ?_) rfl
   simp only [genG, Int.toNat_natCast]
   congr 1
   by_cases c : i = k
   ·subst c
    rw [if_pos rfl, if_pos om]; rfl
   ·rw [if_neg c]
    by_cases c2 : i < k
    ·rw [if_pos c2, if_pos om]
    ·rw [if_neg c2, if_neg om]
  ·have : k = 16 := by omega
   subst this
   refine CallN.pureA QeW (QeY _ _ ) (Go0 ?_)
   refine Need.mk (fun i hi => ⟨_, QgE i 0 (by decide)⟩) (Go0 ?_)
   exact RM.i0
theorem Qrq : HB 63 := hB Tryz.func63
theorem QoD (d : DiceM) (hd : d.ok) (blocks version : Int) : CS 206 [.c (.ptr 0 0), .c (.int .i64 blocks), .c (.int .i64 version)] [.vr d.cells] fun s H => s = (recR d blocks version).s ∧ H = [.vr (recD d).cells] := by
 refine CSpec.rm ?_
 refine ov0 hΓ Tryz.func206 22 1 [.cell 6 178] Tryz.ntmps206 Tryz.results206 ?_
 refine CallN.autoQ [0] Ql (Qm d hd blocks) (Go0 ?_)
 refine CallN.autoQ [0] Ql (Qm d.step hd.step 200) (Go0 ?_)
 refine CallN.pure Qrq (QqQ _ ) (leA.refl rfl) rfl (Go0 ?_)
 refine CallN.autoQ [0] Ql (Qm d.step.step hd.step.step 4) (Go0 ?_)
 refine Br.of (fun h=>Go0 ?_) (fun h=>Go0 ?_)
 ·refine ⟨_, _, RM.wkW (H' := [.vr (recD d).cells]) (s' := (recR d blocks version).s) ?_ ?_ (Nat.le_refl _), rfl, rfl⟩
  ·exact wb0
  ·rw [show recR d blocks version = ⟨2, d.next blocks, version, 0, ByteArray.empty⟩ from if_pos h]
   exact wb0
 ·refine ⟨_, _, RM.wkW (H' := [.vr (recD d).cells]) (s' := (recR d blocks version).s) ?_ ?_ (Nat.le_refl _), rfl, rfl⟩
  ·exact wb0
  ·rw [show recR d blocks version = ⟨1, d.next blocks, version, 0, QdH (d.step.next 200)⟩ from if_neg h]
   exact wb0
theorem Qoi : HB 206 := hB Tryz.func206
end Go.Proofs
end
