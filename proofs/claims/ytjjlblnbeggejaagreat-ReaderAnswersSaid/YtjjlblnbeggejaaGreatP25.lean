/- Contracts, lemmas; no condition. -/
import Derived.Test.YtjjlblnbeggejaaGreatP20
import Derived.Test.YtjjlblnbeggejaaGreatP24
import Derived.Test.YtjjlblnbeggejaaGreatP21
import Derived.Test.YtjjlblnbeggejaaGreatP23
set_option linter.all false
section
namespace Go.Am
variable {z : Zone} {l : List Zone} {i zone : Nat} {d : Dev}
structure RightZ (z : Zone) (size : Int) : Prop where
 st : 0 ≤ z.state ∧ z.state ≤ 5
 len : (z.sectors.length : Int) ≤ size
 dur : 0 ≤ z.durable ∧ z.durable ≤ z.sectors.length
 emp : z.state = 0 ∨ z.state = 5 → z.sectors.length = 0
 full : z.state = 4 → z.durable = z.sectors.length
 part : z.state ≠ 0 → z.state ≠ 4 → z.state ≠ 5 → (z.sectors.length : Int) < size
 secs : ∀ s ∈ z.sectors, s.size = 40
theorem right_iff {size : Int} : right z size = true ↔ RightZ z size := by
 simp only [right, QxA, Qxw, QbX, Qx2]
 constructor
 ·rintro ⟨⟨h1, h2, h3, h4, h5, h6, h7, h8⟩, h9⟩
  exact ⟨⟨h1, h2⟩, h3, ⟨h4, h5⟩, h6, h7, h8, h9⟩
 ·rintro ⟨⟨h1, h2⟩, h3, ⟨h4, h5⟩, h6, h7, h8, h9⟩
  exact ⟨⟨h1, h2, h3, h4, h5, h6, h7, h8⟩, h9⟩
theorem Qhn (p : Zone → Bool) (z : Zone) : ∀ (l : List Zone) (i : Nat), i < l.length → ((l.set i z).filter p).length + (if p (l.getD i default) = true then 1 else 0) = (l.filter p).length + (if p z = true then 1 else 0)
 | [], i, h => by simp at h
 | x :: r, 0, _ => by
  simp only [List.set_cons_zero, List.filter_cons, List.getD_cons_zero]
  by_cases h1 : p x = true <;> by_cases h2 : p z = true <;> simp [h1, h2]
 | x :: r, i + 1, h => by
  have ih := Qhn p z r i (by simpa using h)
  simp only [List.set_cons_succ, List.filter_cons, List.getD_cons_succ]
  by_cases h1 : p x = true
  ·rw [Qxt h1, Qxt h1, QxR, QxR]; omega
  ·rw [Qxu h1, Qxu h1]; exact ih
theorem Qe7 (h : i < l.length) (z : Zone) : QH (l.set i z) + (if QF (l.getD i default).state = true then 1 else 0) = QH l + (if QF z.state = true then 1 else 0) := Qhn (fun z => QF z.state) z l i h
theorem QdZ (h : i < l.length) (z : Zone) : Qi (l.set i z) + (if QP (l.getD i default).state = true then 1 else 0) = Qi l + (if QP z.state = true then 1 else 0) := Qhn (fun z => QP z.state) z l i h
def AllR (l : List Zone) (size : Int) : Prop := ∀ z ∈ l, RightZ z size
theorem Dev.ok.all (h : d.ok) : AllR d.zones d.size := fun z hz => right_iff.1 (h.zones z hz)
theorem AllR.get {size : Int} (h : AllR l size) (hi : i < l.length) : RightZ (l.getD i default) size := by
 rw [QcQ _ _ hi]; exact h _ (Qx0 hi)
theorem AllR.set {l : List Zone} {size : Int} (h : AllR l size) {i : Nat} {z : Zone} (hz : RightZ z size) : AllR (l.set i z) size := by
 intro x hx
 rcases List.mem_or_eq_of_mem_set hx with h1 | h1
 ·exact h x h1
 ·rw [h1]; exact hz
structure Dev.conf3 (d : Dev) : Prop where
 n : 1 ≤ d.zones.length ∧ d.zones.length ≤ 32
 size : 3 ≤ d.size ∧ d.size ≤ 64
 op : 1 ≤ d.maxOpen ∧ d.maxOpen ≤ d.maxActive ∧ d.maxActive ≤ d.zones.length
theorem confOk_iff : Qbg d = true ↔ d.conf3 := by
 simp only [Qbg, Qxw]
 constructor
 ·rintro ⟨h1, h2, h3, h4, h5, h6, h7⟩
  exact ⟨⟨h1, h2⟩, ⟨h3, h4⟩, h5, h6, h7⟩
 ·rintro ⟨⟨h1, h2⟩, ⟨h3, h4⟩, h5, h6, h7⟩
  exact ⟨h1, h2, h3, h4, h5, h6, h7⟩
theorem Dev.ok.with (h : d.ok) (hn : l.length = d.zones.length) (hr : AllR l d.size) (ho : (QH l : Int) ≤ d.maxOpen) (ha : (Qi l : Int) ≤ d.maxActive) : Dev.ok { d with zones := l } := by
 refine ⟨?_, fun z hz => right_iff.2 (hr z hz), ho, ha⟩
 have := confOk_iff.1 h.conf
 refine confOk_iff.2 ⟨?_, this.size, ?_⟩
 ·dsimp only; rw [hn]; exact this.n
 ·dsimp only; rw [hn]; exact this.op
theorem isOpen_iff {n : Int} : QF n = true ↔ n = 1 ∨ n = 2 := by simp [QF]
theorem isActive_iff {n : Int} : QP n = true ↔ n = 1 ∨ n = 2 ∨ n = 3 := by simp [QP]
theorem RightZ.shut {size : Int} (h : RightZ z size) (ho : QF z.state = true) : RightZ (QaM z) size := by
 have ho' := isOpen_iff.1 ho
 unfold QaM
 by_cases c : z.sectors.length = 0
 ·rw [Qxt c]
  exact ⟨by dsimp only; omega, h.len, h.dur, fun _ => c, fun e => (by cases e), fun e => absurd rfl e, h.secs⟩
 ·rw [Qxu c]
  exact ⟨by dsimp only; omega, h.len, h.dur, fun e => by dsimp only at e; omega, fun e => (by cases e), fun _ _ _ => h.part om om om, h.secs⟩
theorem Qqi (z : Zone) : QF (QaM z).state = false ∧ ((QaM z).state = 0 ∨ (QaM z).state = 3) := by
 unfold QaM
 split
 ·exact ⟨rfl, .inl rfl⟩
 ·exact ⟨rfl, .inr rfl⟩
theorem Qpj (hi : i < l.length) (ho : QF (l.getD i default).state = true) : QH (QD l i) + 1 = QH l ∧ Qi (QD l i) ≤ Qi l := by
 have e1 := Qe7 hi (QaM (l.getD i default))
 have e2 := QdZ hi (QaM (l.getD i default))
 have hs := (Qqi (l.getD i default)).1
 rw [Qxt ho, Qxu (by rw [hs]; decide)] at e1
 have ha : QP (l.getD i default).state = true := by
  have := isOpen_iff.1 ho
  exact isActive_iff.2 om
 rw [Qxt ha] at e2
 refine ⟨e1, ?_⟩
 have : Qi (QD l i) + 1 = Qi l + (if QP (QaM (l.getD i default)).state = true then 1 else 0) := e2
 split at this <;> omega
structure RoomOk (d : Dev) (zone : Nat) (l : List Zone) : Prop where
 len : l.length = d.zones.length
 all : AllR l d.size
 op : (QH l : Int) + 1 ≤ d.maxOpen
 act : (l.getD zone default).state = 3 ∧ (Qi l : Int) ≤ d.maxActive ∨ (Qi l : Int) + 1 ≤ d.maxActive
theorem Qt3 (h : d.ok) (hr : (Qe d zone).1 = 0) : RoomOk d zone (Qe d zone).2 := by
 have h1 := h.op
 have h2 := h.act
 by_cases c : d.maxOpen ≤ QH d.zones
 ·by_cases c2 : Ql d.zones < d.zones.length
  ·have hs := QeT _ c2
   have ho : QF (d.zones.getD (Ql d.zones) default).state = true := isOpen_iff.2 (.inl hs)
   obtain ⟨e1, e2⟩ := Qpj c2 ho
   have e : Qe d zone = if ((QD d.zones (Ql d.zones)).getD zone default).state ≠ 3 ∧ d.maxActive ≤ Qi (QD d.zones (Ql d.zones)) then (9, QD d.zones (Ql d.zones)) else (0, QD d.zones (Ql d.zones)) := by
    simp only [Qe]
    rw [Qxt c, Qxt c2]
   rw [e] at hr ⊢
   split at hr
   ·cases hr
   ·rename_i c3
    rw [Qxu c3]
    refine ⟨Qga _ _, h.all.set ((h.all.get c2).shut ho), by dsimp only; omega, ?_⟩
    dsimp only
    by_cases c4 : ((QD d.zones (Ql d.zones)).getD zone default).state = 3
    ·exact .inl ⟨c4, om⟩
    ·right; omega
  ·have e : Qe d zone = (8, d.zones) := by
    simp only [Qe]
    rw [Qxt c, Qxu c2]
   rw [e] at hr
   cases hr
 ·have e : Qe d zone = if (d.zones.getD zone default).state ≠ 3 ∧ d.maxActive ≤ Qi d.zones then (9, d.zones) else (0, d.zones) := by
   simp only [Qe]
   rw [Qxu c]
  rw [e] at hr ⊢
  split at hr
  ·cases hr
  ·rename_i c3
   rw [Qxu c3]
   refine ⟨rfl, h.all, by dsimp only; omega, ?_⟩
   dsimp only
   by_cases c4 : (d.zones.getD zone default).state = 3
   ·exact .inl ⟨c4, om⟩
   ·right; omega
theorem Qsm (h : d.ok) (hk : zone < d.zones.length) (hr : QF (d.zones.getD zone default).state = true ∨ (Qe d zone).1 = 0) :
  (Qal d zone).length = d.zones.length ∧ AllR (Qal d zone) d.size ∧ (∀ z : Zone, (QH ((Qal d zone).set zone z) : Int) ≤ d.maxOpen) ∧ (∀ z : Zone, (Qi ((Qal d zone).set zone z) : Int) ≤ d.maxActive) := by
 have h1 := h.op
 have h2 := h.act
 unfold Qal
 by_cases c : QF (d.zones.getD zone default).state = true
 ·rw [Qxt c]
  have ha : QP (d.zones.getD zone default).state = true := by
   have := isOpen_iff.1 c
   exact isActive_iff.2 om
  refine ⟨rfl, h.all, fun z => ?_, fun z => ?_⟩
  ·have e := Qe7 hk z
   rw [Qxt c] at e
   split at e <;> omega
  ·have e := QdZ hk z
   rw [Qxt ha] at e
   split at e <;> omega
 ·rw [Qxu c]
  have hr0 := hr.resolve_left c
  have R := Qt3 h hr0
  have hk' : zone < (Qe d zone).2.length := by rw [R.len]; exact hk
  refine ⟨R.len, R.all, fun z => ?_, fun z => ?_⟩
  ·have e := Qe7 hk' z
   have := R.op
   split at e <;> split at e <;> omega
  ·have e := QdZ hk' z
   rcases R.act with ⟨a1, a2⟩ | a1
   ·rw [Qxt (isActive_iff.2 om)] at e
    split at e <;> omega
   ·split at e <;> split at e <;> omega
theorem Qkj (d : Dev) (zone k : Nat) : ((Qal d zone).getD k default).sectors = (d.zones.getD k default).sectors := by
 unfold Qal
 split
 ·rfl
 ·exact QdY d zone k
theorem Qkq (d : Dev) (zone : Nat) : (Qal d zone).length = d.zones.length := by
 unfold Qal
 split
 ·rfl
 ·exact QgF d zone
theorem Qo8 (hi : i < l.length) (k : Nat) : ((QD l i).getD k default).durable = (l.getD k default).durable := by
 simp only [QD]
 by_cases c : k = i
 ·subst c
  simp [List.getD, hi, QaM]
 ·simp only [List.getD]
  rw [Qym (QyL c)]
theorem Qr8 (d : Dev) (zone k : Nat) : ((Qe d zone).2.getD k default).durable = (d.zones.getD k default).durable := by
 simp only [Qe]
 split
 ·rfl
 ·rename_i l h
  have : (l.getD k default).durable = (d.zones.getD k default).durable := by
   split at h
   ·split at h
    ·rename_i h2
     cases h; exact Qo8 h2 _
    ·cases h
   ·cases h; rfl
  split <;> exact this
theorem QqM (d : Dev) (zone k : Nat) : ((Qal d zone).getD k default).durable = (d.zones.getD k default).durable := by
 unfold Qal
 split
 ·rfl
 ·exact Qr8 d zone k
theorem Que {zone : Int} (h : QG d zone = 0) : (d.zones.getD zone.toNat default).state ≠ 5 := by
 intro h5
 obtain ⟨hok, h0, h1⟩ := QcA h
 have : QG d zone = 6 := by
  simp only [QG, check_ok.2 hok, Qxt, Qxz (show 0 ≤ zone ∧ zone < d.zones.length from ⟨h0, h1⟩), Qxt h5]
 omega
theorem QgW {zone : Int} {s : ByteArray} (he : Qj d zone s = 0) : QG d zone = 0 ∧ s.size = 40 ∧ (d.zones.getD zone.toNat default).state ≠ 4 ∧ (QF (d.zones.getD zone.toNat default).state = true ∨ (Qe d zone.toNat).1 = 0) := by
 unfold Qj at he
 split at he
 ·rename_i hc
  split at he
  ·rename_i hr
   split at he
   ·rename_i hs
    split at he
    ·cases he
    ·rename_i h5
     split at he
     ·cases he
     ·rename_i h4
      have hb : QG d zone = 0 := by simp only [QG, hc, Qxt, hr, Qxu h5]
      split at he
      ·exact ⟨hb, hs, h4, .inl (by assumption)⟩
      ·exact ⟨hb, hs, h4, .inr he⟩
   ·cases he
  ·cases he
 ·exact absurd he (by assumption)
theorem QkV (h : d.ok) (zone : Int) (s : ByteArray) : (Qf d zone s).ok := by
 unfold Qf
 split
 ·rename_i he
  obtain ⟨hb, hs, h4, hr⟩ := QgW he
  obtain ⟨_, h0, h1⟩ := QcA hb
  have h5 := Que hb
  have hk : zone.toNat < d.zones.length := by omega
  obtain ⟨o1, o2, o3, o4⟩ := Qsm h hk hr
  refine h.with (by simp [o1]) (o2.set ?_) (o3 _) (o4 _)
  have hz := h.all.get hk
  have hsz := (confOk_iff.1 h.conf).size
  have e := Qkj d zone.toNat zone.toNat
  have e2 := QqM d zone.toNat zone.toNat
  have hlt : ((d.zones.getD zone.toNat default).sectors.length : Int) < d.size := by
   by_cases c : (d.zones.getD zone.toNat default).state = 0
   ·have := hz.emp (.inl c); omega
   ·exact hz.part c h4 h5
  have hsec : ∀ t ∈ ((Qal d zone.toNat).getD zone.toNat default).sectors ++ [s], t.size = 40 := by
   intro t ht
   rcases Qyc.1 ht with ht | ht
   ·rw [e] at ht; exact hz.secs t ht
   ·rw [Qyy.1 ht]; exact hs
  have hd := hz.dur
  unfold grow
  split
  ·rename_i hf
   rw [e] at hf
   refine ⟨by dsimp only; omega, ?_, ?_, fun e => by dsimp only at e; omega, fun _ => ?_, fun _ e => absurd rfl e, hsec⟩ <;> (dsimp only; rw [QxL, e]; simp only [QxR, Qx5]; omega)
  ·rename_i hf
   rw [e] at hf
   have hst : ∀ n : Int, (if QF n = true then n else 1) = 1 ∨ (if QF n = true then n else 1) = 2 := by
    intro n
    split
    ·rename_i ho; exact isOpen_iff.1 ho
    ·exact .inl rfl
   have hst := hst ((Qal d zone.toNat).getD zone.toNat default).state
   refine ⟨by dsimp only; omega, ?_, ?_, fun e => by dsimp only at e; omega, fun e => by dsimp only at e; omega, fun _ _ _ => ?_, hsec⟩ <;> (dsimp only; rw [QxL, e]; try rw [e2]) <;> (simp only [QxR, Qx5]; omega)
 ·exact h
theorem Qqm {size : Int} (h : RightZ z size) : RightZ (QcF z) size :=
 ⟨h.st, h.len, ⟨Int.natCast_nonneg _, QyD _⟩, h.emp, fun _ => rfl, h.part, h.secs⟩
theorem Ql0 (l : List Zone) : QH (l.map QcF) = QH l ∧ Qi (l.map QcF) = Qi l := by
 simp only [QH, Qi, List.filter_map, Qy7]
 exact ⟨rfl, rfl⟩
theorem Qiz (h : d.ok) : Dev.ok { d with zones := d.zones.map QcF } := by
 refine h.with (by simp) ?_ (by rw [(Ql0 _).1]; exact h.op) (by rw [(Ql0 _).2]; exact h.act)
 intro z hz
 obtain ⟨x, hx, rfl⟩ := Qyj.1 hz
 exact Qqm (h.all x hx)
theorem Qa7 (d : Dev) (z : Int) (s : ByteArray) : (Qf d z s).zones.length = d.zones.length := by unfold Qf; split <;> simp [Qkq]
end Go.Am
namespace Go.Am
end Go.Am
end

section
open Go Go.Am
namespace Go.Proofs
set_option maxRecDepth 20000
variable {l : List Ent} {e : Ent} {n g : Int} {i : Nat} {m : List (List Ent)} {s : St} {d : Dev} {p : List Int} {r : List Ret}
theorem Qi4 (h1 : ∀ e ∈ l, QaQ e = true) (h2 : Asc l) : QM l = true := by
 unfold QM
 rw [Qxw]
 intro i hi
 refine ⟨by rw [Qu _ _ hi]; exact h1 _ (Qx0 hi), fun h0 => h2.get om hi⟩
theorem Qdw (h : QM l = true) (he : e ∈ l) : QaQ e = true := by
 unfold QM at h
 rw [Qxw] at h
 obtain ⟨i, hi, rfl⟩ := QxP he
 have := (h i hi).1
 rwa [Qu _ _ hi] at this
theorem inStripe_mem {n : Nat} : Qan l n i = true ↔ ∀ x ∈ l, x.block.tmod n = i := by
 unfold Qan
 rw [Qxw]
 constructor
 ·intro h x hx
  obtain ⟨k, hk, rfl⟩ := QxP hx
  have := h k hk
  rwa [Qu _ _ hk] at this
 ·intro h k hk
  rw [Qu _ _ hk]
  exact h _ (Qx0 hk)
theorem Qf2 {x : Ent} (h : x ∈ putE l e) : x = e ∨ x ∈ l := by
 unfold putE at h
 rcases Qyc.1 h with h | h
 ·exact Or.inr (Qy9 h)
 ·rcases Qyf.1 h with h | h
  ·exact Or.inl h
  ·exact Or.inr (List.mem_of_mem_drop h)
theorem Qso (h : Asc l) : Asc (putE l e) := by
 have hp := QdU l e.block
 have lo : ∀ i, i < Qo l e.block → (l.getD i default).block < e.block := fun i hi => Qr2 hi
 have hi : ∀ i, (if hasM l e.block = true then Qo l e.block + 1 else Qo l e.block) ≤ i → i < l.length → e.block < (l.getD i default).block := by
  intro i h1 h2
  by_cases c : hasM l e.block = true
  ·rw [Qxt c] at h1
   unfold hasM at c
   rw [Qxw] at c
   have := h.get (i := Qo l e.block) (j := i) om h2
   omega
  ·rw [Qxu c] at h1
   have hlt : Qo l e.block < l.length := by omega
   have hge := Qre hlt
   unfold hasM at c
   rw [Qxw] at c
   by_cases q : i = Qo l e.block
   ·subst q
    have : (l.getD (Qo l e.block) default).block ≠ e.block := fun z => c ⟨hlt, z⟩
    omega
   ·have := h.get (i := Qo l e.block) (j := i) om h2
    omega
 unfold putE
 generalize hk : (if hasM l e.block = true then Qo l e.block + 1 else Qo l e.block) = k at *
 have hkp : Qo l e.block ≤ k := by rw [← hk]; split <;> omega
 refine List.pairwise_append.2 ⟨Qy6 (List.take_sublist _ _) h, ?_, ?_⟩
 ·refine List.pairwise_cons.2 ⟨fun x hx => ?_, Qy6 (List.drop_sublist _ _) h⟩
  obtain ⟨i, hi', rfl⟩ := QxP hx
  rw [Qyn] at hi'
  have := hi (k + i) om om
  rw [Qu _ _ om] at this
  simpa using this
 ·intro a ha b hb
  obtain ⟨i, hi', rfl⟩ := QxP ha
  rw [QxO] at hi'
  have hl := lo i om
  rw [Qu _ _ om] at hl
  have ea : (l.take (Qo l e.block))[i]'(by rw [QxO]; omega) = l[i]'om := by simp
  rw [ea]
  rcases Qyf.1 hb with rfl | hb
  ·exact hl
  ·obtain ⟨j, hj, rfl⟩ := QxP hb
   rw [Qyn] at hj
   have := hi (k + j) om om
   rw [Qu _ _ om] at this
   simp only [List.getElem_drop]
   omega
theorem QkK (h : Qx m = true) (h1 : QM l = true) (h2 : ∀ x ∈ l, x.block.tmod m.length = i) : Qx (m.set i l) = true := by
 have hl := Qbw h
 unfold Qx
 rw [QxA, Qxw, Qxw, QxT]
 refine ⟨hl, fun k hk => ?_⟩
 by_cases c : i < m.length
 ·rw [QbA c]
  split
  ·rename_i e; subst e; exact ⟨h1, inStripe_mem.2 h2⟩
  ·exact Qch h hk
 ·rw [List.set_eq_of_length_le om]
  exact Qch h hk
theorem blocksIn_iff : QaJ m n = true ↔ ∀ i, i < m.length → ∀ e ∈ m.getD i default, e.block < n := by
 unfold QaJ
 rw [Qxw]
 refine forall_congr' fun i => forall_congr' fun hi => ⟨fun h e he => ?_, fun h k hk => ?_⟩
 ·obtain ⟨k, hk, rfl⟩ := QxP he
  have := h k hk
  rwa [Qu _ _ hk] at this
 ·rw [Qu _ _ hk]
  exact h _ (Qx0 hk)
theorem QgU (h : QaJ m n = true) (hl : ∀ e ∈ l, e.block < n) : QaJ (m.set i l) n = true := by
 rw [blocksIn_iff] at h ⊢
 intro k hk e he
 rw [QxT] at hk
 by_cases c : i < m.length
 ·rw [QbA c] at he
  split at he
  ·exact hl e he
  ·exact h k hk e he
 ·rw [List.set_eq_of_length_le om] at he
  exact h k hk e he
structure MapKeep (m m' : List (List Ent)) (n : Int) : Prop where
 ok : Qx m' = true
 len : m'.length = m.length
 blocks : QaJ m' n = true
theorem Qpr (h : Qx m = true) (hb : QaJ m n = true) (e : Ent) (he : e.block < n) : MapKeep m (Qax m e).1 n := by
 unfold Qax
 split
 ·rename_i c
  have hlt := Qd4 h c.2
  have hg := Qch h hlt
  have hst := inStripe_mem.1 hg.2
  split
  ·rename_i c2
   have hi : QaP (m.getD (QE m e.block) default) e = (putE (m.getD (QE m e.block) default) e, (QO (m.getD (QE m e.block) default) e.block).1, true) ∧ QaQ e = true := by
    unfold QaP at c2 ⊢
    rw [Qxt hg.1] at c2 ⊢
    by_cases q : QaQ e = true
    ·rw [Qxt q] at c2 ⊢
     by_cases q2 : (QO (m.getD (QE m e.block) default) e.block).2 = true ∧ e.version ≤ (QO (m.getD (QE m e.block) default) e.block).1.version
     ·rw [Qxt q2] at c2; cases c2
     ·rw [Qxu q2]; exact ⟨rfl, q⟩
    ·rw [Qxu q] at c2; cases c2
   rw [hi.1]
   refine ⟨QkK h (Qi4 (fun x hx => ?_) (Qso (QeS hg.1))) (fun x hx => ?_), QxT, QgU hb fun x hx => ?_⟩
   ·rcases Qf2 hx with rfl | hx
    ·exact hi.2
    ·exact Qdw hg.1 hx
   ·rcases Qf2 hx with rfl | hx
    ·exact (QhX h c.2).symm
    ·exact hst x hx
   ·rcases Qf2 hx with rfl | hx
    ·exact he
    ·exact blocksIn_iff.1 hb _ hlt x hx
  ·exact ⟨h, rfl, hb⟩
 ·exact ⟨h, rfl, hb⟩
theorem Qr0 (h : Qx m = true) (hb : QaJ m n = true) (b v fz fo tz zto move : Int) : MapKeep m (relM m b v fz fo tz zto move).1 n := by
 unfold relM
 split
 ·rename_i c
  have hlt := Qd4 h c.2
  have hg := Qch h hlt
  have hst := inStripe_mem.1 hg.2
  split
  ·rename_i c2
   generalize hl : m.getD (QE m b) default = l at *
   have hi : relE l b v fz fo tz zto move = (l.set (Qo l b) { (QO l b).1 with zone := tz, offset := zto, move := move }, true) ∧ ((QO l b).2 = true ∧ 0 ≤ tz ∧ 0 ≤ zto ∧ 0 ≤ move ∧ move ≤ 255) := by
    unfold relE at c2 ⊢
    rw [Qxt hg.1] at c2 ⊢
    by_cases q : (QO l b).2 = true ∧ (QO l b).1.version = v ∧ (QO l b).1.zone = fz ∧ (QO l b).1.offset = fo ∧ 0 ≤ tz ∧ 0 ≤ zto ∧ 0 ≤ move ∧ move ≤ 255
    ·rw [Qxt q]; exact ⟨rfl, q.1, q.2.2.2.2⟩
    ·rw [Qxu q] at c2; cases c2
   have hf : Qo l b < l.length ∧ (QO l b).1 = l.getD (Qo l b) default := by
    have h2 := hi.2.1
    unfold QO at h2 ⊢
    by_cases q : QM l = true ∧ hasM l b = true
    ·rw [Qxt q]
     have := q.2
     unfold hasM at this
     rw [Qxw] at this
     exact ⟨this.1, rfl⟩
    ·rw [Qxu q] at h2; cases h2
   have hmem : l.getD (Qo l b) default ∈ l := by rw [Qu _ _ hf.1]; exact Qx0 _
   have hok := Qdw hg.1 hmem
   have hnew : ∀ x ∈ l.set (Qo l b) { (QO l b).1 with zone := tz, offset := zto, move := move }, QaQ x = true ∧ ∃ y ∈ l, x.block = y.block := by
    intro x hx
    rcases List.mem_or_eq_of_mem_set hx with hx | rfl
    ·exact ⟨Qdw hg.1 hx, x, hx, rfl⟩
    ·rw [hf.2]
     refine ⟨?_, _, hmem, rfl⟩
     unfold QaQ at hok ⊢
     rw [Qxw] at hok ⊢
     exact ⟨hok.1, hok.2.1, hok.2.2.1, hi.2.2.2.2.1, hi.2.2.2.2.2, hok.2.2.2.2.2.1, hi.2.2.1, hi.2.2.2.1⟩
   have hasc : Asc (l.set (Qo l b) { (QO l b).1 with zone := tz, offset := zto, move := move }) := by
    have ha := QeS hg.1
    refine Qyk.2 fun i j hi' hj' hij => ?_
    rw [QxT] at hi' hj'
    have := ha.get hij hj'
    have key : ∀ k (hk : k < l.length), ((l.set (Qo l b) { (QO l b).1 with zone := tz, offset := zto, move := move })[k]'(by rw [QxT]; exact hk)).block = (l.getD k default).block := by
     intro k hk
     rw [List.getElem_set]
     split
     ·rename_i e; subst e; rw [hf.2]
     ·rw [Qu _ _ hk]
    rw [key i hi', key j hj']
    exact this
   rw [hi.1]
   refine ⟨QkK h (Qi4 (fun x hx => (hnew x hx).1) hasc) (fun x hx => ?_), QxT, QgU hb fun x hx => ?_⟩
   ·obtain ⟨y, hy, e⟩ := (hnew x hx).2
    rw [e]; exact hst y hy
   ·obtain ⟨y, hy, e⟩ := (hnew x hx).2
    rw [e]
    exact blocksIn_iff.1 hb _ hlt y (by rw [hl]; exact hy)
  ·exact ⟨h, rfl, hb⟩
 ·exact ⟨h, rfl, hb⟩
theorem Val.withDev (h : Val s) (h1 : check d = 0) (h2 : d.zones.length = s.dev.zones.length) (h3 : d.size = s.dev.size) : Val { s with dev := d } :=
 ⟨{ h.parts with dev := h1, zones := by show (d.zones.length : Int) = _; rw [h2]; exact h.parts.zones, size := h3.trans h.parts.size }, h.queues, h.evs⟩
theorem Qor (d : Dev) (z : Int) (s : ByteArray) : (Qf d z s).size = d.size := by unfold Qf; split <;> rfl
theorem Val.put {s : St} (h : Val s) (zone : Int) (r : Rec) : Val (s.put zone r) :=
 h.withDev (check_ok.2 (QkV (check_ok.1 h.parts.dev) zone _)) (Qa7 _ _ _) (Qor _ _ _)
theorem Qrj (h : check d = 0) : Qbo d = { d with zones := d.zones.map QcF } := by unfold Qbo; rw [Qxt h]
theorem Val.sync (h : Val s) : Val { s with dev := Qbo s.dev } := by
 have h1 := h.parts.dev
 rw [Qrj h1]
 exact h.withDev (check_ok.2 (Qiz (check_ok.1 h1))) (by simp) rfl
theorem Val.withMap (h : Val s) (hm : MapKeep s.map m s.cfg.blocks) : Val { s with map := m } :=
 ⟨{ h.parts with map := hm.ok, shards := by show (m.length : Int) = _; rw [hm.len]; exact h.parts.shards, blocks := hm.blocks }, h.queues, h.evs⟩
theorem Qg5 {a b : List Int} (h : Qr a b = true) (o f : Int) (had is : Bool) : Qr (Qar a b o f had is).1 b = true ∧ (Qar a b o f had is).1.length = a.length := by
 unfold Qar
 split
 ·rename_i c
  refine ⟨c.2.2.2, ?_⟩
  unfold Qc9
  split <;> split <;> simp
 ·exact ⟨h, rfl⟩
theorem QuD {a b : List Int} (h : Qr a b = true) (z : Int) : Qr a (Qtb a b z).1 = true := by
 unfold Qtb
 split
 ·rename_i c
  have c1 := hasC_iff.1 c.1
  have c2 := countsOk_iff2.1 c1.1
  refine countsOk_iff2.2 ⟨by simpa using c2.1, fun i hi => ?_⟩
  rw [Qpg c1.2.1 om]
  have h3 := c2.2 i hi
  have h4 := c2.2 z.toNat om
  have h5 := c.2
  split
  ·omega
  ·exact h3
 ·exact h
theorem Val.withLive (h : Val s) {l : List Int} (h1 : Qr l s.pend = true) (h2 : l.length = s.live.length) : Val { s with live := l } :=
 ⟨{ h.parts with counts := h1, live := by show (l.length : Int) = _; rw [h2]; exact h.parts.live }, h.queues, h.evs⟩
theorem Val.withPend (h : Val s) {l : List Int} (h1 : Qr s.live l = true) : Val { s with pend := l } :=
 ⟨{ h.parts with counts := h1 }, h.queues, h.evs⟩
theorem QuF {o : List Int} (h : QbI o = true) (i t : Int) : QbI (Qrp o i t).1 = true ∧ (Qrp o i t).1.length = o.length := by
 unfold Qrp
 split
 ·rename_i c
  have h1 := locksOk_iff2.1 h
  unfold QuM at c
  rw [QxA, Qxw] at c
  refine ⟨locksOk_iff2.2 ⟨by simpa using h1.1, fun k hk => ?_⟩, QxT⟩
  rw [QxT] at hk
  rw [QbA om]
  split
  ·omega
  ·exact h1.2 k hk
 ·exact ⟨h, rfl⟩
theorem Val.withLocks (h : Val s) {l : List Int} (h1 : QbI l = true) (h2 : l.length = s.owner.length) : Val { s with owner := l } :=
 ⟨{ h.parts with locks := h1, stripes := by show (l.length : Int) = _; rw [h2]; exact h.parts.stripes }, h.queues, h.evs⟩
theorem epochs_iff : QL g p r = true ↔ (1 ≤ p.length ∧ p.length ≤ 4 ∧ 0 ≤ g ∧ g ≤ 1099511627776) ∧ (∀ i, i < p.length → p.getD i default = -1 ∨ 0 ≤ p.getD i default ∧ (p.getD i default = g ∨ p.getD i default = g - 1)) ∧
  ∀ i, i < r.length → 0 ≤ (r.getD i default).zone ∧ 0 ≤ (r.getD i default).epoch ∧ (r.getD i default).epoch ≤ g ∧ ∀ j, j < i → (r.getD j default).zone ≠ (r.getD i default).zone := by
 unfold QL Qm4 Qnn
 simp only [QxA, Qxw]
theorem Val.withEpochs (h : Val s) (h1 : QL g p r = true) (h2 : p.length = s.pins.length) : Val { s with glob := g, pins := p, rets := r } :=
 ⟨{ h.parts with epochs := h1, pins := by show (p.length : Int) = _; rw [h2]; exact h.parts.pins }, h.queues, h.evs⟩
theorem QnV (h : QL g p r = true) (q : Int) : QL g (pinM g p r q).1 r = true ∧ (pinM g p r q).1.length = p.length := by
 unfold pinM
 split
 ·rename_i c
  have h1 := epochs_iff.1 h
  refine ⟨epochs_iff.2 ⟨by simpa using h1.1, fun i hi => ?_, h1.2.2⟩, QxT⟩
  rw [QxT] at hi
  rw [QbA om]
  split
  ·omega
  ·exact h1.2.1 i hi
 ·exact ⟨h, rfl⟩
theorem Qns {z : Int} (h : QbO r z = false) : ∀ i, i < r.length → (r.getD i default).zone ≠ z := by
 unfold QbO at h
 rw [List.any_eq_false] at h
 intro i hi
 have := h _ (Qx0 hi)
 rw [Qu _ _ hi]
 simpa using this
theorem Qnm (h : QL g p r = true) (z : Int) : QL g p (Qas g p r z).1 = true := by
 unfold Qas
 split
 ·rename_i c
  have h1 := epochs_iff.1 h
  have hz := Qns c.2.2
  refine epochs_iff.2 ⟨h1.1, h1.2.1, fun i hi => ?_⟩
  rw [QxL] at hi
  simp only [QxR, Qx5] at hi
  rw [QgN om]
  by_cases e : i = r.length
  ·rw [Qxt e]
   refine ⟨c.2.1, h1.1.2.2.1, QyD _, fun j hj => ?_⟩
   rw [QgN om, Qxu om]
   exact hz j om
  ·rw [Qxu e]
   have := h1.2.2 i om
   refine ⟨this.1, this.2.1, this.2.2.1, fun j hj => ?_⟩
   rw [QgN om, Qxu om]
   exact this.2.2.2 j hj
 ·exact h
theorem QqS (h : QL g p r = true) : QL (advM g p r).1 p r = true := by
 unfold advM
 split
 ·rename_i c
  have h1 := epochs_iff.1 h
  have h2 := c.2.2
  unfold Qmi at h2
  rw [Qxw] at h2
  have h3 := c.2.1
  refine epochs_iff.2 ⟨om, fun i hi => ?_, fun i hi => ?_⟩
  ·have := h2 i hi
   have := h1.2.1 i hi
   omega
  ·have := h1.2.2 i hi
   exact ⟨this.1, this.2.1, om, this.2.2.2⟩
 ·exact h
theorem Val.install {s : St} (h : Val s) {e : Ent} (he : e.block < s.cfg.blocks) : Val (s.install e) := by
 unfold St.install
 split
 ·have h1 := Qg5 h.parts.counts (Qax s.map e).2.1.zone e.zone (decide ((Qax s.map e).2.1.kind ≠ 0)) true
  exact (h.withLive h1.1 h1.2).withMap (Qpr h.parts.map h.parts.blocks e he)
 ·exact h
theorem Val.add {s : St} (h : Val s) (zone : Int) {r : Rec} (hr : r.block < s.cfg.blocks) : Val (s.add zone r) := by
 unfold St.add
 split
 ·exact (h.put zone r).install hr
 ·exact h
theorem Val.bump {s : St} (h : Val s) (hn : s.next < 1099511627776) : Val s.bump :=
 ⟨{ h.parts with next := ⟨by show 1 ≤ s.next + 1; have := h.parts.next; omega, by show s.next + 1 ≤ _; omega⟩ }, h.queues, h.evs⟩
theorem Val.copied {s : St} (h : Val s) (e : Ent) (zone : Int) : Val (s.copied e zone) := by
 unfold St.copied
 split
 ·have h1 := Qg5 h.parts.counts e.zone zone true true
  exact ((h.put zone (QbV (QaA (Q5 s.dev e.zone e.offset)).1).1).withLive h1.1 h1.2).withMap (Qr0 h.parts.map h.parts.blocks _ _ _ _ _ _ _)
 ·exact h
theorem Qfm (h : Qx m = true) (n : Int) : QaJ m n = true ↔ (0 < (allM m).length → ((allM m).getD ((allM m).length - 1) default).block < n) := by
 rw [blocksIn_iff]
 have ha := (QcJ h).1
 constructor
 ·intro hb h0
  rw [Qu _ _ (show (allM m).length - 1 < (allM m).length by omega)]
  obtain ⟨i, hi, he⟩ := (Qtd h _).1 (Qx0 (l := allM m) (n := (allM m).length - 1) om)
  exact hb i hi _ he
 ·intro hl i hi e he
  have hm := (Qtd h e).2 ⟨i, hi, he⟩
  obtain ⟨k, hk, rfl⟩ := QxP hm
  have h1 := hl om
  by_cases q : k = (allM m).length - 1
  ·rw [← q, Qu _ _ hk] at h1
   exact h1
  ·have := ha.get (i := k) (j := (allM m).length - 1) om om
   rw [Qu _ _ hk] at this
   omega
theorem QvP (h : Qx m = true) : allS m = allM m := Qxt h
set_option maxHeartbeats 4000000 in
theorem Qey (s : St) (hs : s.small) : PS 47 [.a s.cells] (.c (.bool (QaI s))) := by
 have no : ¬ QaI s = true → QaI s = false := Qq
 have vP : QaI s = true → Val s := validS_V.1
 refine PSpec.rm ?_
 refine ov0 hΓ Tryz.func47 175 0 [.tmp 2] Tryz.ntmps47 Tryz.results47 ?_
 refine QuU Qfg (Qfj s.cfg ) (Go0 ?_)
 refine CallG.auto Qcq (fun _ => Qcr s.dev ) (Go0 ?_)
 by_cases h1 : QB s.cfg = 0 ∧ check s.dev = 0 ∧ (s.dev.zones.length : Int) = s.cfg.zones ∧ s.dev.size = s.cfg.size
 ·refine Br.no (QxG.2 fun ebye => by simp [-List.getD_eq_getElem?_getD, -Int.default_eq_zero, h1.1,h1.2.1,h1.2.2.1,h1.2.2.2] at ebye <;> grind) ?_; conv=>whnf
  refine Go0 ?_
  refine QuU Qff (Qe4 s.map hs.map hs.shard ) (Go0 ?_)
  refine CallG.auto QbK (fun _ => QbD s.live s.pend hs.live hs.pend ) (Go0 ?_)
  by_cases h2 : Qx s.map = true ∧ (s.map.length : Int) = s.cfg.shards ∧ Qr s.live s.pend = true ∧ (s.live.length : Int) = s.cfg.zones
  ·refine Br.no (QxG.2 fun ebye => by simp [-List.getD_eq_getElem?_getD, -Int.default_eq_zero, h2.1,h2.2.1,h2.2.2.1,h2.2.2.2] at ebye <;> grind) ?_; conv=>whnf
   refine Go0 ?_
   refine QuU Qgm (QgX s.map hs.shard hs.map ) (Go0 ?_)
   rw [QvP h2.1]
   have hl : (allM s.map).length ≤ 8000000 := by
    have e1 := Qcy (m := s.map) (k := s.map.length) (QxB _) hs.shard
    rw [Qf5] at e1
    have e2 := Qbw h2.1
    rw [(QcJ h2.1).2.length_eq]
    omega
   have hp4 : s.cfg.queues = s.cfg.queues := rfl
   by_cases h3 : QaJ s.map s.cfg.blocks = true
   ·have h3' := (Qfm h2.1 s.cfg.blocks).1 h3
    refine Dr.mk hΓ hMix (by kernel_rfl) ?_; conv=>whnf
    rcases Qx3 (allM s.map).length with k0 | k0
    ·have z0 : ¬ (0 : Int) < ((allM s.map).length : Int) := by omega
     refine Go0 ?_
     refine Br.no (by simp [k0]) (Go0 ?_)
     refine QuU Qkp (QiL s.owner hs.owner ) (Go0 ?_)
     refine CallG.auto Qgv (fun _ => QgB s.glob s.pins s.rets hs.pins hs.rets ) (Go0 ?_)
     refine CallG.auto Qjc (fun _ => QiE s.cfg s.free s.host s.lane hs.free ) (Go0 ?_)
     by_cases h4 : QbI s.owner = true ∧ (s.owner.length : Int) = s.cfg.shards ∧ QL s.glob s.pins s.rets = true ∧ (s.pins.length : Int) = s.cfg.queues ∧ poolOk s.cfg s.free s.host s.lane = true
     ·refine Br.no (QxG.2 fun ebye => by simp [-List.getD_eq_getElem?_getD, -Int.default_eq_zero, h4.1,h4.2.1,h4.2.2.1,h4.2.2.2.1,h4.2.2.2.2] at ebye <;> grind) ?_; conv=>whnf
      refine Go1 fun _h=>?_
      by_cases h5 : (s.rings.length : Int) = s.cfg.queues ∧ (s.works.length : Int) = s.cfg.queues ∧ 1 ≤ s.next ∧ s.next ≤ 1099511627776
      ·refine Br.no (QxG.2 fun ebye => by simp [-List.getD_eq_getElem?_getD, -Int.default_eq_zero, h5.1,h5.2.1,h5.2.2.1,h5.2.2.2] at ebye <;> grind) ?_; conv=>whnf
       refine Go0 ?_
       have h51 := h5.1
       have h52 := h5.2.1
       refine QuY hΓ (ι := Nat) [1, 3] (fun i => [(5, .c (.int .i64 i))]) (fun _ => [.vr s.cells, .vr s.cfg.cells]) (fun k => k ≤ s.rings.length ∧ ∀ i, i < k → QbH (s.rings.getD i default) = true ∧ (s.rings.getD i default).depth = s.cfg.depth ∧ Qd3 s.cfg (s.works.getD i default) = true) (fun i => s.rings.length - i) 0 ⟨Qxx _, fun j hj => absurd hj (QxN _)⟩ ?_ ?_
       ·exact QuW
       ·rintro k ⟨hk, hk2⟩
        refine Go0 ?_
        refine Br.of (fun h6=>Go0 ?_) (fun h6=>Go0 ?_)
        ·have w0 := Qa (↑k + 1) om om
         have hr := hs.rings
         have kr : k < s.rings.length := by omega
         have kw : k < s.works.length := by omega
         refine Dr.mk hΓ hMix (by kernel_rfl) (Go0 ?_)
         refine CallP.auto Qc8 (Qc5 (s.rings.getD k default) (hs.items k) ) (Go0 ?_)
         refine QvE Qh7 (fun _ => QhA s.cfg (s.works.getD k default) ) (Go0 ?_)
         by_cases d : QbH (s.rings.getD k default) = true ∧ (s.rings.getD k default).depth = s.cfg.depth ∧ Qd3 s.cfg (s.works.getD k default) = true
         ·refine Br.no (QxG.2 fun ebye => by simp [-List.getD_eq_getElem?_getD, -Int.default_eq_zero, d.1,d.2.1,d.2.2] at ebye <;> grind) ?_; conv=>whnf
          refine Go0 ?_
          refine ⟨k + 1, ⟨om, Q0 hk2 d⟩, om, ?_⟩
          exact QuW
         ·refine Br.yes (QxC fun ebye => d (by simp [-List.getD_eq_getElem?_getD, -Int.default_eq_zero] at ebye <;> grind)) ?_; conv=>whnf
          refine Go0 ?_
          rw [no (fun q => d (by have := (vP q).queues k om; exact ⟨this.ring, this.depth, this.work⟩))]
          exact QuV
        ·have : k = s.rings.length := by omega
         subst this
         refine QuU Qhv (Qhd s hs om ) (Go0 ?_)
         refine Qvj rfl (WS.c (WC.bool ?_))
         rw [QxW, Qxw, validS_V]
         constructor
         ·intro z
          exact ⟨⟨h1.1, h1.2.1, h1.2.2.1, h1.2.2.2, h2.1, h2.2.1, h3, h2.2.2.1, h2.2.2.2, h4.1, h4.2.1, h4.2.2.1, h4.2.2.2.1, h4.2.2.2.2, h5.1, h5.2.1, h5.2.2, z.rng⟩, fun i hi => ⟨(hk2 i hi).1, (hk2 i hi).2.1, (hk2 i hi).2.2, z.works i hi, z.items i hi⟩, z.evs⟩
         ·intro v
          exact ⟨v.evs, fun i hi => (v.queues i hi).items, fun i hi => (v.queues i hi).req, v.parts.serial⟩
      ·refine Br.yes (QxC fun ebye => h5 (by simp [-List.getD_eq_getElem?_getD, -Int.default_eq_zero] at ebye <;> grind)) ?_; conv=>whnf
       refine Go0 ?_
       rw [no (fun q => h5 (by have := (vP q).parts; exact ⟨this.rings, this.works, this.next⟩))]
       exact QuV
     ·refine Br.yes (QxC fun ebye => h4 (by simp [-List.getD_eq_getElem?_getD, -Int.default_eq_zero] at ebye <;> grind)) ?_; conv=>whnf
      refine Go0 ?_
      rw [no (fun q => h4 (by have := (vP q).parts; exact ⟨this.locks, this.stripes, this.epochs, this.pins, this.pool⟩))]
      exact QuV
    ·have w2 := Qa (((allM s.map).length : Int) - 1) om om
     have w3 : (((allM s.map).length : Int) - 1).toNat = (allM s.map).length - 1 := by omega
     refine Go0 ?_
     rw [w2]
     refine Go0 ?_
     rw [w3]
     have h3'' := h3' k0
     refine Br.no (QxG.2 fun ebye => by simp [-List.getD_eq_getElem?_getD, -Int.default_eq_zero, h3''] at ebye <;> grind) ?_; conv=>whnf
     refine Go0 ?_
     refine QuU Qkp (QiL s.owner hs.owner ) (Go0 ?_)
     refine CallG.auto Qgv (fun _ => QgB s.glob s.pins s.rets hs.pins hs.rets ) (Go0 ?_)
     refine CallG.auto Qjc (fun _ => QiE s.cfg s.free s.host s.lane hs.free ) (Go0 ?_)
     by_cases h4 : QbI s.owner = true ∧ (s.owner.length : Int) = s.cfg.shards ∧ QL s.glob s.pins s.rets = true ∧ (s.pins.length : Int) = s.cfg.queues ∧ poolOk s.cfg s.free s.host s.lane = true
     ·refine Br.no (QxG.2 fun ebye => by simp [-List.getD_eq_getElem?_getD, -Int.default_eq_zero, h4.1,h4.2.1,h4.2.2.1,h4.2.2.2.1,h4.2.2.2.2] at ebye <;> grind) ?_; conv=>whnf
      refine Go1 fun _h=>?_
      by_cases h5 : (s.rings.length : Int) = s.cfg.queues ∧ (s.works.length : Int) = s.cfg.queues ∧ 1 ≤ s.next ∧ s.next ≤ 1099511627776
      ·refine Br.no (QxG.2 fun ebye => by simp [-List.getD_eq_getElem?_getD, -Int.default_eq_zero, h5.1,h5.2.1,h5.2.2.1,h5.2.2.2] at ebye <;> grind) ?_; conv=>whnf
       refine Go0 ?_
       have h51 := h5.1
       have h52 := h5.2.1
       refine QuY hΓ (ι := Nat) [1, 3] (fun i => [(5, .c (.int .i64 i))]) (fun _ => [.vr s.cells, .vr s.cfg.cells]) (fun k => k ≤ s.rings.length ∧ ∀ i, i < k → QbH (s.rings.getD i default) = true ∧ (s.rings.getD i default).depth = s.cfg.depth ∧ Qd3 s.cfg (s.works.getD i default) = true) (fun i => s.rings.length - i) 0 ⟨Qxx _, fun j hj => absurd hj (QxN _)⟩ ?_ ?_
       ·exact QuW
       ·rintro k ⟨hk, hk2⟩
        refine Go0 ?_
        refine Br.of (fun h6=>Go0 ?_) (fun h6=>Go0 ?_)
        ·have w0 := Qa (↑k + 1) om om
         have hr := hs.rings
         have kr : k < s.rings.length := by omega
         have kw : k < s.works.length := by omega
         refine Dr.mk hΓ hMix (by kernel_rfl) (Go0 ?_)
         refine CallP.auto Qc8 (Qc5 (s.rings.getD k default) (hs.items k) ) (Go0 ?_)
         refine QvE Qh7 (fun _ => QhA s.cfg (s.works.getD k default) ) (Go0 ?_)
         by_cases d : QbH (s.rings.getD k default) = true ∧ (s.rings.getD k default).depth = s.cfg.depth ∧ Qd3 s.cfg (s.works.getD k default) = true
         ·refine Br.no (QxG.2 fun ebye => by simp [-List.getD_eq_getElem?_getD, -Int.default_eq_zero, d.1,d.2.1,d.2.2] at ebye <;> grind) ?_; conv=>whnf
          refine Go0 ?_
          refine ⟨k + 1, ⟨om, Q0 hk2 d⟩, om, ?_⟩
          exact QuW
         ·refine Br.yes (QxC fun ebye => d (by simp [-List.getD_eq_getElem?_getD, -Int.default_eq_zero] at ebye <;> grind)) ?_; conv=>whnf
          refine Go0 ?_
          rw [no (fun q => d (by have := (vP q).queues k om; exact ⟨this.ring, this.depth, this.work⟩))]
          exact QuV
        ·have : k = s.rings.length := by omega
         subst this
         refine QuU Qhv (Qhd s hs om ) (Go0 ?_)
         refine Qvj rfl (WS.c (WC.bool ?_))
         rw [QxW, Qxw, validS_V]
         constructor
         ·intro z
          exact ⟨⟨h1.1, h1.2.1, h1.2.2.1, h1.2.2.2, h2.1, h2.2.1, h3, h2.2.2.1, h2.2.2.2, h4.1, h4.2.1, h4.2.2.1, h4.2.2.2.1, h4.2.2.2.2, h5.1, h5.2.1, h5.2.2, z.rng⟩, fun i hi => ⟨(hk2 i hi).1, (hk2 i hi).2.1, (hk2 i hi).2.2, z.works i hi, z.items i hi⟩, z.evs⟩
         ·intro v
          exact ⟨v.evs, fun i hi => (v.queues i hi).items, fun i hi => (v.queues i hi).req, v.parts.serial⟩
      ·refine Br.yes (QxC fun ebye => h5 (by simp [-List.getD_eq_getElem?_getD, -Int.default_eq_zero] at ebye <;> grind)) ?_; conv=>whnf
       refine Go0 ?_
       rw [no (fun q => h5 (by have := (vP q).parts; exact ⟨this.rings, this.works, this.next⟩))]
       exact QuV
     ·refine Br.yes (QxC fun ebye => h4 (by simp [-List.getD_eq_getElem?_getD, -Int.default_eq_zero] at ebye <;> grind)) ?_; conv=>whnf
      refine Go0 ?_
      rw [no (fun q => h4 (by have := (vP q).parts; exact ⟨this.locks, this.stripes, this.epochs, this.pins, this.pool⟩))]
      exact QuV
   ·have k0 : 0 < (allM s.map).length := QxC fun q => h3 ((Qfm h2.1 _).2 fun z => absurd z q)
    have w2 := Qa (((allM s.map).length : Int) - 1) om om
    have w3 : (((allM s.map).length : Int) - 1).toNat = (allM s.map).length - 1 := by omega
    refine Dr.mk hΓ hMix (by kernel_rfl) (Go0 ?_)
    rw [w2]
    refine Go0 ?_
    rw [w3]
    have h3'' : ¬ ((allM s.map).getD ((allM s.map).length - 1) default).block < s.cfg.blocks := fun z => h3 ((Qfm h2.1 _).2 fun _ => z)
    refine Br.yes (by simp [-List.getD_eq_getElem?_getD, k0]; omega) ?_
    refine Go0 ?_
    rw [no (fun q => h3 (vP q).parts.blocks)]
    exact QuV
  ·refine Br.yes (QxC fun ebye => h2 (by simp [-List.getD_eq_getElem?_getD, -Int.default_eq_zero] at ebye <;> grind)) ?_; conv=>whnf
   refine Go0 ?_
   rw [no (fun q => h2 (by have := (vP q).parts; exact ⟨this.map, this.shards, this.counts, this.live⟩))]
   exact QuV
 ·refine Br.yes (QxC fun ebye => h1 (by simp [-List.getD_eq_getElem?_getD, -Int.default_eq_zero] at ebye <;> grind)) ?_; conv=>whnf
  refine Go0 ?_
  rw [no (fun q => h1 (by have := (vP q).parts; exact ⟨this.cfg, this.dev, this.zones, this.size⟩))]
  exact QuV
theorem Qfc : HB 47 := hB Tryz.func47
end Go.Proofs
end
