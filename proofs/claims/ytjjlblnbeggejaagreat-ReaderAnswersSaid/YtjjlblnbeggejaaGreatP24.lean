/- Contracts, lemmas; no condition. -/
import Derived.Test.YtjjlblnbeggejaaGreatP23
import Derived.Test.YtjjlblnbeggejaaGreatP21
set_option linter.all false
section
open Go Go.Am
namespace Go.Proofs
set_option maxRecDepth 20000
variable {c : Conf} {r : Req} {n : Nat}
structure Up (s t : St) (n : Nat) : Prop where
 eq : ∃ rings works evs serial closed, t = { s with rings := rings, works := works, evs := evs, serial := serial, closed := closed }
 rings : t.rings.length = s.rings.length
 works : t.works.length = s.works.length
 evs : t.evs.length ≤ s.evs.length + n
theorem Up.refl (s : St) (n : Nat) : Up s s n := ⟨⟨s.rings, s.works, s.evs, s.serial, s.closed, rfl⟩, rfl, rfl, om⟩
theorem Up.cfg {s t : St} {n : Nat} (h : Up s t n) : t.cfg = s.cfg := by obtain ⟨_, _, _, _, _, e⟩ := h.eq; rw [e]
theorem Up.map {s t : St} {n : Nat} (h : Up s t n) : t.map = s.map := by obtain ⟨_, _, _, _, _, e⟩ := h.eq; rw [e]
theorem Up.small {s t : St} {n : Nat} (h : Up s t n) (hs : s.small) (hv : Val t) (he : t.evs.length ≤ 1000000) : t.small := by
 have h1 := h.rings
 have h2 := h.works
 have hi : ∀ i, (t.rings.getD i default).items.length ≤ 1000000 := fun i => by
  by_cases c : i < t.rings.length
  ·have := (ringOk_R.1 (hv.queues i c).ring).1
   omega
  ·rw [show t.rings.getD i default = default by simp [List.getD, QyB c]]
   exact Qxx _
 obtain ⟨_, _, _, _, _, e⟩ := h.eq
 have h3 := hs.rings
 have h4 := hs.works
 subst e
 exact ⟨hs.dev, hs.map, hs.shard, hs.live, hs.pend, hs.owner, hs.pins, hs.rets, hs.free, om, hi, om, hs.ents, hs.recs, he⟩
theorem Val.setRing {s : St} (h : Val s) {q : Nat} {r : Rng} (hq : q < s.rings.length) (h1 : QbH r = true) (h2 : r.depth = s.cfg.depth) (h3 : ∀ k, k < r.items.length → (r.items.getD k default).serial < s.serial) : Val (s.setRing q r) := by
 refine ⟨{ h.parts with rings := by simp only [St.setRing, QxT]; exact h.parts.rings }, fun i hi => ?_, h.evs⟩
 simp only [St.setRing, QxT] at hi ⊢
 have := h.queues i hi
 rw [QbA hq]
 split
 ·rename_i e; subst e; exact ⟨h1, h2, this.work, this.req, h3⟩
 ·exact this
theorem Qvl (h : cmdE c r = 0) : 1 ≤ r.kind ∧ r.kind ≤ 4 := by
 unfold cmdE at h
 split at h
 ·cases h
 ·omega
theorem Qu3 {e : Ent} {d : ByteArray} (h : cmdE c r = 0) : Qd3 c ⟨Qug r.kind, r, e, d⟩ = true := by
 have hk := Qvl h
 unfold Qd3 Qug
 rw [Qxw]
 right
 refine ⟨h, ?_, ?_, ?_⟩ <;> dsimp only <;> intros <;> split <;> (try split) <;> omega
theorem Qli : Qd3 c default = true := by
 unfold Qd3
 rw [Qxw]
 left; rfl
theorem Up.trans {s t u : St} {n m : Nat} (h : Up s t n) (k : Up t u m) : Up s u (n + m) := by
 refine ⟨?_, k.rings.trans h.rings, k.works.trans h.works, by have := h.evs; have := k.evs; omega⟩
 obtain ⟨_, _, _, _, _, e⟩ := h.eq
 obtain ⟨_, _, _, _, _, e'⟩ := k.eq
 subst e
 exact ⟨_, _, _, _, _, e'⟩
theorem Qa9 {α : Type} [Inhabited α] {i : Nat} {d : α} (h : i < n) : (List.replicate n d).getD i default = d := by simp [List.getD, h]
theorem QrL (h : 1 ≤ n ∧ n ≤ 8) : Qx (List.replicate n []) = true := by
 unfold Qx
 simp only [Qx6, QxA, Qxw]
 refine ⟨h, fun i hi => ?_⟩
 rw [Qa9 hi]
 unfold QM Qan
 simp only [Qxw]
 exact ⟨fun i hi => absurd hi (QxN _), fun i hi => absurd hi (QxN _)⟩
theorem Qhy {k i : Nat} (h : i < k) : (QbC c k).getD i default = 2 * Qz c + (i : Nat) := by
 simp [QbC, List.getD, h]
theorem Qp6 (h : 1 ≤ n ∧ n ≤ 32) : Qr (List.replicate n 0) (List.replicate n 0) = true := by
 unfold Qr
 refine (QxA _ _).mpr ⟨Qxz ⟨rfl, by rw [Qx6]; omega, by rw [Qx6]; omega⟩, Qxz fun i hi => ?_⟩
 rw [Qx6] at hi
 rw [Qa9 hi]
 decide
theorem Qpu (h : 1 ≤ n ∧ n ≤ 4) : QL 0 (List.replicate n (-1)) [] = true := by
 unfold QL
 refine (QxA _ _).mpr ⟨Qxz (by simp only [Qx6]; omega), (QxA _ _).mpr ⟨Qxz fun i hi => ?_, Qxz fun i hi => absurd hi (QxN _)⟩⟩
 rw [Qx6] at hi
 rw [Qa9 hi]
 exact Or.inl rfl
theorem Qr5 (h : QB c = 0) : Val (Qs c) := by
 have hr := confR_iff.1 (QR h).1
 have hd := Qct (QR h).1
 have h6 := (QR h).2.1
 have hs := Qak (QR h).1
 have he := Qhk h
 have hdn : Qp c = c.zones - 2 * Qz c := rfl
 have hdev : newD c.zones c.size 3 3 = newX c.zones c.size 3 3 := by unfold newD; rw [Qxt he]
 have hck : check (newX c.zones c.size 3 3) = 0 := by
  unfold newE at he
  rw [Qxt (Qxz om)] at he
  exact he
 refine ⟨⟨h, ?_, ?_, ?_, ?_, ?_, ?_, ?_, ?_, ?_, ?_, ?_, ?_, ?_, ?_, ?_, ?_, ?_⟩, fun i hi => ?_, fun i hi => absurd hi (QxN _)⟩
 ·show check (newD c.zones c.size 3 3) = 0
  rw [hdev]; exact hck
 ·show ((newD c.zones c.size 3 3).zones.length : Int) = c.zones
  rw [hdev]; simp only [newX, Qx6]; omega
 ·show (newD c.zones c.size 3 3).size = c.size
  rw [hdev]; rfl
 ·exact QrL om
 ·simp only [Qs, Qx6]; omega
 ·simp only [Qs, QaJ, Qxw, Qx6]
  intro i hi k hk
  rw [Qa9 hi] at hk
  exact absurd hk (QxN _)
 ·exact Qp6 om
 ·simp only [Qs, Qx6]; omega
 ·simp only [Qs, QbI, Qx6, QxA, Qxw]
  refine ⟨om, fun i hi => ?_⟩
  rw [Qa9 hi]; omega
 ·simp only [Qs, Qx6]; omega
 ·exact Qpu om
 ·simp only [Qs, Qx6]; omega
 ·refine (QxA _ _).mpr ⟨Qxz h, (QxA _ _).mpr ⟨Qxz fun i hi => ?_, (QxA _ _).mpr ⟨Qxz (Or.inl rfl), (QxA _ _).mpr ⟨Qxz (Or.inl rfl), Qxz (Or.inl rfl)⟩⟩⟩⟩
  have hi' : i < (Qp c).toNat := by rw [← QbT c (Qp c).toNat]; exact hi
  show Qam c ((QbC c (Qp c).toNat).getD i default) = true ∧ (0 < i → (QbC c (Qp c).toNat).getD (i - 1) default < (QbC c (Qp c).toNat).getD i default)
  rw [Qhy hi']
  refine ⟨Qxz ⟨h, om, om⟩, fun h0 => ?_⟩
  rw [Qhy om]
  omega
 ·simp only [Qs, Qx6]; omega
 ·simp only [Qs, Qx6]; omega
 ·simp only [Qs]; omega
 ·simp only [Qs]; omega
 ·simp only [Qs, Qx6] at hi ⊢
  rw [Qa9 hi, Qa9 hi]
  refine ⟨?_, rfl, Qli, Or.inl rfl, fun k hk => absurd hk (QxN _)⟩
  rw [ringOk_R]
  refine ⟨⟨by show 1 ≤ c.depth; omega, by show c.depth ≤ 8; omega, by show ((0 : Nat) : Int) ≤ c.depth; omega⟩, fun i hi => absurd hi (QxN _)⟩
abbrev DS := DiceM × St
def QlU (s : St) (z : Int) : List ByteArray := (s.dev.zones.getD z.toNat default).sectors
def St.install (s : St) (e : Ent) : St :=
 if (Qax s.map e).2.2 = true then { s with live := (Qar s.live s.pend (Qax s.map e).2.1.zone e.zone (decide ((Qax s.map e).2.1.kind ≠ 0)) true).1, map := (Qax s.map e).1 } else s
def recE (r : Rec) (zone at_ : Int) : Ent := ⟨r.block, r.kind, r.version, r.move, zone, at_⟩
def St.put (s : St) (zone : Int) (r : Rec) : St := { s with dev := Qf s.dev zone (encR r) }
def St.add (s : St) (zone : Int) (r : Rec) : St :=
 if Qj s.dev zone (encR r) = 0 then (s.put zone r).install (recE r zone (QA s.dev zone (encR r))) else s
def St.bump (s : St) : St := { s with next := s.next + 1 }
def addF (zone : Int) (p : DS) : DS := (recD p.1, p.2.bump.add zone (recR p.1 p.2.cfg.blocks p.2.next))
def addTo (zone : Int) (p : DS) : Nat → DS
 | 0 => p
 | k + 1 => addF zone (addTo zone p k)
def St.seal (s : St) (zone : Int) : St := s.put zone (QU (QlU s zone))
def fullF (zone : Int) (p : DS) : DS := ((addTo zone p (p.2.cfg.size - 1).toNat).1, (addTo zone p (p.2.cfg.size - 1).toNat).2.seal zone)
def Qah (l : List Int) (n : Int) : List Int := l.filter fun x => decide (x ≠ n)
def St.unfree (s : St) (z : Int) : St := { s with free := Qah s.free z }
def St.copied (s : St) (e : Ent) (zone : Int) : St :=
 if QdD s.dev e.zone e.offset = 0 ∧ (QaA (Q5 s.dev e.zone e.offset)).2 = true ∧ (QbV (QaA (Q5 s.dev e.zone e.offset)).1).2 = true ∧ Qj s.dev zone (encR (QbV (QaA (Q5 s.dev e.zone e.offset)).1).1) = 0 then
  let r := (QbV (QaA (Q5 s.dev e.zone e.offset)).1).1
  let at_ := QA s.dev zone (encR r)
  { s with dev := Qf s.dev zone (encR r), map := (relM s.map e.block e.version e.zone e.offset zone at_ r.move).1, live := (Qar s.live s.pend e.zone zone true true).1 }
 else s
end Go.Proofs
end
