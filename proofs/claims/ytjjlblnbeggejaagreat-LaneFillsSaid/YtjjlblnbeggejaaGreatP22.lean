/- Contracts, lemmas; no condition. -/
import Derived.Test.YtjjlblnbeggejaaGreatP21
import Derived.Shelf.SlSortCmp.NoneTotal
import Derived.Test.YtjjlblnbeggejaaGreatP16
set_option linter.all false
section
open Go Go.Am
namespace Go.Proofs
set_option maxRecDepth 20000
open Go.Shelf Go.RowKit Go.Lib Go.Sort
theorem Qqz (gx : Nat → C) (g : Nat → Nat → C) : CS 295 [.c (.sl 0 6 0 0 false), .c (.fn (.func 296) 0 gx)] [.arr 47 6 0 g] fun s H => s = .t [] ∧ H = [.arr 47 6 0 g] := by
 intro K F μ w vs hw hA
 have h0 : getL [O.arr 47 6 0 g] 0 = some (.arr 47 6 0 g) := rfl
 obtain ⟨v, v1, v2⟩ := hA.2 0 _ rfl
 obtain ⟨u, u1, u2⟩ := hA.2 1 _ rfl
 obtain ⟨_, e', n', g'', y1, y2, y3, y4⟩ := v2
 have en : n' = 0 := by rw [h0] at y1; cases y1; rfl
 obtain ⟨a, cap, z1, z2, -⟩ := y4 en.symm
 have hvs : vs = #[.slice a 0 cap, u] := by
  apply Array.ext_getElem?
  intro j
  match j with
  | 0 => rw [v1, z2]; rfl
  | 1 => rw [u1]; rfl
  | j + 2 => rw [Array.getElem?_eq_none (by rw [hA.1]; simp), Array.getElem?_eq_none (by simp)]
 subst hvs
 have hc := AnyF.slices_SortFunc_none (P := Tryz.prog) Tryz.laySortE a cap u w
 refine Calls.mono hc ?_
 rintro e w' ⟨rfl, rfl⟩
 exact ⟨_, F, μ, .t [], _, rfl, Mem.le_refl F, hw, Ext.refl _ _, ⟨#[], rfl, rfl, fun j x hx => by simp [getL] at hx⟩, rfl, rfl⟩
theorem Qqh : HB 295 := hB Tryz.func295
set_option maxHeartbeats 4000000 in
theorem Qrw (m : List (List Ent)) (h : Qx m = true) (hs : ∀ i, (m.getD i default).length ≤ 1000000) (hb : ∀ i, i < m.length → ∀ e ∈ m.getD i default, e.block ≤ 9223372036854775807) : PS 268 [.a [QC m]] (.c (Qap (allM m))) := by
 refine PSpec.rm ?_
 have hm := Qbw h
 have hfl : m.flatten.length ≤ 8000000 := by
  have := Qcy (m := m) (k := m.length) (Nat.le_refl _) hs
  rw [Qf5] at this
  omega
 have hla : (allM m).length = m.flatten.length := (QcJ h).2.length_eq
 have hbe : ∀ e ∈ m.flatten, 0 ≤ e.block ∧ e.block ≤ 9223372036854775807 := fun e he => by
  obtain ⟨l, h1, h2⟩ := List.mem_flatten.1 he
  obtain ⟨i, hi, rfl⟩ := List.getElem_of_mem h1
  rw [← Qu _ _ hi] at h2
  have := entOk_iff.1 (Qg6 h hi h2).2
  exact ⟨this.2.2.2.2.2.1, hb i hi e h2⟩
 refine ov0 hΓ Tryz.func268 18 0 [.tmp 2] Tryz.ntmps268 Tryz.results268 ?_
 refine CallN.pureA QkS (QkR m (by omega) hs ) (Go0 ?_)
 refine CallN.pureA QhG (QhZ m (by omega) hs ) (Go0 ?_)
 refine Br.no (by rw [h]; rfl) (Go0 ?_)
 refine CallN.autoI [] QnP (Qon m hm.2 hs) plh (Go0 ?_)
 by_cases h0 : m.flatten.length = 0
 ·have hz : m.flatten = [] := List.eq_nil_of_length_eq_zero h0
  have hz2 : allM m = [] := List.eq_nil_of_length_eq_zero (by rw [hla]; exact h0)
  rw [hz]
  refine CallN.autoI [2] Qqh (Qqz _ (entG [])) plh (Go0 ?_)
  rw [hz2]
  exact RM.allC (Fw.slP rfl rfl rfl (fun _ _ _ _ => rfl) (fun _ _ => Qaw _ _))
 ·refine CallN.autoI [2] sortE_body (sortE_spec m h m.flatten (List.Perm.refl _) hbe (by omega) (by omega) _) plh (Go0 ?_)
  exact RM.allC (Fw.slP rfl rfl hla.symm (fun _ _ _ _ => rfl) (fun _ _ => Qaw _ _))
theorem QtH {m : List (List Ent)} (h : Qx m = true) (hs : ∀ i, (m.getD i default).length ≤ 100000) (hb : ∀ i, i < m.length → ∀ e ∈ m.getD i default, e.block ≤ 9223372036854775807) : AllS m (allM m) := by
 have hfl : (allM m).length ≤ 1000000 := by
  rw [(QcJ h).2.length_eq, List.length_flatten]
  have h8 := Qbw h
  have : ∀ (l : List (List Ent)), (∀ x ∈ l, x.length ≤ 100000) → (l.map List.length).sum ≤ l.length * 100000 := by
   intro l
   induction l with
   | nil => intro _; simp
   | cons x l ih =>
    intro hx
    have h1 := ih (fun y hy => hx y (List.mem_cons_of_mem _ hy))
    have h2 := hx x (List.mem_cons_self ..)
    simp only [List.map_cons, List.sum_cons, List.length_cons]
    omega
  have := this m (fun x hx => by
   obtain ⟨i, hi, rfl⟩ := List.getElem_of_mem hx
   have := hs i
   rw [Qu _ _ hi] at this
   exact this)
  omega
 exact ⟨Qrw m h (fun i => by have := hs i; omega) hb, Qtd h, hfl⟩
end Go.Proofs
end

section
open Go Go.Am
namespace Go.Proofs
set_option maxRecDepth 20000
def dice0 : DiceM := ⟨[], 0⟩
theorem Qte : dice0.ok := ⟨Nat.le_refl _, by decide⟩
def fl0 : Req := ⟨0, 4, 0, ByteArray.empty⟩
def s0W : St := Qs (Q7 dice0)
def s1W : St := (Qo4 s0W 0 fl0).1
def s2W : St := (QrG true s1W 0).1
def s3W : St := (QoA s2W 0 0 ByteArray.empty).1
theorem QuX : AllS [[]] [] := by
 have h : Qx [[]] = true := by decide
 have e : allM [[]] = [] := rfl
 have := QtH h (fun i => by
  match i with
  | 0 => exact Nat.zero_le _
  | i + 1 => exact Nat.zero_le _) (fun i hi e he => by
  have : i = 0 := by simpa using hi
  subst this
  cases he)
 rw [e] at this
 exact this
structure Wk24 (s : St) : Prop where
 sm : s.small
 mp : s.map = [[]]
theorem Wk24.all {s : St} (h : Wk24 s) : Qx s.map = true → AllS s.map [] := fun _ => by rw [h.mp]; exact QuX
theorem Wk24.mk' {s : St} (h1 : s.map = [[]]) (h2 : s.dev.zones.length ≤ 100 ∧ s.live.length ≤ 100 ∧ s.pend.length ≤ 100 ∧ s.owner.length ≤ 100 ∧ s.pins.length ≤ 100 ∧ s.rets.length ≤ 100 ∧ s.free.length ≤ 100 ∧ s.rings.length ≤ 100 ∧ s.works.length ≤ 100 ∧ s.sav.ents.length ≤ 100 ∧ s.sav.recs.length ≤ 100 ∧ s.evs.length ≤ 100) (h3 : s.dev.small) (h4 : ∀ i, (s.rings.getD i default).items.length ≤ 1000000) : Wk24 s := by
 refine ⟨⟨h3, by rw [h1]; decide, fun i => by
  rw [h1]
  match i with
  | 0 => exact Nat.zero_le _
  | i + 1 => exact Nat.zero_le _, by omega, by omega, by omega, by omega, by omega, by omega, by omega, h4, by omega, by omega, by omega, by omega⟩, h1⟩
theorem Qsu {l : List Rng} (h : (l.all fun r => decide (r.items.length ≤ 1000)) = true) : ∀ i, (l.getD i default).items.length ≤ 1000000 := fun i => by
 by_cases c : i < l.length
 ·rw [Qu _ _ c]
  have := List.all_eq_true.1 h _ (List.getElem_mem c)
  have := of_decide_eq_true this
  omega
 ·rw [show l.getD i default = default by simp [List.getD, Nat.le_of_not_lt c]]
  exact Nat.zero_le _
theorem QtO {d : Dev} (h : d.zones.length ≤ 100 ∧ (d.zones.all fun z => decide (z.sectors.length ≤ 1000)) = true) : d.small := ⟨by omega, fun i => by
 by_cases c : i < d.zones.length
 ·rw [Qu _ _ c]
  have := List.all_eq_true.1 h.2 _ (List.getElem_mem c)
  have := of_decide_eq_true this
  omega
 ·rw [show d.zones.getD i default = default by simp [List.getD, Nat.le_of_not_lt c]]
  exact Nat.zero_le _⟩
def wkB (s : St) : Bool := decide (s.map = [[]]) && (decide (s.dev.zones.length ≤ 100 ∧ s.live.length ≤ 100 ∧ s.pend.length ≤ 100 ∧ s.owner.length ≤ 100 ∧ s.pins.length ≤ 100 ∧ s.rets.length ≤ 100 ∧ s.free.length ≤ 100 ∧ s.rings.length ≤ 100 ∧ s.works.length ≤ 100 ∧ s.sav.ents.length ≤ 100 ∧ s.sav.recs.length ≤ 100 ∧ s.evs.length ≤ 100) && ((s.dev.zones.all fun z => decide (z.sectors.length ≤ 1000)) && (s.rings.all fun r => decide (r.items.length ≤ 1000))))
theorem Qi2 {s : St} (h : wkB s = true) : Wk24 s := by
 unfold wkB at h
 simp only [Bool.and_eq_true, decide_eq_true_eq] at h
 exact Wk24.mk' h.1 h.2.1 (QtO ⟨h.2.1.1, h.2.2.1⟩) (Qsu h.2.2.2)
theorem w0 : Wk24 s0W := Qi2 (by decide +kernel)
theorem w1 : Wk24 s1W := Qi2 (by decide +kernel)
theorem w2 : Wk24 s2W := Qi2 (by decide +kernel)
theorem w3 : Wk24 s3W := Qi2 (by decide +kernel)
theorem f1 : (Qo4 s0W 0 fl0).2 = 0 := by decide +kernel
theorem f2 : (QrG true s1W 0).2 = true := by decide +kernel
theorem f3 : (QtB s2W).length = 1 := by decide +kernel
theorem f4 : (QoA s2W 0 0 ByteArray.empty).2 = true := by decide +kernel
theorem f5 : QtB s3W = [] := by decide +kernel
theorem f6 : s3W.evs.length = 2 := by decide +kernel
def evP (r : Bool) (s : Int) (e : Evt) : Bool := decide (e.ret = r ∧ e.serial = s)
def QuB (l : List Evt) (r : Bool) (s : Int) : Int := if l.any (evP r s) = true then (l.findIdx (evP r s) : Nat) else -1
def QuY (kind err : Int) (rdata : ByteArray) : Bool :=
 if err = 0 then (if kind = 1 then decide (rdata.size = 16) else decide (rdata = ByteArray.empty))
 else if err = 7 ∨ err = 1 ∨ err = 2 ∨ err = 3 ∨ err = 12 then decide (rdata = ByteArray.empty) else false
def QuU (p : List Evt) (x : Evt) : Bool :=
 decide (0 ≤ x.queue ∧ x.queue < 4 ∧ 0 ≤ x.serial) &&
 (if x.ret = false then !QsU p x.serial && !Qq4 p x.serial && decide (x.err = 0 ∧ x.rdata = ByteArray.empty)
 else QsU p x.serial && !Qq4 p x.serial && decide ((p.getD (QuB p false x.serial).toNat default).queue = x.queue ∧ (p.getD (QuB p false x.serial).toNat default).kind = x.kind ∧ (p.getD (QuB p false x.serial).toNat default).block = x.block ∧ (p.getD (QuB p false x.serial).toNat default).data = x.data) && QuY x.kind x.err x.rdata)
structure Live (l : List Evt) (q : Int) (x : Req) : Prop where
 inv : QsU l x.serial = true
 ans : Qq4 l x.serial = false
 same : (l.getD (QuB l false x.serial).toNat default).queue = q ∧ (l.getD (QuB l false x.serial).toNat default).kind = x.kind ∧ (l.getD (QuB l false x.serial).toNat default).block = x.block ∧ (l.getD (QuB l false x.serial).toNat default).data = x.data
 pos : 0 ≤ x.serial
def QuR (l : List Evt) : Prop := ∀ k, k < l.length → QuU (l.take k) (l.getD k default) = true
structure Hist (s : St) : Prop where
 right : QuR s.evs
 rings : ∀ i, i < s.rings.length → ∀ k, k < (s.rings.getD i default).items.length → Live s.evs i ((s.rings.getD i default).items.getD k default)
 works : ∀ i, i < s.rings.length → (s.works.getD i default).state ≠ 0 → Live s.evs i (s.works.getD i default).req
 apart : ∀ i, i < s.rings.length → (s.works.getD i default).state ≠ 0 → ∀ k, k < (s.rings.getD i default).items.length → ((s.rings.getD i default).items.getD k default).serial ≠ (s.works.getD i default).req.serial
theorem Live.queue {l : List Evt} {q q' : Int} {x y : Req} (h : Live l q x) (h' : Live l q' y) (e : x.serial = y.serial) : q = q' := by
 have a := h.same.1
 have b := h'.same.1
 rw [e] at a
 exact a.symm.trans b
structure Up (s t : St) (n : Nat) : Prop where
 eq : ∃ rings works evs serial closed, t = { s with rings := rings, works := works, evs := evs, serial := serial, closed := closed }
 rings : t.rings.length = s.rings.length
 works : t.works.length = s.works.length
 evs : t.evs.length ≤ s.evs.length + n
theorem Up.refl (s : St) (n : Nat) : Up s s n := ⟨⟨s.rings, s.works, s.evs, s.serial, s.closed, rfl⟩, rfl, rfl, by omega⟩
theorem Up.cfg {s t : St} {n : Nat} (h : Up s t n) : t.cfg = s.cfg := by obtain ⟨_, _, _, _, _, e⟩ := h.eq; rw [e]
theorem Up.map {s t : St} {n : Nat} (h : Up s t n) : t.map = s.map := by obtain ⟨_, _, _, _, _, e⟩ := h.eq; rw [e]
theorem Up.small {s t : St} {n : Nat} (h : Up s t n) (hs : s.small) (hv : Val t) (he : t.evs.length ≤ 1000000) : t.small := by
 have h1 := h.rings
 have h2 := h.works
 have hi : ∀ i, (t.rings.getD i default).items.length ≤ 1000000 := fun i => by
  by_cases c : i < t.rings.length
  ·have := (ringOk_R.1 (hv.queues i c).ring).1
   omega
  ·rw [show t.rings.getD i default = default by simp [List.getD, Nat.le_of_not_lt c]]
   exact Nat.zero_le _
 obtain ⟨_, _, _, _, _, e⟩ := h.eq
 have h3 := hs.rings
 have h4 := hs.works
 subst e
 exact ⟨hs.dev, hs.map, hs.shard, hs.live, hs.pend, hs.owner, hs.pins, hs.rets, hs.free, by omega, hi, by omega, hs.ents, hs.recs, he⟩
theorem Val.setRing {s : St} (h : Val s) {q : Nat} {r : Rng} (hq : q < s.rings.length) (h1 : QbH r = true) (h2 : r.depth = s.cfg.depth) (h3 : ∀ k, k < r.items.length → (r.items.getD k default).serial < s.serial) : Val (s.setRing q r) := by
 refine ⟨{ h.parts with rings := by simp only [St.setRing, List.length_set]; exact h.parts.rings }, fun i hi => ?_, h.evs⟩
 simp only [St.setRing, List.length_set] at hi ⊢
 have := h.queues i hi
 rw [QbA hq]
 split
 ·rename_i e; subst e; exact ⟨h1, h2, this.work, this.req, h3⟩
 ·exact this
theorem Qli {c : Conf} : Qd3 c default = true := by
 unfold Qd3
 rw [decide_eq_true_eq]
 left; rfl
theorem Up.trans {s t u : St} {n m : Nat} (h : Up s t n) (k : Up t u m) : Up s u (n + m) := by
 refine ⟨?_, k.rings.trans h.rings, k.works.trans h.works, by have := h.evs; have := k.evs; omega⟩
 obtain ⟨_, _, _, _, _, e⟩ := h.eq
 obtain ⟨_, _, _, _, _, e'⟩ := k.eq
 subst e
 exact ⟨_, _, _, _, _, e'⟩
theorem Qa9 {α : Type} [Inhabited α] {n i : Nat} {d : α} (h : i < n) : (List.replicate n d).getD i default = d := by simp [List.getD, h]
theorem QrL {n : Nat} (h : 1 ≤ n ∧ n ≤ 8) : Qx (List.replicate n []) = true := by
 unfold Qx
 simp only [List.length_replicate, Bool.and_eq_true, decide_eq_true_eq]
 refine ⟨h, fun i hi => ?_⟩
 rw [Qa9 hi]
 unfold QM Qan
 simp only [decide_eq_true_eq]
 exact ⟨fun i hi => absurd hi (Nat.not_lt_zero _), fun i hi => absurd hi (Nat.not_lt_zero _)⟩
theorem Qhy {c : Conf} {k i : Nat} (h : i < k) : (QbC c k).getD i default = 2 * Qz c + (i : Nat) := by
 simp [QbC, List.getD, h]
theorem Qp6 {n : Nat} (h : 1 ≤ n ∧ n ≤ 32) : Qr (List.replicate n 0) (List.replicate n 0) = true := by
 unfold Qr
 refine (Bool.and_eq_true _ _).mpr ⟨decide_eq_true ⟨rfl, by rw [List.length_replicate]; omega, by rw [List.length_replicate]; omega⟩, decide_eq_true fun i hi => ?_⟩
 rw [List.length_replicate] at hi
 rw [Qa9 hi]
 decide
theorem Qpu {n : Nat} (h : 1 ≤ n ∧ n ≤ 4) : QL 0 (List.replicate n (-1)) [] = true := by
 unfold QL
 refine (Bool.and_eq_true _ _).mpr ⟨decide_eq_true (by simp only [List.length_replicate]; omega), (Bool.and_eq_true _ _).mpr ⟨decide_eq_true fun i hi => ?_, decide_eq_true fun i hi => absurd hi (Nat.not_lt_zero _)⟩⟩
 rw [List.length_replicate] at hi
 rw [Qa9 hi]
 exact Or.inl rfl
theorem Qr5 {c : Conf} (h : QB c = 0) : Val (Qs c) := by
 have hr := confR_iff.1 (QR h).1
 have hd := Qct (QR h).1
 have h6 := (QR h).2.1
 have hs := Qak (QR h).1
 have he := Qhk h
 have hdn : Qp c = c.zones - 2 * Qz c := rfl
 have hdev : newD c.zones c.size 3 3 = newX c.zones c.size 3 3 := by unfold newD; rw [if_pos he]
 have hck : check (newX c.zones c.size 3 3) = 0 := by
  unfold newE at he
  rw [if_pos (decide_eq_true (by omega))] at he
  exact he
 refine ⟨⟨h, ?_, ?_, ?_, ?_, ?_, ?_, ?_, ?_, ?_, ?_, ?_, ?_, ?_, ?_, ?_, ?_, ?_⟩, fun i hi => ?_, fun i hi => absurd hi (Nat.not_lt_zero _)⟩
 ·show check (newD c.zones c.size 3 3) = 0
  rw [hdev]; exact hck
 ·show ((newD c.zones c.size 3 3).zones.length : Int) = c.zones
  rw [hdev]; simp only [newX, List.length_replicate]; omega
 ·show (newD c.zones c.size 3 3).size = c.size
  rw [hdev]; rfl
 ·exact QrL (by omega)
 ·simp only [Qs, List.length_replicate]; omega
 ·simp only [Qs, QaJ, decide_eq_true_eq, List.length_replicate]
  intro i hi k hk
  rw [Qa9 hi] at hk
  exact absurd hk (Nat.not_lt_zero _)
 ·exact Qp6 (by omega)
 ·simp only [Qs, List.length_replicate]; omega
 ·simp only [Qs, QbI, List.length_replicate, Bool.and_eq_true, decide_eq_true_eq]
  refine ⟨by omega, fun i hi => ?_⟩
  rw [Qa9 hi]; omega
 ·simp only [Qs, List.length_replicate]; omega
 ·exact Qpu (by omega)
 ·simp only [Qs, List.length_replicate]; omega
 ·refine (Bool.and_eq_true _ _).mpr ⟨decide_eq_true h, (Bool.and_eq_true _ _).mpr ⟨decide_eq_true fun i hi => ?_, (Bool.and_eq_true _ _).mpr ⟨decide_eq_true (Or.inl rfl), (Bool.and_eq_true _ _).mpr ⟨decide_eq_true (Or.inl rfl), decide_eq_true (Or.inl rfl)⟩⟩⟩⟩
  have hi' : i < (Qp c).toNat := by rw [← QbT c (Qp c).toNat]; exact hi
  show Qam c ((QbC c (Qp c).toNat).getD i default) = true ∧ (0 < i → (QbC c (Qp c).toNat).getD (i - 1) default < (QbC c (Qp c).toNat).getD i default)
  rw [Qhy hi']
  refine ⟨decide_eq_true ⟨h, by omega, by omega⟩, fun h0 => ?_⟩
  rw [Qhy (by omega)]
  omega
 ·simp only [Qs, List.length_replicate]; omega
 ·simp only [Qs, List.length_replicate]; omega
 ·simp only [Qs]; omega
 ·simp only [Qs]; omega
 ·simp only [Qs, List.length_replicate] at hi ⊢
  rw [Qa9 hi, Qa9 hi]
  refine ⟨?_, rfl, Qli, Or.inl rfl, fun k hk => absurd hk (Nat.not_lt_zero _)⟩
  rw [ringOk_R]
  refine ⟨⟨by show 1 ≤ c.depth; omega, by show c.depth ≤ 8; omega, by show ((0 : Nat) : Int) ≤ c.depth; omega⟩, fun i hi => absurd hi (Nat.not_lt_zero _)⟩
end Go.Proofs
end
