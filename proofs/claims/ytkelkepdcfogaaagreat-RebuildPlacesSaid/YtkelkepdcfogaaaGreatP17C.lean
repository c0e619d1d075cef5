/- Contracts, lemmas; no condition. -/
import Derived.Test.YtkelkepdcfogaaaGreatP16C
import Derived.Test.YtkelkepdcfogaaaGreatP11C
import Derived.Test.YtkelkepdcfogaaaGreatP13C
set_option linter.all false
section
open Go Go.Am
namespace Go.Proofs
set_option maxRecDepth 20000
theorem Qb2 {p : Nat → Prop} {k : Nat} (h : ∀ i, i < k → p i) (hk : p k) : ∀ i, i < k + 1 → p i := fun i hi => by
 by_cases c : i = k
 ·subst c; exact hk
 ·exact h i (by omega)
def Qi (c : Conf) : Int := (c.blocks + 2 + c.size - 1).tdiv c.size
def Qaj (c : Conf) : Int := c.zones - 2 * Qi c
def capN (c : Conf) : Int := (Qaj c - 3) * (c.size - 1) - c.queues - 1
def Qbo (c : Conf) : Bool := decide (3 ≤ c.size ∧ c.size ≤ 64 ∧ 1 ≤ c.zones ∧ c.zones ≤ 32 ∧ 1 ≤ c.blocks ∧ c.blocks ≤ 128 ∧ 1 ≤ c.queues ∧ c.queues ≤ 4 ∧ 1 ≤ c.depth ∧ c.depth ≤ 8 ∧ 1 ≤ c.shards ∧ c.shards ≤ 8)
def Qm (c : Conf) : Int := if Qbo c = true then if Qaj c < 6 ∨ capN c < 1 then 11 else 0 else 1
theorem confR_iff {c : Conf} : Qbo c = true ↔ 3 ≤ c.size ∧ c.size ≤ 64 ∧ 1 ≤ c.zones ∧ c.zones ≤ 32 ∧ 1 ≤ c.blocks ∧ c.blocks ≤ 128 ∧ 1 ≤ c.queues ∧ c.queues ≤ 4 ∧ 1 ≤ c.depth ∧ c.depth ≤ 8 ∧ 1 ≤ c.shards ∧ c.shards ≤ 8 := by
 unfold Qbo; rw [decide_eq_true_eq]
theorem Qat {c : Conf} (h : Qm c = 0) : Qbo c = true ∧ 6 ≤ Qaj c ∧ 1 ≤ capN c := by
 unfold Qm at h
 split at h
 ·rename_i hr
  split at h
  ·omega
  ·exact ⟨hr, by omega, by omega⟩
 ·omega
theorem Qao {c : Conf} (h : Qbo c = true) : 1 ≤ Qi c ∧ Qi c ≤ 130 := by
 rw [confR_iff] at h
 unfold Qi
 have h0 : 0 ≤ c.blocks + 2 + c.size - 1 := by omega
 rw [Int.tdiv_eq_ediv_of_nonneg h0]
 constructor
 ·have : 1 * c.size ≤ c.blocks + 2 + c.size - 1 := by omega
  exact (Int.le_ediv_iff_mul_le (by omega)).2 this
 ·have : (c.blocks + 2 + c.size - 1) < 131 * c.size := by omega
  have := Int.ediv_lt_of_lt_mul (by omega) this
  omega
def QaN (c : Conf) (z : Int) : Bool := decide (Qm c = 0 ∧ 2 * Qi c ≤ z ∧ z < c.zones)
def QaQ (e : Ent) : Bool := decide ((e.kind = 1 ∨ e.kind = 2) ∧ 1 ≤ e.version ∧ e.version ≤ 1099511627776 ∧ 0 ≤ e.move ∧ e.move ≤ 255 ∧ 0 ≤ e.block ∧ 0 ≤ e.zone ∧ 0 ≤ e.offset)
def Qy (l : List Ent) : Bool := decide (∀ i, i < l.length → QaQ (l.getD i default) = true ∧ (0 < i → (l.getD (i - 1) default).block < (l.getD i default).block))
def Qax (l : List Ent) (n i : Nat) : Bool := decide (∀ k, k < l.length → (l.getD k default).block.tmod n = i)
def QL (m : List (List Ent)) : Bool := decide (1 ≤ m.length ∧ m.length ≤ 8) && decide (∀ i, i < m.length → Qy (m.getD i default) = true ∧ Qax (m.getD i default) m.length i = true)
def QeJ (live pend : List Int) : Bool := decide (live.length = pend.length ∧ 1 ≤ live.length ∧ live.length ≤ 32) && decide (∀ i, i < live.length → 0 ≤ live.getD i default ∧ live.getD i default ≤ 1099511627776 ∧ 0 ≤ pend.getD i default ∧ pend.getD i default ≤ 1099511627776)
def QjB (o : List Int) : Bool := decide (1 ≤ o.length ∧ o.length ≤ 8) && decide (∀ i, i < o.length → -1 ≤ o.getD i default)
def QvN (glob : Int) (pins : List Int) : Bool := decide (∀ i, i < pins.length → pins.getD i default = -1 ∨ 0 ≤ pins.getD i default ∧ (pins.getD i default = glob ∨ pins.getD i default = glob - 1))
def QvU (glob : Int) (rets : List Ret) : Bool := decide (∀ i, i < rets.length → 0 ≤ (rets.getD i default).zone ∧ 0 ≤ (rets.getD i default).epoch ∧ (rets.getD i default).epoch ≤ glob ∧ ∀ j, j < i → (rets.getD j default).zone ≠ (rets.getD i default).zone)
def Qek (glob : Int) (pins : List Int) (rets : List Ret) : Bool := decide (1 ≤ pins.length ∧ pins.length ≤ 4 ∧ 0 ≤ glob ∧ glob ≤ 1099511627776) && (QvN glob pins && QvU glob rets)
def Qs6 (c : Conf) (free : List Int) (z : Int) : Bool := decide (z = -1 ∨ QaN c z = true ∧ z ∉ free)
def QvA (c : Conf) (free : List Int) : Bool := decide (∀ i, i < free.length → QaN c (free.getD i default) = true ∧ (0 < i → free.getD (i - 1) default < free.getD i default))
def QsD (c : Conf) (free : List Int) (host lane : Int) : Bool := decide (Qm c = 0) && (QvA c free && (Qs6 c free host && (Qs6 c free lane && decide (host = -1 ∨ host ≠ lane))))
def Qjc (r : Rng) : Bool := decide (1 ≤ r.depth ∧ r.depth ≤ 8 ∧ (r.items.length : Int) ≤ r.depth) && decide (∀ i, i < r.items.length → 0 ≤ (r.items.getD i default).serial ∧ (0 < i → (r.items.getD (i - 1) default).serial < (r.items.getD i default).serial))
def cmdE (c : Conf) (r : Req) : Int :=
 if r.kind < 1 ∨ 4 < r.kind then 3 else if r.kind = 4 ∧ r.block ≠ 0 ∨ r.kind ≠ 4 ∧ (r.block < 0 ∨ c.blocks ≤ r.block) then 1 else if r.kind = 2 ∧ r.data.size ≠ 16 ∨ r.kind ≠ 2 ∧ r.data.size ≠ 0 then 2 else 0
def Qpw (c : Conf) (w : Wrk) : Bool := decide (w.state = 0 ∨ cmdE c w.req = 0 ∧ (w.req.kind = 1 → 1 ≤ w.state ∧ w.state ≤ 4) ∧ (w.req.kind = 4 → w.state = 10 ∨ w.state = 11) ∧ (w.req.kind ≠ 1 → w.req.kind ≠ 4 → 5 ≤ w.state ∧ w.state ≤ 9))
def Qmv (m : List (List Ent)) (n : Int) : Bool := decide (∀ i, i < m.length → ∀ k, k < (m.getD i default).length → ((m.getD i default).getD k default).block < n)
def Qvs (s : St) : Bool :=
 decide (Qm s.cfg = 0) && (decide (check s.dev = 0) && (decide ((s.dev.zones.length : Int) = s.cfg.zones ∧ s.dev.size = s.cfg.size) && (QL s.map && (decide ((s.map.length : Int) = s.cfg.shards) && (Qmv s.map s.cfg.blocks && (QeJ s.live s.pend && (decide ((s.live.length : Int) = s.cfg.zones) && (QjB s.owner && (decide ((s.owner.length : Int) = s.cfg.shards) && (Qek s.glob s.pins s.rets && (decide ((s.pins.length : Int) = s.cfg.queues) && (QsD s.cfg s.free s.host s.lane && (decide ((s.rings.length : Int) = s.cfg.queues ∧ (s.works.length : Int) = s.cfg.queues) &&
  decide (1 ≤ s.next ∧ s.next ≤ 1099511627776 ∧ 0 ≤ s.serial ∧ s.serial ≤ 1099511627776))))))))))))))
def QuI (s : St) (i : Nat) : Bool :=
 Qjc (s.rings.getD i default) && (decide ((s.rings.getD i default).depth = s.cfg.depth) && (Qpw s.cfg (s.works.getD i default) && (decide ((s.works.getD i default).state = 0 ∨ (s.works.getD i default).req.serial < s.serial) && decide (∀ k, k < (s.rings.getD i default).items.length → ((s.rings.getD i default).items.getD k default).serial < s.serial))))
def QfE (s : St) : Bool := Qvs s && (decide (∀ i, i < s.rings.length → QuI s i = true) && decide (∀ i, i < s.evs.length → (s.evs.getD i default).serial < s.serial))
def Qrk (l : List Evt) (n : Int) : Bool := l.any fun e => e.ret && decide (e.serial = n)
def QtB (l : List Evt) (n : Int) : Bool := l.any fun e => !e.ret && decide (e.serial = n)
def QgM (l : List Evt) : Nat → List Int
 | 0 => []
 | k + 1 => if (l.getD k default).ret = false ∧ Qrk l (l.getD k default).serial = false ∧ QtB (l.take k) (l.getD k default).serial = false then QgM l k ++ [(l.getD k default).serial] else QgM l k
def Qv9 (l : List Evt) : List Int := QgM l l.length
theorem QqF (l : List Evt) : ∀ k, (QgM l k).length ≤ k
 | 0 => Nat.le_refl _
 | k + 1 => by
  have := QqF l k
  simp only [QgM]
  split
  ·simp; omega
  ·omega
def Qvh (r : Rng) (x : Req) : Rng × Int :=
 if Qjc r = true then
  if (r.items.length : Int) = r.depth then (r, 13)
  else if x.serial < 0 ∨ 0 < r.items.length ∧ x.serial ≤ (r.items.getD (r.items.length - 1) default).serial then (r, 17)
  else (⟨r.depth, r.items ++ [x]⟩, 0)
 else (r, 6)
def QtD (r : Rng) : Rng × Req × Bool :=
 if Qjc r = true ∧ 0 < r.items.length then (⟨r.depth, r.items.drop 1⟩, r.items.getD 0 default, true) else (r, default, false)
def St.addEv (s : St) (e : Evt) : St := { s with evs := s.evs ++ [e] }
def St.setRing (s : St) (q : Nat) (r : Rng) : St := { s with rings := s.rings.set q r }
def St.setWork (s : St) (q : Nat) (w : Wrk) : St := { s with works := s.works.set q w }
def Qjd (back : Bool) (q : Int) (r : Req) (err : Int) (d : ByteArray) : Evt := ⟨back, q, r.serial, r.kind, r.block, r.data, err, d⟩
def answerS (s : St) (q : Int) (err : Int) (d : ByteArray) : St × Bool :=
 if QfE s = true ∧ 0 ≤ q ∧ q < s.works.length ∧ (s.works.getD q.toNat default).state ≠ 0 then
  ((s.addEv (Qjd true q (s.works.getD q.toNat default).req err d)).setWork q.toNat default, true)
 else (s, false)
def submitS (s : St) (q : Int) (x : Req) : St × Int :=
 if QfE s = true then
  if 0 ≤ q ∧ q < s.rings.length then
   if 398 < s.evs.length + (Qv9 s.evs).length ∨ 1099511627776 ≤ s.serial then (s, 19)
   else
    let y : Req := { x with serial := s.serial }
    if s.closed = true then
     (({ s with serial := s.serial + 1 }.addEv (Qjd false q y 0 ByteArray.empty)).addEv (Qjd true q y 12 ByteArray.empty), 0)
    else
     let r := Qvh (s.rings.getD q.toNat default) y
     if r.2 ≠ 0 then (s, r.2)
     else ({ (s.setRing q.toNat r.1) with serial := s.serial + 1 }.addEv (Qjd false q y 0 ByteArray.empty), 0)
  else (s, 1)
 else (s, 6)
def QvD (k : Int) : Int := if k = 1 then 1 else if k = 4 then 10 else 5
def beginS (own : Bool) (s : St) (q : Int) : St × Bool :=
 if QfE s = true ∧ 0 ≤ q ∧ q < s.works.length ∧ (s.works.getD q.toNat default).state = 0 then
  let t := QtD (s.rings.getD q.toNat default)
  if t.2.2 = true then
   let s1 := s.setRing q.toNat t.1
   if cmdE s.cfg t.2.1 = 0 then (s1.setWork q.toNat ⟨QvD t.2.1.kind, t.2.1, default, ByteArray.empty⟩, true)
   else ((if own = true then s1.setWork q.toNat default else s1).addEv (Qjd true q t.2.1 (cmdE s.cfg t.2.1) ByteArray.empty), true)
  else (s, false)
 else (s, false)
def Qm9 (w : Wrk) : Bool := decide (w.state = 7 ∨ w.state = 8)
def Qqz (n : Int) (l : List Wrk) : Nat → Int
 | 0 => n
 | k + 1 => if Qm9 (l.getD k default) = true ∧ ((l.take k).any Qm9 = false ∨ (l.getD k default).ent.version < Qqz n l k) then (l.getD k default).ent.version else Qqz n l k
def cutS (s : St) : Int := if QfE s = true then Qqz s.next s.works s.works.length else 0
def Qv3 (n : Int) (e : Ent) : Bool := decide (e.kind = 2 ∧ e.version < n)
def Qv2 (s : St) : Bool := QfE s && s.map.any fun l => l.any (Qv3 (cutS s))
def Quv (r : List Ret) (z : Int) : Bool := r.any fun x => decide (x.zone = z)
def canV (s : St) (z : Int) : Bool := QaN s.cfg z && (decide (z < s.dev.zones.length ∧ z < s.live.length ∧ z < s.pend.length) && (decide ((s.dev.zones.getD z.toNat default).state = 4 ∧ s.pend.getD z.toNat default = 0 ∧ z ≠ s.host ∧ z ≠ s.lane) && (!Quv s.rets z && decide (s.live.getD z.toNat default < s.cfg.size - 1))))
def Qcm (s : St) : Nat → Nat × Bool
 | 0 => (0, false)
 | k + 1 => if canV s k = true ∧ ((Qcm s k).2 = false ∨ s.live.getD k default < s.live.getD (Qcm s k).1 default) then (k, true) else Qcm s k
def QuY (s : St) : Nat × Bool := Qcm s s.dev.zones.length
theorem QsI {s : St} : ∀ {k : Nat}, (Qcm s k).2 = true → (Qcm s k).1 < k ∧ canV s (Qcm s k).1 = true
 | 0, h => by cases h
 | k + 1, h => by
  unfold Qcm at h ⊢
  split
  ·rename_i c; exact ⟨by simp, c.1⟩
  ·rename_i c
   rw [if_neg c] at h
   have := QsI h
   exact ⟨by omega, this.2⟩
theorem QoM {s : St} : ∀ {k : Nat}, (Qcm s k).2 = false → (Qcm s k).1 = 0
 | 0, _ => rfl
 | k + 1, h => by
  unfold Qcm at h ⊢
  split
  ·rename_i c; rw [if_pos c] at h; cases h
  ·rename_i c
   rw [if_neg c] at h
   exact QoM h
def hopeS (s : St) : Bool := QfE s && ((QuY s).2 || (decide (0 < s.rets.length) || ((s.pend.any fun x => decide (0 < x)) || (decide (s.cln.state ≠ 0) || (decide (s.sav.state ≠ 0) || (s.want || Qv2 s))))))
def Qq (l : List Ent) (b : Int) : Nat := l.findIdx fun e => decide (b ≤ e.block)
theorem QdW (l : List Ent) (b : Int) : Qq l b ≤ l.length := List.findIdx_le_length
theorem QgK {l : List Ent} {b : Int} {k : Nat} (hk : k ≤ l.length) (h : ∀ i, i < k → (l.getD i default).block < b) (he : k = l.length ∨ b ≤ (l.getD k default).block) : Qq l b = k := by
 unfold Qq
 rcases he with rfl | he
 ·refine List.findIdx_eq_length.2 fun x hx => ?_
  obtain ⟨i, hi, rfl⟩ := List.getElem_of_mem hx
  have := h i hi
  rw [show l.getD i default = l[i] by simp [List.getD, hi]] at this
  exact decide_eq_false (by omega)
 ·by_cases c : k < l.length
  ·rw [List.findIdx_eq c]
   refine ⟨?_, fun j hj => ?_⟩
   ·rw [show l.getD k default = l[k] by simp [List.getD, c]] at he
    exact decide_eq_true he
   ·have := h j hj
    rw [show l.getD j default = l[j] by simp [List.getD, show j < l.length by omega]] at this
    exact decide_eq_false (by omega)
  ·have : k = l.length := by omega
   subst this
   refine List.findIdx_eq_length.2 fun x hx => ?_
   obtain ⟨i, hi, rfl⟩ := List.getElem_of_mem hx
   have := h i hi
   rw [show l.getD i default = l[i] by simp [List.getD, hi]] at this
   exact decide_eq_false (by omega)
def hasM (l : List Ent) (b : Int) : Bool := decide (Qq l b < l.length ∧ (l.getD (Qq l b) default).block = b)
def QI (l : List Ent) (b : Int) : Ent × Bool := if Qy l = true ∧ hasM l b = true then (l.getD (Qq l b) default, true) else (default, false)
def putE (l : List Ent) (e : Ent) : List Ent := l.take (Qq l e.block) ++ e :: l.drop (if hasM l e.block = true then Qq l e.block + 1 else Qq l e.block)
def QB (l : List Ent) (e : Ent) : List Ent × Ent × Bool :=
 if Qy l = true then
  if QaQ e = true then
   if (QI l e.block).2 = true ∧ e.version ≤ (QI l e.block).1.version then (l, (QI l e.block).1, false)
   else (putE l e, (QI l e.block).1, true)
  else (l, default, false)
 else ([], default, false)
def relE (l : List Ent) (b v fz fo tz t2 move : Int) : List Ent × Bool :=
 if Qy l = true then
  if (QI l b).2 = true ∧ (QI l b).1.version = v ∧ (QI l b).1.zone = fz ∧ (QI l b).1.offset = fo ∧ 0 ≤ tz ∧ 0 ≤ t2 ∧ 0 ≤ move ∧ move ≤ 255 then
   (l.set (Qq l b) { (QI l b).1 with zone := tz, offset := t2, move := move }, true)
  else (l, false)
 else ([], false)
def Qg (m : List (List Ent)) (b : Int) : Nat := (b.tmod m.length).toNat
def Qbg (m : List (List Ent)) (b : Int) : Ent × Bool := if QL m = true ∧ 0 ≤ b then QI (m.getD (Qg m b) default) b else (default, false)
def Qar (m : List (List Ent)) (e : Ent) : List (List Ent) × Ent × Bool :=
 if QL m = true ∧ 0 ≤ e.block then
  if (QB (m.getD (Qg m e.block) default) e).2.2 = true then (m.set (Qg m e.block) (QB (m.getD (Qg m e.block) default) e).1, (QB (m.getD (Qg m e.block) default) e).2.1, true)
  else (m, (QB (m.getD (Qg m e.block) default) e).2.1, false)
 else (m, default, false)
def relM (m : List (List Ent)) (b v fz fo tz t2 move : Int) : List (List Ent) × Bool :=
 if QL m = true ∧ 0 ≤ b then
  if (relE (m.getD (Qg m b) default) b v fz fo tz t2 move).2 = true then (m.set (Qg m b) (relE (m.getD (Qg m b) default) b v fz fo tz t2 move).1, true) else (m, false)
 else (m, false)
theorem QdP {m : List (List Ent)} (h : QL m = true) : 1 ≤ m.length ∧ m.length ≤ 8 := by
 unfold QL at h
 simp only [Bool.and_eq_true, decide_eq_true_eq] at h
 exact h.1
theorem Qe4 {m : List (List Ent)} (h : QL m = true) {i : Nat} (hi : i < m.length) : Qy (m.getD i default) = true ∧ Qax (m.getD i default) m.length i = true := by
 unfold QL at h
 simp only [Bool.and_eq_true, decide_eq_true_eq] at h
 exact h.2 i hi
theorem QbF {m : List (List Ent)} (h : QL m = true) {b : Int} (hb : 0 ≤ b) : Qg m b < m.length := by
 have := QdP h
 unfold Qg
 have h1 := Int.tmod_nonneg (m.length : Int) hb
 have h2 := Int.tmod_lt_of_pos b (show 0 < (m.length : Int) by omega)
 omega
theorem Qfq {m : List (List Ent)} (h : QL m = true) {b : Int} (hb : 0 ≤ b) : (Qg m b : Int) = b.tmod m.length := by
 have := QdP h
 have h1 := Int.tmod_nonneg (m.length : Int) hb
 unfold Qg
 omega
def Qbj (l : List Ent) (b : Int) : Nat → Nat
 | 0 => 0
 | k + 1 => if b < (l.getD k default).block then Qbj l b k else k + 1
theorem QhV (l : List Ent) (b : Int) : ∀ k, Qbj l b k ≤ k
 | 0 => Nat.le_refl _
 | k + 1 => by
  have := QhV l b k
  unfold Qbj
  split <;> omega
def insE (l : List Ent) (x : Ent) : List Ent := l.take (Qbj l x.block l.length) ++ x :: l.drop (Qbj l x.block l.length)
theorem Qh3 (l : List Ent) (x : Ent) : (insE l x).length = l.length + 1 := by
 have := QhV l x.block l.length
 simp [insE]; omega
def allM (m : List (List Ent)) : List Ent := m.flatten.foldl insE []
def allS (m : List (List Ent)) : List Ent := if QL m = true then allM m else []
theorem Qas {α : Type} [Inhabited α] (l : List α) (i : Nat) (h : i < l.length) : l.getD i default = l[i] := by simp [List.getD, h]
def Asc (l : List Ent) : Prop := l.Pairwise fun a b => a.block < b.block
theorem Qi4 {l : List Ent} {b : Int} : ∀ {k : Nat}, k ≤ l.length → (∀ i, Qbj l b k ≤ i → i < k → b < (l.getD i default).block) ∧ (0 < Qbj l b k → (l.getD (Qbj l b k - 1) default).block ≤ b)
 | 0, _ => ⟨fun i _ h => by omega, fun h => by simp [Qbj] at h⟩
 | k + 1, hk => by
  obtain ⟨h1, h2⟩ := Qi4 (l := l) (b := b) (k := k) (by omega)
  unfold Qbj
  split
  ·rename_i c
   refine ⟨fun i hi hik => ?_, h2⟩
   by_cases e : i = k
   ·subst e; exact c
   ·exact h1 i hi (by omega)
  ·rename_i c
   exact ⟨fun i hi hik => by omega, fun _ => by simpa using Int.not_lt.1 c⟩
theorem Asc.get {l : List Ent} (h : Asc l) {i j : Nat} (hi : i < j) (hj : j < l.length) : (l.getD i default).block < (l.getD j default).block := by
 rw [Qas _ _ (by omega), Qas _ _ hj]
 exact List.pairwise_iff_getElem.1 h i j (by omega) hj hi
theorem Qri (l : List Ent) (x : Ent) : (insE l x).Perm (x :: l) := by
 unfold insE
 refine (List.perm_middle).trans ?_
 rw [List.take_append_drop]
theorem QtS {l : List Ent} {x : Ent} (h : Asc l) (hx : ∀ e ∈ l, e.block ≠ x.block) : Asc (insE l x) := by
 obtain ⟨s1, s2⟩ := Qi4 (l := l) (b := x.block) (k := l.length) (Nat.le_refl _)
 have sl := QhV l x.block l.length
 generalize hs : Qbj l x.block l.length = s at *
 unfold insE
 rw [hs]
 have lo : ∀ i, i < s → (l.getD i default).block < x.block := fun i hi => by
  have h1 := s2 (by omega)
  have h2 := hx (l.getD (s - 1) default) (by rw [Qas _ _ (show s - 1 < l.length by omega)]; exact List.getElem_mem _)
  have h3 : (l.getD (s - 1) default).block < x.block := by omega
  by_cases e : i = s - 1
  ·rw [e]; exact h3
  ·have := h.get (i := i) (j := s - 1) (by omega) (by omega)
   omega
 refine List.pairwise_append.2 ⟨List.Pairwise.sublist (List.take_sublist _ _) h, ?_, ?_⟩
 ·refine List.pairwise_cons.2 ⟨fun e he => ?_, List.Pairwise.sublist (List.drop_sublist _ _) h⟩
  obtain ⟨i, hi, rfl⟩ := List.getElem_of_mem he
  rw [List.length_drop] at hi
  have := s1 (s + i) (by omega) (by omega)
  rw [Qas _ _ (by omega)] at this
  simpa using this
 ·intro a ha b hb
  obtain ⟨i, hi, rfl⟩ := List.getElem_of_mem ha
  rw [List.length_take] at hi
  have hl := lo i (by omega)
  rw [Qas _ _ (by omega)] at hl
  have ea : (l.take s)[i]'(by rw [List.length_take]; omega) = l[i]'(by omega) := by simp
  rw [ea]
  rcases List.mem_cons.1 hb with rfl | hb
  ·exact hl
  ·obtain ⟨j, hj, rfl⟩ := List.getElem_of_mem hb
   rw [List.length_drop] at hj
   have := s1 (s + j) (by omega) (by omega)
   rw [Qas _ _ (by omega)] at this
   simp only [List.getElem_drop]
   omega
theorem Qwd {l : List Ent} : ∀ {out : List Ent}, Asc out → (∀ e ∈ out, ∀ x ∈ l, e.block ≠ x.block) → (l.map Ent.block).Nodup → Asc (l.foldl insE out) ∧ (l.foldl insE out).Perm (l ++ out) := by
 induction l with
 | nil => intro out h _ _; exact ⟨h, List.Perm.refl _⟩
 | cons x l ih =>
  intro out h hx hn
  simp only [List.map_cons, List.nodup_cons] at hn
  have h1 := QtS h fun e he => hx e he x (List.mem_cons_self ..)
  have h2 := Qri out x
  obtain ⟨i1, i2⟩ := ih (out := insE out x) h1 (fun e he y hy => by
   have := h2.mem_iff.1 he
   rcases List.mem_cons.1 this with rfl | he
   ·exact fun q => hn.1 (q ▸ List.mem_map_of_mem hy)
   ·exact hx e he y (List.mem_cons_of_mem _ hy)) hn.2
  refine ⟨i1, i2.trans ?_⟩
  refine (List.Perm.append_left l h2).trans ?_
  exact List.perm_middle
theorem QkH {m : List (List Ent)} (h : QL m = true) {i : Nat} (hi : i < m.length) {e : Ent} (he : e ∈ m.getD i default) : e.block.tmod m.length = i ∧ QaQ e = true := by
 obtain ⟨h1, h2⟩ := Qe4 h hi
 obtain ⟨k, hk, rfl⟩ := List.getElem_of_mem he
 unfold Qax at h2
 unfold Qy at h1
 rw [decide_eq_true_eq] at h1 h2
 have a := h2 k hk
 have b := (h1 k hk).1
 rw [Qas _ _ hk] at a b
 exact ⟨a, b⟩
theorem Qs2 {l : List Ent} (h : Qy l = true) : Asc l := by
 unfold Qy at h
 rw [decide_eq_true_eq] at h
 have key : ∀ d i, i + d + 1 < l.length → (l.getD i default).block < (l.getD (i + d + 1) default).block := by
  intro d
  induction d with
  | zero => intro i hi; exact (h (i + 1) hi).2 (by omega)
  | succ d ih =>
   intro i hi
   have h1 := ih i (by omega)
   have h2 := (h (i + (d + 1) + 1) hi).2 (by omega)
   rw [show i + (d + 1) + 1 - 1 = i + d + 1 by omega] at h2
   omega
 refine List.pairwise_iff_getElem.2 fun i j hi hj hij => ?_
 have := key (j - i - 1) i (by omega)
 rw [show i + (j - i - 1) + 1 = j by omega, Qas _ _ hi, Qas _ _ hj] at this
 exact this
theorem Qii {m : List (List Ent)} (h : QL m = true) : (m.flatten.map Ent.block).Nodup := by
 rw [List.map_flatten, List.Nodup, List.pairwise_flatten]
 constructor
 ·intro l hl
  obtain ⟨x, hx, rfl⟩ := List.mem_map.1 hl
  obtain ⟨i, hi, rfl⟩ := List.getElem_of_mem hx
  have := Qs2 (Qe4 h hi).1
  rw [Qas _ _ hi] at this
  exact List.pairwise_map.2 (this.imp fun h => by omega)
 ·rw [List.pairwise_map, List.pairwise_iff_getElem]
  intro i j hi hj hij a ha b hb hab
  subst hab
  obtain ⟨e, he, rfl⟩ := List.mem_map.1 ha
  obtain ⟨e', he', h3⟩ := List.mem_map.1 hb
  have h1 := (QkH h hi (e := e) (by rw [Qas _ _ hi]; exact he)).1
  have h2 := (QkH h hj (e := e') (by rw [Qas _ _ hj]; exact he')).1
  rw [h3, h1] at h2
  omega
theorem QrO {m : List (List Ent)} (h : QL m = true) : Asc (allM m) ∧ (allM m).Perm m.flatten := by
 have := Qwd (l := m.flatten) (out := []) List.Pairwise.nil (fun e he => by cases he) (Qii h)
 rw [List.append_nil] at this
 exact this
theorem QrP {m : List (List Ent)} (h : QL m = true) {l : List Ent} (hp : l.Perm m.flatten) (hs : l.Pairwise fun a b => ¬ b.block < a.block) : l = allM m := by
 obtain ⟨a1, a2⟩ := QrO h
 refine List.Perm.eq_of_pairwise (le := fun a b => ¬ b.block < a.block) (fun a b ha hb h1 h2 => ?_) hs (a1.imp fun h => by omega) (hp.trans a2.symm)
 have hb' := a2.mem_iff.1 hb
 have ha' := hp.mem_iff.1 ha
 have hn := Qii h
 obtain ⟨i, hi, rfl⟩ := List.getElem_of_mem ha'
 obtain ⟨j, hj, rfl⟩ := List.getElem_of_mem hb'
 have hne : i = j := by
  refine Decidable.byContradiction fun hij => ?_
  have hp := List.pairwise_iff_getElem.1 hn
  have hi' : i < (m.flatten.map Ent.block).length := by rw [List.length_map]; exact hi
  have hj' : j < (m.flatten.map Ent.block).length := by rw [List.length_map]; exact hj
  rcases Nat.lt_or_gt_of_ne hij with c | c
  ·exact hp i j hi' hj' c (by rw [List.getElem_map, List.getElem_map]; omega)
  ·exact hp j i hj' hi' c (by rw [List.getElem_map, List.getElem_map]; omega)
 subst hne
 rfl
theorem Qdm {α : Type} {l : List α} {q i : Nat} {x d : α} (hq : q < l.length) : (l.set q x).getD i d = if i = q then x else l.getD i d := by
 simp only [List.getD, List.getElem?_set]
 by_cases h : q = i
 ·subst h; simp [hq]
 ·rw [if_neg h, if_neg (fun e => h e.symm)]
theorem QsQ {α : Type} {l : List α} {i : Nat} {x d : α} (hi : i < l.length + 1) : (l ++ [x]).getD i d = if i = l.length then x else l.getD i d := by
 simp only [List.getD]
 by_cases h : i = l.length
 ·subst h; simp
 ·rw [if_neg h, List.getElem?_append_left (by omega)]
structure QOk (c : Conf) (serial : Int) (r : Rng) (w : Wrk) : Prop where
 ring : Qjc r = true
 depth : r.depth = c.depth
 work : Qpw c w = true
 req : w.state = 0 ∨ w.req.serial < serial
 items : ∀ k, k < r.items.length → (r.items.getD k default).serial < serial
theorem QOk.later {c : Conf} {n n' : Int} {r : Rng} {w : Wrk} (h : QOk c n r w) (hn : n ≤ n') : QOk c n' r w :=
 ⟨h.ring, h.depth, h.work, h.req.imp id fun k => by omega, fun k hk => by have := h.items k hk; omega⟩
structure Parts (s : St) : Prop where
 cfg : Qm s.cfg = 0
 dev : check s.dev = 0
 zones : (s.dev.zones.length : Int) = s.cfg.zones
 size : s.dev.size = s.cfg.size
 map : QL s.map = true
 shards : (s.map.length : Int) = s.cfg.shards
 blocks : Qmv s.map s.cfg.blocks = true
 counts : QeJ s.live s.pend = true
 live : (s.live.length : Int) = s.cfg.zones
 locks : QjB s.owner = true
 stripes : (s.owner.length : Int) = s.cfg.shards
 epochs : Qek s.glob s.pins s.rets = true
 pins : (s.pins.length : Int) = s.cfg.queues
 pool : QsD s.cfg s.free s.host s.lane = true
 rings : (s.rings.length : Int) = s.cfg.queues
 works : (s.works.length : Int) = s.cfg.queues
 next : 1 ≤ s.next ∧ s.next ≤ 1099511627776
 serial : 0 ≤ s.serial ∧ s.serial ≤ 1099511627776
structure Val (s : St) : Prop where
 parts : Parts s
 queues : ∀ i, i < s.rings.length → QOk s.cfg s.serial (s.rings.getD i default) (s.works.getD i default)
 evs : ∀ i, i < s.evs.length → (s.evs.getD i default).serial < s.serial
theorem Val.setWork {s : St} (h : Val s) {q : Nat} {w : Wrk} (hq : q < s.works.length) (h1 : Qpw s.cfg w = true) (h2 : w.state = 0 ∨ w.req.serial < s.serial) : Val (s.setWork q w) := by
 refine ⟨{ h.parts with works := by simp only [St.setWork, List.length_set]; exact h.parts.works }, fun i hi => ?_, h.evs⟩
 have := h.queues i hi
 simp only [St.setWork]
 rw [Qdm hq]
 split
 ·rename_i e; subst e; exact ⟨this.ring, this.depth, h1, h2, this.items⟩
 ·exact this
theorem Val.addEv {s : St} (h : Val s) {e : Evt} (he : e.serial < s.serial) : Val (s.addEv e) := by
 refine ⟨{ h.parts with }, h.queues, fun i hi => ?_⟩
 simp only [St.addEv, List.length_append, List.length_cons, List.length_nil] at hi ⊢
 rw [QsQ hi]
 split
 ·exact he
 ·exact h.evs i (by omega)
def QiX (l : List Int) (i n : Int) : List Int := l.set i.toNat (l.getD i.toNat default + n)
@[simp] theorem addAt_len (l : List Int) (i n : Int) : (QiX l i n).length = l.length := List.length_set
def hasC (live pend : List Int) (z : Int) : Bool := QeJ live pend && decide (0 ≤ z ∧ z < live.length)
def QuD (live : List Int) (oz fz : Int) (had is : Bool) : List Int :=
 if is = true then QiX (if had = true then QiX live oz (-1) else live) fz 1 else if had = true then QiX live oz (-1) else live
def changeM (live pend : List Int) (oz fz : Int) (had is : Bool) : List Int × Bool :=
 if QeJ live pend = true ∧ (had = true → hasC live pend oz = true) ∧ (is = true → hasC live pend fz = true) ∧ QeJ (QuD live oz fz had is) pend = true then (QuD live oz fz had is, true) else (live, false)
def beginM (live pend : List Int) (z : Int) : List Int × Bool :=
 if hasC live pend z = true ∧ pend.getD z.toNat default ≠ 1099511627776 then (QiX pend z 1, true) else (pend, false)
def Qwa (o : List Int) (i : Int) : Bool := QjB o && decide (0 ≤ i ∧ i < o.length ∧ o.getD i.toNat default = -1)
def takeL (o : List Int) (i t : Int) : List Int × Bool := if Qwa o i = true ∧ 0 ≤ t then (o.set i.toNat t, true) else (o, false)
def pinM (g : Int) (pins : List Int) (rets : List Ret) (q : Int) : List Int × Bool :=
 if Qek g pins rets = true ∧ 0 ≤ q ∧ q < pins.length ∧ pins.getD q.toNat default = -1 then (pins.set q.toNat g, true) else (pins, false)
def retireM (g : Int) (pins : List Int) (rets : List Ret) (z : Int) : List Ret × Bool :=
 if Qek g pins rets = true ∧ 0 ≤ z ∧ Quv rets z = false then (rets ++ [⟨z, g⟩], true) else (rets, false)
def Qvm (g : Int) (pins : List Int) : Bool := decide (∀ i, i < pins.length → pins.getD i default = -1 ∨ pins.getD i default = g)
def advM (g : Int) (pins : List Int) (rets : List Ret) : Int × Bool :=
 if Qek g pins rets = true ∧ g ≠ 1099511627776 ∧ Qvm g pins = true then (g + 1, true) else (g, false)
def orW (x y : Int) : Int := IntKind.i64.wrap (BitVec.ofInt IntKind.i64.bits x ||| BitVec.ofInt IntKind.i64.bits y).toNat
def shW (x : Int) : Int := IntKind.i64.wrap (x * 2 ^ min (8 : Int).toNat IntKind.i64.bits)
def Qb3 (b : ByteArray) (k : Nat) : Int := IntKind.i64.wrap ((b.data.toList.getD k 0).toNat : Int)
def Qe8 (b : ByteArray) (at_ size : Nat) : Nat → Int
 | 0 => 0
 | k + 1 => orW (shW (Qe8 b at_ size k)) (Qb3 b (at_ + (size - 1 - k)))
def getE (b : ByteArray) (at_ size : Nat) : Int := if b.size < at_ + size then 2 else 0
def getS (b : ByteArray) (at_ size : Nat) : Int := if b.size < at_ + size then 0 else Qe8 b at_ size size
def sumW (b : ByteArray) : Int := IntKind.i64.wrap (addU 0 b)
def rawR (s : ByteArray) : Rec := ⟨getS s 2 1, getS s 4 4, getS s 8 6, getS s 14 1, s.extract 16 (16 + min (getS s 3 1) 20).toNat⟩
def decE (s : ByteArray) : Int := if s.size = 40 then if getS s 36 4 = sumW (s.extract 0 36) then if QA (rawR s) = 0 ∧ encR (rawR s) = s then 0 else 3 else 4 else 2
def decR (s : ByteArray) : Rec := if decE s = 0 then rawR s else default
def QdG (r : Rec) : Bool := decide (r.kind = 1 ∨ r.kind = 2)
def Qgd (r : Rec) : Rec × Bool := if QA r = 0 ∧ QdG r = true then ({ r with move := min (r.move + 1) 255 }, true) else (default, false)
def QZ (s : ByteArray) : Rec × Bool := if decE s = 0 ∧ QdG (decR s) = true then (decR s, true) else (default, false)
def Qeb (l : List ByteArray) : Nat → Int
 | 0 => 1099511627776
 | k + 1 => min (Qeb l k) (decR (l.getD k ByteArray.empty)).version
def Qee (l : List ByteArray) : Nat → Int
 | 0 => 0
 | k + 1 => max (Qee l k) (decR (l.getD k ByteArray.empty)).version
def Qhi (l : List ByteArray) : Nat → ByteArray
 | 0 => ByteArray.empty
 | k + 1 => Qhi l k ++ (l.getD k ByteArray.empty).extract 0 36
def blkE (s : ByteArray) : Int := if decE s = 0 then if QdG (decR s) = true then 0 else 3 else decE s
def Qb8 (l : List ByteArray) : Nat → Int
 | 0 => 0
 | k + 1 => if Qb8 l k = 0 then blkE (l.getD k ByteArray.empty) else Qb8 l k
def Qwe (l : List ByteArray) : Int := if l.length = 0 ∨ 64 < l.length then 19 else Qb8 l l.length
def makeR (l : List ByteArray) : Rec := if Qwe l = 0 then ⟨3, l.length, Qee l l.length, 0, putS (Qeb l l.length) 6 ++ putS (sumW (Qhi l l.length)) 4⟩ else default
def Qah (e : Ent) (next : Int) : Int :=
 if e.kind = 1 then if 0 ≤ e.block ∧ e.block < 128 ∧ 1 ≤ e.version ∧ e.version < next ∧ 0 ≤ e.move ∧ e.move ≤ 255 ∧ 0 ≤ e.zone ∧ e.zone < 32 ∧ 0 ≤ e.offset ∧ e.offset < 64 then 0 else 1 else 3
def QT (l : List Ent) (next : Int) : Nat → Int
 | 0 => 0
 | k + 1 => if QT l next k = 0 then if Qah (l.getD k default) next = 0 then if 0 < k ∧ (l.getD k default).block ≤ (l.getD (k - 1) default).block then 17 else 0 else Qah (l.getD k default) next else QT l next k
def QG (seq next cut : Int) (l : List Ent) : Int :=
 if 1 ≤ seq ∧ seq < 1099511627776 ∧ 1 ≤ next ∧ next ≤ 1099511627776 ∧ 1 ≤ cut ∧ cut ≤ next then if 128 < l.length then 19 else QT l next l.length else 1
def Qbv (seq next cut : Int) (l : List Ent) : Rec := ⟨4, l.length, seq, 0, putS next 6 ++ putS cut 6⟩
def QbK (e : Ent) : Rec := ⟨5, e.block, e.version, e.move, putS e.zone 2 ++ putS e.offset 2⟩
def QQ (l : List Rec) : Nat → ByteArray
 | 0 => ByteArray.empty
 | k + 1 => if QA (l.getD k default) = 0 then QQ l k ++ (encR (l.getD k default)).extract 0 36 else QQ l k
def Qdi (l : List Rec) : ByteArray := putS (sumW (QQ l l.length)) 4
def QbM (seq next cut : Int) (l : List Ent) : List Rec := Qbv seq next cut l :: l.map QbK
def Qa0 (seq next cut : Int) (l : List Ent) : List Rec :=
 if QG seq next cut l = 0 then QbM seq next cut l ++ [⟨6, l.length, seq, 0, Qdi (QbM seq next cut l)⟩] else []
def recE (r : Rec) (zone at_ : Int) : Ent := ⟨r.block, r.kind, r.version, r.move, zone, at_⟩
structure Fnd where
 zone : Int
 offset : Int
 r : Rec
 deriving DecidableEq
instance : Inhabited Fnd := ⟨⟨0, 0, default⟩⟩
def Fnd.cells (f : Fnd) : List C := [.int .i64 f.zone, .int .i64 f.offset, .int .i64 f.r.kind, .int .i64 f.r.block, .int .i64 f.r.version, .int .i64 f.r.move, .str f.r.payload]
def Fnd.cell (f : Fnd) : Nat → C
 | 0 => .int .i64 f.zone
 | 1 => .int .i64 f.offset
 | 2 => .int .i64 f.r.kind
 | 3 => .int .i64 f.r.block
 | 4 => .int .i64 f.r.version
 | 5 => .int .i64 f.r.move
 | 6 => .str f.r.payload
 | _ => .junk
def fndG (l : List Fnd) : Nat → Nat → C := rowG Fnd.cell l
def Qc7 (l : List Fnd) : C := .isl 7 l.length (fndG l) false
theorem Qv (e : Fnd) (j : Nat) : (e.cell j).imm = true := by
 unfold Fnd.cell; split <;> rfl
instance : PlainF Fnd.cell := ⟨fun e j => by unfold Fnd.cell; split <;> rfl⟩
structure Bas where
 seq : Int
 next : Int
 cut : Int
 ents : List Ent
 deriving DecidableEq
instance : Inhabited Bas := ⟨⟨0, 0, 0, []⟩⟩
def Bas.cells (b : Bas) : List C := [.int .i64 b.seq, .int .i64 b.next, .int .i64 b.cut, QS b.ents]
def Qa6 (b : Bas) (f : Fnd) : Bool := decide (b.cut ≤ f.r.version) || b.ents.any fun e => decide (e.block = f.r.block ∧ e.version = f.r.version)
def QU (a b : Fnd) : Bool :=
 if a.r.version = b.r.version then
  if a.r.move = b.r.move then
   if a.zone = b.zone then decide (a.offset < b.offset) else decide (a.zone < b.zone)
  else decide (b.r.move < a.r.move)
 else decide (b.r.version < a.r.version)
def QcM (b : Bas) (block : Int) (o : Option Fnd) (f : Fnd) : Option Fnd :=
 if f.r.block = block ∧ Qa6 b f = true ∧ (∀ g, o = some g → QU f g = true) then some f else o
def Qbz (b : Bas) (l : List Fnd) (block : Int) : Option Fnd := l.foldl (QcM b block) none
def QcP (z : Int) (i : Nat) (s : ByteArray) : List Fnd := if (QZ s).2 = true ∧ 1 ≤ (QZ s).1.version then [⟨z, i, (QZ s).1⟩] else []
def Qa1 (z : Int) (l : List ByteArray) : Nat → List Fnd
 | 0 => []
 | k + 1 => Qa1 z l k ++ QcP z k (l.getD k ByteArray.empty)
def QcI (d : Dev) (z : Int) : List Fnd := if 0 ≤ z ∧ z < d.zones.length then Qa1 z (d.zones.getD z.toNat default).sectors (d.zones.getD z.toNat default).sectors.length else []
def Qac (c : Conf) (d : Dev) : Nat → List Fnd
 | 0 => []
 | k + 1 => if QaN c k = true then Qac c d k ++ QcI d k else Qac c d k
def QaP (c : Conf) (d : Dev) : List Fnd := Qac c d d.zones.length
def Qer (l : List Fnd) : Int := l.foldl (fun n f => max n f.r.version) 0
def Qc2 (a b : Fnd) : Bool := decide (a.r.version = b.r.version → a.r.kind = b.r.kind ∧ a.r.block = b.r.block ∧ a.r.payload = b.r.payload)
def QfC (l : List Fnd) : Bool := decide (∀ i, i < l.length → ∀ k, k < i → Qc2 (l.getD i default) (l.getD k default) = true)
def entD (r : Rec) : Ent := ⟨r.block, 1, r.version, r.move, getS r.payload 0 2, getS r.payload 2 2⟩
def midL (l : List Rec) : List Rec := (l.drop 1).take (l.length - 2)
def Qz (l : List Rec) : Bas := ⟨(l.getD 0 default).version, getS (l.getD 0 default).payload 0 6, getS (l.getD 0 default).payload 6 6, (midL l).map entD⟩
def QaJ (l : List Rec) : Int := if 2 ≤ l.length ∧ QG (Qz l).seq (Qz l).next (Qz l).cut (Qz l).ents = 0 ∧ l = Qa0 (Qz l).seq (Qz l).next (Qz l).cut (Qz l).ents then 0 else 3
def Qak (l : List Rec) : Bas := if QaJ l = 0 then Qz l else default
def Qa4 (c : Conf) (l : List Rec) : Int := if QaJ l = 0 ∧ (Qak l).ents.length ≤ c.blocks ∧ (0 < (Qak l).ents.length → ((Qak l).ents.getD ((Qak l).ents.length - 1) default).block < c.blocks) then 0 else 3
def Qa3 (c : Conf) (l : List Rec) : Bas := if Qa4 c l = 0 then Qak l else default
def Qad : List ByteArray → Option (List Rec)
 | [] => none
 | s :: t => if decE s = 0 then if (decR s).kind = 6 then some [decR s] else (Qad t).map (decR s :: ·) else none
def Qap (c : Conf) (slot : Int) : List Int := tabL (fun k => slot * Qi c + k) (Qi c).toNat
def QaM (d : Dev) (l : List Int) : List ByteArray := l.flatMap fun z => (d.zones.getD z.toNat default).sectors
def Qu (c : Conf) (d : Dev) (slot : Int) : Int :=
 if Qm c = 0 then
  if slot * Qi c + Qi c ≤ d.zones.length then
   match Qad (QaM d (Qap c slot)) with
   | none => 3
   | some l => Qa4 c l
  else 5
 else Qm c
def Qx (c : Conf) (d : Dev) (slot : Int) : Bas :=
 if Qu c d slot = 0 then
  match Qad (QaM d (Qap c slot)) with
  | none => default
  | some l => Qa3 c l
 else default
def Qo (c : Conf) (d : Dev) : Bas × Int :=
 if Qu c d 0 = 0 ∧ (Qu c d 1 ≠ 0 ∨ (Qx c d 1).seq ≤ (Qx c d 0).seq) then (Qx c d 0, 0)
 else if Qu c d 1 = 0 then (Qx c d 1, 1) else (default, -1)
def QaV (c : Conf) (d : Dev) : Bas := if (Qo c d).2 < 0 then ⟨0, 1, 1, []⟩ else (Qo c d).1
def badF (c : Conf) (d : Dev) : Bool :=
 (d.zones.any fun z => decide (z.state = 5)) || ((QaP c d).any fun f => decide (c.blocks ≤ f.r.block ∨ f.r.version = 1099511627776)) || !QfC (QaP c d)
def QiN (c : Conf) (d : Dev) : Bool := (QaV c d).ents.any fun e => (Qbz (QaV c d) (QaP c d) e.block).isNone
def Qav (c : Conf) (d : Dev) : Int :=
 if Qm c = 0 then
  if check d = 0 then
   if (d.zones.length : Int) = c.zones ∧ d.size = c.size then
    if badF c d = true then 14 else if QiN c d = true then 14 else 0
   else 11
  else check d
 else Qm c
def QcG (b : Bas) (l : List Fnd) (i : Nat) : List Ent :=
 match Qbz b l i with
 | none => []
 | some f => if f.r.kind = 1 ∨ b.cut ≤ f.r.version then [⟨i, f.r.kind, f.r.version, f.r.move, f.zone, f.offset⟩] else []
def Qbs (b : Bas) (l : List Fnd) : Nat → List Ent
 | 0 => []
 | k + 1 => Qbs b l k ++ QcG b l k
def winL (c : Conf) (d : Dev) : List Ent := Qbs (QaV c d) (QaP c d) c.blocks.toNat
def Qbn (m : List (List Ent)) (l : List Ent) : List (List Ent) := l.foldl (fun m e => (Qar m e).1) m
def Qbr (n : Int) : List (List Ent) := List.replicate n.toNat []
structure Img where
 map : List (List Ent)
 version : Int
 seq : Int
 slot : Int
 deriving DecidableEq
instance : Inhabited Img := ⟨⟨[], 0, 0, 0⟩⟩
def Img.cells (x : Img) : List C := [Qh x.map, .int .i64 x.version, .int .i64 x.seq, .int .i64 x.slot]
def Qbm (c : Conf) (d : Dev) : Img := ⟨Qbn (Qbr c.shards) (winL c d), max (Qer (QaP c d)) ((QaV c d).next - 1), (Qo c d).1.seq, (Qo c d).2⟩
def QbI (c : Conf) (d : Dev) : Img := if Qav c d = 0 then Qbm c d else default
theorem QjQ (n : Nat) (g : Nat → Nat → C) (t : Bool) (hn : n ≤ 10000000) (him : ∀ i, i < n → ∀ j, j < 6 → (g i j).imm = true) : CS 139 [.c (.isl 6 n g t)] [] fun s H => s = .c (.sl 0 6 n n false) ∧ H = [.arr 67 6 n g] := by
 refine CSpec.rm ?_
 refine ov0 hΓ Tryz.func139 8 0 [.tmp 2] Tryz.ntmps139 Tryz.results139 ?_
 intro b hb
 refine Go0 ?_
 refine Br.of (fun h=>Go0 ?_) (fun h=>Go0 ?_)
 ·have : n = 0 := by
   rcases Nat.eq_zero_or_pos n with c | c
   ·exact c
   ·exact absurd h (by rw [hb c]; simp)
  subst this
  exact ⟨_, _, RM.nilO 67 6 g, rfl, rfl⟩
 ·refine ⟨_, _, ?_, rfl, rfl⟩
  refine RM.w1 ?_
  intro i hi j hj
  exact WC.eq (by simp [appG]) (him i (by omega) j hj)
theorem Qk7 : HB 139 := hB Tryz.func139
theorem Qll (l : List Ent) (hn : l.length ≤ 10000000) : PS 139 [.c (QS l)] (.c (QS l)) := PSpec.ofO (QjQ _ _ _ hn fun _ _ _ _ => QH _ _) fun _ _ _ _ => QH _ _
end Go.Proofs
end
