/- Contracts, lemmas; no condition. -/
import Derived.Test.YtkelkepdcfogaaaGreatP16D
import Derived.Test.YtkelkepdcfogaaaGreatP11D
import Derived.Test.YtkelkepdcfogaaaGreatP13D
set_option linter.all false
section
open Go Go.Am
namespace Go.Proofs
set_option maxRecDepth 20000
theorem QbA {p : Nat → Prop} {k : Nat} (h : ∀ i, i < k → p i) (hk : p k) : ∀ i, i < k + 1 → p i := fun i hi => by
 by_cases c : i = k
 ·subst c; exact hk
 ·exact h i (by omega)
def Qi (c : Conf) : Int := (c.blocks + 2 + c.size - 1).tdiv c.size
def Qan (c : Conf) : Int := c.zones - 2 * Qi c
def capN (c : Conf) : Int := (Qan c - 3) * (c.size - 1) - c.queues - 1
def Qbr (c : Conf) : Bool := decide (3 ≤ c.size ∧ c.size ≤ 64 ∧ 1 ≤ c.zones ∧ c.zones ≤ 32 ∧ 1 ≤ c.blocks ∧ c.blocks ≤ 128 ∧ 1 ≤ c.queues ∧ c.queues ≤ 4 ∧ 1 ≤ c.depth ∧ c.depth ≤ 8 ∧ 1 ≤ c.shards ∧ c.shards ≤ 8)
def Qn (c : Conf) : Int := if Qbr c = true then if Qan c < 6 ∨ capN c < 1 then 11 else 0 else 1
theorem confR_iff {c : Conf} : Qbr c = true ↔ 3 ≤ c.size ∧ c.size ≤ 64 ∧ 1 ≤ c.zones ∧ c.zones ≤ 32 ∧ 1 ≤ c.blocks ∧ c.blocks ≤ 128 ∧ 1 ≤ c.queues ∧ c.queues ≤ 4 ∧ 1 ≤ c.depth ∧ c.depth ≤ 8 ∧ 1 ≤ c.shards ∧ c.shards ≤ 8 := by
 unfold Qbr; rw [decide_eq_true_eq]
theorem Qay {c : Conf} (h : Qn c = 0) : Qbr c = true ∧ 6 ≤ Qan c ∧ 1 ≤ capN c := by
 unfold Qn at h
 split at h
 ·rename_i hr
  split at h
  ·omega
  ·exact ⟨hr, by omega, by omega⟩
 ·omega
theorem Qav {c : Conf} (h : Qbr c = true) : 1 ≤ Qi c ∧ Qi c ≤ 130 := by
 rw [confR_iff] at h
 unfold Qi
 have h0 : 0 ≤ c.blocks + 2 + c.size - 1 := by omega
 rw [Int.tdiv_eq_ediv_of_nonneg h0]
 constructor
 ·have : 1 * c.size ≤ c.blocks + 2 + c.size - 1 := by omega
  exact (Int.le_ediv_iff_mul_le (by omega)).2 this
 ·have : (c.blocks + 2 + c.size - 1) < 131 * c.size := by omega
  have := Int.ediv_lt_of_lt_mul (by omega) this
  omega
def QaS (c : Conf) (z : Int) : Bool := decide (Qn c = 0 ∧ 2 * Qi c ≤ z ∧ z < c.zones)
def QbE (e : Ent) : Bool := decide ((e.kind = 1 ∨ e.kind = 2) ∧ 1 ≤ e.version ∧ e.version ≤ 1099511627776 ∧ 0 ≤ e.move ∧ e.move ≤ 255 ∧ 0 ≤ e.block ∧ 0 ≤ e.zone ∧ 0 ≤ e.offset)
def QT (l : List Ent) : Bool := decide (∀ i, i < l.length → QbE (l.getD i default) = true ∧ (0 < i → (l.getD (i - 1) default).block < (l.getD i default).block))
def Qbl (l : List Ent) (n i : Nat) : Bool := decide (∀ k, k < l.length → (l.getD k default).block.tmod n = i)
def Q7 (m : List (List Ent)) : Bool := decide (1 ≤ m.length ∧ m.length ≤ 8) && decide (∀ i, i < m.length → QT (m.getD i default) = true ∧ Qbl (m.getD i default) m.length i = true)
def QeT (live pend : List Int) : Bool := decide (live.length = pend.length ∧ 1 ≤ live.length ∧ live.length ≤ 32) && decide (∀ i, i < live.length → 0 ≤ live.getD i default ∧ live.getD i default ≤ 1099511627776 ∧ 0 ≤ pend.getD i default ∧ pend.getD i default ≤ 1099511627776)
def QjZ (o : List Int) : Bool := decide (1 ≤ o.length ∧ o.length ≤ 8) && decide (∀ i, i < o.length → -1 ≤ o.getD i default)
def Qv0 (glob : Int) (pins : List Int) : Bool := decide (∀ i, i < pins.length → pins.getD i default = -1 ∨ 0 ≤ pins.getD i default ∧ (pins.getD i default = glob ∨ pins.getD i default = glob - 1))
def QvE (glob : Int) (rets : List Ret) : Bool := decide (∀ i, i < rets.length → 0 ≤ (rets.getD i default).zone ∧ 0 ≤ (rets.getD i default).epoch ∧ (rets.getD i default).epoch ≤ glob ∧ ∀ j, j < i → (rets.getD j default).zone ≠ (rets.getD i default).zone)
def Qeq (glob : Int) (pins : List Int) (rets : List Ret) : Bool := decide (1 ≤ pins.length ∧ pins.length ≤ 4 ∧ 0 ≤ glob ∧ glob ≤ 1099511627776) && (Qv0 glob pins && QvE glob rets)
def Qsw (c : Conf) (free : List Int) (z : Int) : Bool := decide (z = -1 ∨ QaS c z = true ∧ z ∉ free)
def QvV (c : Conf) (free : List Int) : Bool := decide (∀ i, i < free.length → QaS c (free.getD i default) = true ∧ (0 < i → free.getD (i - 1) default < free.getD i default))
def QsL (c : Conf) (free : List Int) (host lane : Int) : Bool := decide (Qn c = 0) && (QvV c free && (Qsw c free host && (Qsw c free lane && decide (host = -1 ∨ host ≠ lane))))
def Qi4 (r : Rng) : Bool := decide (1 ≤ r.depth ∧ r.depth ≤ 8 ∧ (r.items.length : Int) ≤ r.depth) && decide (∀ i, i < r.items.length → 0 ≤ (r.items.getD i default).serial ∧ (0 < i → (r.items.getD (i - 1) default).serial < (r.items.getD i default).serial))
def cmdE (c : Conf) (r : Req) : Int :=
 if r.kind < 1 ∨ 4 < r.kind then 3 else if r.kind = 4 ∧ r.block ≠ 0 ∨ r.kind ≠ 4 ∧ (r.block < 0 ∨ c.blocks ≤ r.block) then 1 else if r.kind = 2 ∧ r.data.size ≠ 16 ∨ r.kind ≠ 2 ∧ r.data.size ≠ 0 then 2 else 0
def Qp1 (c : Conf) (w : Wrk) : Bool := decide (w.state = 0 ∨ cmdE c w.req = 0 ∧ (w.req.kind = 1 → 1 ≤ w.state ∧ w.state ≤ 4) ∧ (w.req.kind = 4 → w.state = 10 ∨ w.state = 11) ∧ (w.req.kind ≠ 1 → w.req.kind ≠ 4 → 5 ≤ w.state ∧ w.state ≤ 9))
def QnA (m : List (List Ent)) (n : Int) : Bool := decide (∀ i, i < m.length → ∀ k, k < (m.getD i default).length → ((m.getD i default).getD k default).block < n)
def QvC (s : St) : Bool :=
 decide (Qn s.cfg = 0) && (decide (check s.dev = 0) && (decide ((s.dev.zones.length : Int) = s.cfg.zones ∧ s.dev.size = s.cfg.size) && (Q7 s.map && (decide ((s.map.length : Int) = s.cfg.shards) && (QnA s.map s.cfg.blocks && (QeT s.live s.pend && (decide ((s.live.length : Int) = s.cfg.zones) && (QjZ s.owner && (decide ((s.owner.length : Int) = s.cfg.shards) && (Qeq s.glob s.pins s.rets && (decide ((s.pins.length : Int) = s.cfg.queues) && (QsL s.cfg s.free s.host s.lane && (decide ((s.rings.length : Int) = s.cfg.queues ∧ (s.works.length : Int) = s.cfg.queues) &&
  decide (1 ≤ s.next ∧ s.next ≤ 1099511627776 ∧ 0 ≤ s.serial ∧ s.serial ≤ 1099511627776))))))))))))))
def QuU (s : St) (i : Nat) : Bool :=
 Qi4 (s.rings.getD i default) && (decide ((s.rings.getD i default).depth = s.cfg.depth) && (Qp1 s.cfg (s.works.getD i default) && (decide ((s.works.getD i default).state = 0 ∨ (s.works.getD i default).req.serial < s.serial) && decide (∀ k, k < (s.rings.getD i default).items.length → ((s.rings.getD i default).items.getD k default).serial < s.serial))))
def QfM (s : St) : Bool := QvC s && (decide (∀ i, i < s.rings.length → QuU s i = true) && decide (∀ i, i < s.evs.length → (s.evs.getD i default).serial < s.serial))
def QrT (l : List Evt) (n : Int) : Bool := l.any fun e => e.ret && decide (e.serial = n)
def Qub (l : List Evt) (n : Int) : Bool := l.any fun e => !e.ret && decide (e.serial = n)
def QgN (l : List Evt) : Nat → List Int
 | 0 => []
 | k + 1 => if (l.getD k default).ret = false ∧ QrT l (l.getD k default).serial = false ∧ Qub (l.take k) (l.getD k default).serial = false then QgN l k ++ [(l.getD k default).serial] else QgN l k
def Qv8 (l : List Evt) : List Int := QgN l l.length
theorem Qrs (l : List Evt) : ∀ k, (QgN l k).length ≤ k
 | 0 => Nat.le_refl _
 | k + 1 => by
  have := Qrs l k
  simp only [QgN]
  split
  ·simp; omega
  ·omega
def Qu1 (r : Rng) (x : Req) : Rng × Int :=
 if Qi4 r = true then
  if (r.items.length : Int) = r.depth then (r, 13)
  else if x.serial < 0 ∨ 0 < r.items.length ∧ x.serial ≤ (r.items.getD (r.items.length - 1) default).serial then (r, 17)
  else (⟨r.depth, r.items ++ [x]⟩, 0)
 else (r, 6)
def QtC (r : Rng) : Rng × Req × Bool :=
 if Qi4 r = true ∧ 0 < r.items.length then (⟨r.depth, r.items.drop 1⟩, r.items.getD 0 default, true) else (r, default, false)
def St.addEv (s : St) (e : Evt) : St := { s with evs := s.evs ++ [e] }
def St.setRing (s : St) (q : Nat) (r : Rng) : St := { s with rings := s.rings.set q r }
def St.setWork (s : St) (q : Nat) (w : Wrk) : St := { s with works := s.works.set q w }
def QiW (back : Bool) (q : Int) (r : Req) (err : Int) (d : ByteArray) : Evt := ⟨back, q, r.serial, r.kind, r.block, r.data, err, d⟩
def answerS (s : St) (q : Int) (err : Int) (d : ByteArray) : St × Bool :=
 if QfM s = true ∧ 0 ≤ q ∧ q < s.works.length ∧ (s.works.getD q.toNat default).state ≠ 0 then
  ((s.addEv (QiW true q (s.works.getD q.toNat default).req err d)).setWork q.toNat default, true)
 else (s, false)
def submitS (s : St) (q : Int) (x : Req) : St × Int :=
 if QfM s = true then
  if 0 ≤ q ∧ q < s.rings.length then
   if 398 < s.evs.length + (Qv8 s.evs).length ∨ 1099511627776 ≤ s.serial then (s, 19)
   else
    let y : Req := { x with serial := s.serial }
    if s.closed = true then
     (({ s with serial := s.serial + 1 }.addEv (QiW false q y 0 ByteArray.empty)).addEv (QiW true q y 12 ByteArray.empty), 0)
    else
     let r := Qu1 (s.rings.getD q.toNat default) y
     if r.2 ≠ 0 then (s, r.2)
     else ({ (s.setRing q.toNat r.1) with serial := s.serial + 1 }.addEv (QiW false q y 0 ByteArray.empty), 0)
  else (s, 1)
 else (s, 6)
def QvP (k : Int) : Int := if k = 1 then 1 else if k = 4 then 10 else 5
def beginS (own : Bool) (s : St) (q : Int) : St × Bool :=
 if QfM s = true ∧ 0 ≤ q ∧ q < s.works.length ∧ (s.works.getD q.toNat default).state = 0 then
  let t := QtC (s.rings.getD q.toNat default)
  if t.2.2 = true then
   let s1 := s.setRing q.toNat t.1
   if cmdE s.cfg t.2.1 = 0 then (s1.setWork q.toNat ⟨QvP t.2.1.kind, t.2.1, default, ByteArray.empty⟩, true)
   else ((if own = true then s1.setWork q.toNat default else s1).addEv (QiW true q t.2.1 (cmdE s.cfg t.2.1) ByteArray.empty), true)
  else (s, false)
 else (s, false)
def Qm0 (w : Wrk) : Bool := decide (w.state = 7 ∨ w.state = 8)
def Qqb (n : Int) (l : List Wrk) : Nat → Int
 | 0 => n
 | k + 1 => if Qm0 (l.getD k default) = true ∧ ((l.take k).any Qm0 = false ∨ (l.getD k default).ent.version < Qqb n l k) then (l.getD k default).ent.version else Qqb n l k
def cutS (s : St) : Int := if QfM s = true then Qqb s.next s.works s.works.length else 0
def Qwb (n : Int) (e : Ent) : Bool := decide (e.kind = 2 ∧ e.version < n)
def Qwj (s : St) : Bool := QfM s && s.map.any fun l => l.any (Qwb (cutS s))
def QuG (r : List Ret) (z : Int) : Bool := r.any fun x => decide (x.zone = z)
def canV (s : St) (z : Int) : Bool := QaS s.cfg z && (decide (z < s.dev.zones.length ∧ z < s.live.length ∧ z < s.pend.length) && (decide ((s.dev.zones.getD z.toNat default).state = 4 ∧ s.pend.getD z.toNat default = 0 ∧ z ≠ s.host ∧ z ≠ s.lane) && (!QuG s.rets z && decide (s.live.getD z.toNat default < s.cfg.size - 1))))
def QcC (s : St) : Nat → Nat × Bool
 | 0 => (0, false)
 | k + 1 => if canV s k = true ∧ ((QcC s k).2 = false ∨ s.live.getD k default < s.live.getD (QcC s k).1 default) then (k, true) else QcC s k
def Qu2 (s : St) : Nat × Bool := QcC s s.dev.zones.length
theorem QsV {s : St} : ∀ {k : Nat}, (QcC s k).2 = true → (QcC s k).1 < k ∧ canV s (QcC s k).1 = true
 | 0, h => by cases h
 | k + 1, h => by
  unfold QcC at h ⊢
  split
  ·rename_i c; exact ⟨by simp, c.1⟩
  ·rename_i c
   rw [if_neg c] at h
   have := QsV h
   exact ⟨by omega, this.2⟩
theorem Qoi {s : St} : ∀ {k : Nat}, (QcC s k).2 = false → (QcC s k).1 = 0
 | 0, _ => rfl
 | k + 1, h => by
  unfold QcC at h ⊢
  split
  ·rename_i c; rw [if_pos c] at h; cases h
  ·rename_i c
   rw [if_neg c] at h
   exact Qoi h
def hopeS (s : St) : Bool := QfM s && ((Qu2 s).2 || (decide (0 < s.rets.length) || ((s.pend.any fun x => decide (0 < x)) || (decide (s.cln.state ≠ 0) || (decide (s.sav.state ≠ 0) || (s.want || Qwj s))))))
def Qr (l : List Ent) (b : Int) : Nat := l.findIdx fun e => decide (b ≤ e.block)
theorem QdU (l : List Ent) (b : Int) : Qr l b ≤ l.length := List.findIdx_le_length
theorem QkE {l : List Ent} {b : Int} {k : Nat} (hk : k ≤ l.length) (h : ∀ i, i < k → (l.getD i default).block < b) (he : k = l.length ∨ b ≤ (l.getD k default).block) : Qr l b = k := by
 unfold Qr
 rcases he with rfl | he
 ·refine List.findIdx_eq_length.2 fun x hx => ?_
  obtain ⟨i, hi, rfl⟩ := List.getElem_of_mem hx
  have := h i hi
  rw [show l.getD i default = l[i] by simp [List.getD, hi]] at this
  exact decide_eq_false (by omega)
 ·by_cases c : k < l.length
  ·rw [List.findIdx_eq c]
   refine ⟨?_, fun j hj => ?_⟩
   ·rw [show l.getD k default = l[k] by simp [List.getD, c]] at he
    exact decide_eq_true he
   ·have := h j hj
    rw [show l.getD j default = l[j] by simp [List.getD, show j < l.length by omega]] at this
    exact decide_eq_false (by omega)
  ·have : k = l.length := by omega
   subst this
   refine List.findIdx_eq_length.2 fun x hx => ?_
   obtain ⟨i, hi, rfl⟩ := List.getElem_of_mem hx
   have := h i hi
   rw [show l.getD i default = l[i] by simp [List.getD, hi]] at this
   exact decide_eq_false (by omega)
def hasM (l : List Ent) (b : Int) : Bool := decide (Qr l b < l.length ∧ (l.getD (Qr l b) default).block = b)
def QR (l : List Ent) (b : Int) : Ent × Bool := if QT l = true ∧ hasM l b = true then (l.getD (Qr l b) default, true) else (default, false)
def putE (l : List Ent) (e : Ent) : List Ent := l.take (Qr l e.block) ++ e :: l.drop (if hasM l e.block = true then Qr l e.block + 1 else Qr l e.block)
def QI (l : List Ent) (e : Ent) : List Ent × Ent × Bool :=
 if QT l = true then
  if QbE e = true then
   if (QR l e.block).2 = true ∧ e.version ≤ (QR l e.block).1.version then (l, (QR l e.block).1, false)
   else (putE l e, (QR l e.block).1, true)
  else (l, default, false)
 else ([], default, false)
def relE (l : List Ent) (b v fz fo tz t2 move : Int) : List Ent × Bool :=
 if QT l = true then
  if (QR l b).2 = true ∧ (QR l b).1.version = v ∧ (QR l b).1.zone = fz ∧ (QR l b).1.offset = fo ∧ 0 ≤ tz ∧ 0 ≤ t2 ∧ 0 ≤ move ∧ move ≤ 255 then
   (l.set (Qr l b) { (QR l b).1 with zone := tz, offset := t2, move := move }, true)
  else (l, false)
 else ([], false)
def Ql (m : List (List Ent)) (b : Int) : Nat := (b.tmod m.length).toNat
def Qbi (m : List (List Ent)) (b : Int) : Ent × Bool := if Q7 m = true ∧ 0 ≤ b then QR (m.getD (Ql m b) default) b else (default, false)
def Qaz (m : List (List Ent)) (e : Ent) : List (List Ent) × Ent × Bool :=
 if Q7 m = true ∧ 0 ≤ e.block then
  if (QI (m.getD (Ql m e.block) default) e).2.2 = true then (m.set (Ql m e.block) (QI (m.getD (Ql m e.block) default) e).1, (QI (m.getD (Ql m e.block) default) e).2.1, true)
  else (m, (QI (m.getD (Ql m e.block) default) e).2.1, false)
 else (m, default, false)
def relM (m : List (List Ent)) (b v fz fo tz t2 move : Int) : List (List Ent) × Bool :=
 if Q7 m = true ∧ 0 ≤ b then
  if (relE (m.getD (Ql m b) default) b v fz fo tz t2 move).2 = true then (m.set (Ql m b) (relE (m.getD (Ql m b) default) b v fz fo tz t2 move).1, true) else (m, false)
 else (m, false)
theorem Qe8 {m : List (List Ent)} (h : Q7 m = true) : 1 ≤ m.length ∧ m.length ≤ 8 := by
 unfold Q7 at h
 simp only [Bool.and_eq_true, decide_eq_true_eq] at h
 exact h.1
theorem QsZ {m : List (List Ent)} (h : Q7 m = true) {i : Nat} (hi : i < m.length) : QT (m.getD i default) = true ∧ Qbl (m.getD i default) m.length i = true := by
 unfold Q7 at h
 simp only [Bool.and_eq_true, decide_eq_true_eq] at h
 exact h.2 i hi
theorem Qb6 {m : List (List Ent)} (h : Q7 m = true) {b : Int} (hb : 0 ≤ b) : Ql m b < m.length := by
 have := Qe8 h
 unfold Ql
 have h1 := Int.tmod_nonneg (m.length : Int) hb
 have h2 := Int.tmod_lt_of_pos b (show 0 < (m.length : Int) by omega)
 omega
theorem Qib {m : List (List Ent)} (h : Q7 m = true) {b : Int} (hb : 0 ≤ b) : (Ql m b : Int) = b.tmod m.length := by
 have := Qe8 h
 have h1 := Int.tmod_nonneg (m.length : Int) hb
 unfold Ql
 omega
def Qbt (l : List Ent) (b : Int) : Nat → Nat
 | 0 => 0
 | k + 1 => if b < (l.getD k default).block then Qbt l b k else k + 1
theorem Qmh (l : List Ent) (b : Int) : ∀ k, Qbt l b k ≤ k
 | 0 => Nat.le_refl _
 | k + 1 => by
  have := Qmh l b k
  unfold Qbt
  split <;> omega
def insE (l : List Ent) (x : Ent) : List Ent := l.take (Qbt l x.block l.length) ++ x :: l.drop (Qbt l x.block l.length)
theorem Qio (l : List Ent) (x : Ent) : (insE l x).length = l.length + 1 := by
 have := Qmh l x.block l.length
 simp [insE]; omega
def allM (m : List (List Ent)) : List Ent := m.flatten.foldl insE []
def allS (m : List (List Ent)) : List Ent := if Q7 m = true then allM m else []
theorem Qcf {α : Type} [Inhabited α] (l : List α) (i : Nat) (h : i < l.length) : l.getD i default = l[i] := by simp [List.getD, h]
def Asc (l : List Ent) : Prop := l.Pairwise fun a b => a.block < b.block
theorem QpY {l : List Ent} {b : Int} : ∀ {k : Nat}, k ≤ l.length → (∀ i, Qbt l b k ≤ i → i < k → b < (l.getD i default).block) ∧ (0 < Qbt l b k → (l.getD (Qbt l b k - 1) default).block ≤ b)
 | 0, _ => ⟨fun i _ h => by omega, fun h => by simp [Qbt] at h⟩
 | k + 1, hk => by
  obtain ⟨h1, h2⟩ := QpY (l := l) (b := b) (k := k) (by omega)
  unfold Qbt
  split
  ·rename_i c
   refine ⟨fun i hi hik => ?_, h2⟩
   by_cases e : i = k
   ·subst e; exact c
   ·exact h1 i hi (by omega)
  ·rename_i c
   exact ⟨fun i hi hik => by omega, fun _ => by simpa using Int.not_lt.1 c⟩
theorem Asc.get {l : List Ent} (h : Asc l) {i j : Nat} (hi : i < j) (hj : j < l.length) : (l.getD i default).block < (l.getD j default).block := by
 rw [Qcf _ _ (by omega), Qcf _ _ hj]
 exact List.pairwise_iff_getElem.1 h i j (by omega) hj hi
theorem QeH {α : Type} {l : List α} {q i : Nat} {x d : α} (hq : q < l.length) : (l.set q x).getD i d = if i = q then x else l.getD i d := by
 simp only [List.getD, List.getElem?_set]
 by_cases h : q = i
 ·subst h; simp [hq]
 ·rw [if_neg h, if_neg (fun e => h e.symm)]
theorem Qtj {α : Type} {l : List α} {i : Nat} {x d : α} (hi : i < l.length + 1) : (l ++ [x]).getD i d = if i = l.length then x else l.getD i d := by
 simp only [List.getD]
 by_cases h : i = l.length
 ·subst h; simp
 ·rw [if_neg h, List.getElem?_append_left (by omega)]
structure QOk (c : Conf) (serial : Int) (r : Rng) (w : Wrk) : Prop where
 ring : Qi4 r = true
 depth : r.depth = c.depth
 work : Qp1 c w = true
 req : w.state = 0 ∨ w.req.serial < serial
 items : ∀ k, k < r.items.length → (r.items.getD k default).serial < serial
theorem QOk.later {c : Conf} {n n' : Int} {r : Rng} {w : Wrk} (h : QOk c n r w) (hn : n ≤ n') : QOk c n' r w :=
 ⟨h.ring, h.depth, h.work, h.req.imp id fun k => by omega, fun k hk => by have := h.items k hk; omega⟩
structure Parts (s : St) : Prop where
 cfg : Qn s.cfg = 0
 dev : check s.dev = 0
 zones : (s.dev.zones.length : Int) = s.cfg.zones
 size : s.dev.size = s.cfg.size
 map : Q7 s.map = true
 shards : (s.map.length : Int) = s.cfg.shards
 blocks : QnA s.map s.cfg.blocks = true
 counts : QeT s.live s.pend = true
 live : (s.live.length : Int) = s.cfg.zones
 locks : QjZ s.owner = true
 stripes : (s.owner.length : Int) = s.cfg.shards
 epochs : Qeq s.glob s.pins s.rets = true
 pins : (s.pins.length : Int) = s.cfg.queues
 pool : QsL s.cfg s.free s.host s.lane = true
 rings : (s.rings.length : Int) = s.cfg.queues
 works : (s.works.length : Int) = s.cfg.queues
 next : 1 ≤ s.next ∧ s.next ≤ 1099511627776
 serial : 0 ≤ s.serial ∧ s.serial ≤ 1099511627776
structure Val (s : St) : Prop where
 parts : Parts s
 queues : ∀ i, i < s.rings.length → QOk s.cfg s.serial (s.rings.getD i default) (s.works.getD i default)
 evs : ∀ i, i < s.evs.length → (s.evs.getD i default).serial < s.serial
theorem Val.setWork {s : St} (h : Val s) {q : Nat} {w : Wrk} (hq : q < s.works.length) (h1 : Qp1 s.cfg w = true) (h2 : w.state = 0 ∨ w.req.serial < s.serial) : Val (s.setWork q w) := by
 refine ⟨{ h.parts with works := by simp only [St.setWork, List.length_set]; exact h.parts.works }, fun i hi => ?_, h.evs⟩
 have := h.queues i hi
 simp only [St.setWork]
 rw [QeH hq]
 split
 ·rename_i e; subst e; exact ⟨this.ring, this.depth, h1, h2, this.items⟩
 ·exact this
theorem Val.addEv {s : St} (h : Val s) {e : Evt} (he : e.serial < s.serial) : Val (s.addEv e) := by
 refine ⟨{ h.parts with }, h.queues, fun i hi => ?_⟩
 simp only [St.addEv, List.length_append, List.length_cons, List.length_nil] at hi ⊢
 rw [Qtj hi]
 split
 ·exact he
 ·exact h.evs i (by omega)
def QjB (l : List Int) (i n : Int) : List Int := l.set i.toNat (l.getD i.toNat default + n)
@[simp] theorem addAt_len (l : List Int) (i n : Int) : (QjB l i n).length = l.length := List.length_set
def hasC (live pend : List Int) (z : Int) : Bool := QeT live pend && decide (0 ≤ z ∧ z < live.length)
def QuP (live : List Int) (oz fz : Int) (had is : Bool) : List Int :=
 if is = true then QjB (if had = true then QjB live oz (-1) else live) fz 1 else if had = true then QjB live oz (-1) else live
def changeM (live pend : List Int) (oz fz : Int) (had is : Bool) : List Int × Bool :=
 if QeT live pend = true ∧ (had = true → hasC live pend oz = true) ∧ (is = true → hasC live pend fz = true) ∧ QeT (QuP live oz fz had is) pend = true then (QuP live oz fz had is, true) else (live, false)
def beginM (live pend : List Int) (z : Int) : List Int × Bool :=
 if hasC live pend z = true ∧ pend.getD z.toNat default ≠ 1099511627776 then (QjB pend z 1, true) else (pend, false)
def Qwd (o : List Int) (i : Int) : Bool := QjZ o && decide (0 ≤ i ∧ i < o.length ∧ o.getD i.toNat default = -1)
def takeL (o : List Int) (i t : Int) : List Int × Bool := if Qwd o i = true ∧ 0 ≤ t then (o.set i.toNat t, true) else (o, false)
def pinM (g : Int) (pins : List Int) (rets : List Ret) (q : Int) : List Int × Bool :=
 if Qeq g pins rets = true ∧ 0 ≤ q ∧ q < pins.length ∧ pins.getD q.toNat default = -1 then (pins.set q.toNat g, true) else (pins, false)
def retireM (g : Int) (pins : List Int) (rets : List Ret) (z : Int) : List Ret × Bool :=
 if Qeq g pins rets = true ∧ 0 ≤ z ∧ QuG rets z = false then (rets ++ [⟨z, g⟩], true) else (rets, false)
def QvL (g : Int) (pins : List Int) : Bool := decide (∀ i, i < pins.length → pins.getD i default = -1 ∨ pins.getD i default = g)
def advM (g : Int) (pins : List Int) (rets : List Ret) : Int × Bool :=
 if Qeq g pins rets = true ∧ g ≠ 1099511627776 ∧ QvL g pins = true then (g + 1, true) else (g, false)
def orW (x y : Int) : Int := IntKind.i64.wrap (BitVec.ofInt IntKind.i64.bits x ||| BitVec.ofInt IntKind.i64.bits y).toNat
def shW (x : Int) : Int := IntKind.i64.wrap (x * 2 ^ min (8 : Int).toNat IntKind.i64.bits)
def Qca (b : ByteArray) (k : Nat) : Int := IntKind.i64.wrap ((b.data.toList.getD k 0).toNat : Int)
def Qfk (b : ByteArray) (at_ size : Nat) : Nat → Int
 | 0 => 0
 | k + 1 => orW (shW (Qfk b at_ size k)) (Qca b (at_ + (size - 1 - k)))
def getE (b : ByteArray) (at_ size : Nat) : Int := if b.size < at_ + size then 2 else 0
def getS (b : ByteArray) (at_ size : Nat) : Int := if b.size < at_ + size then 0 else Qfk b at_ size size
def sumW (b : ByteArray) : Int := IntKind.i64.wrap (addU 0 b)
def rawR (s : ByteArray) : Rec := ⟨getS s 2 1, getS s 4 4, getS s 8 6, getS s 14 1, s.extract 16 (16 + min (getS s 3 1) 20).toNat⟩
def decE (s : ByteArray) : Int := if s.size = 40 then if getS s 36 4 = sumW (s.extract 0 36) then if QC (rawR s) = 0 ∧ encR (rawR s) = s then 0 else 3 else 4 else 2
def decR (s : ByteArray) : Rec := if decE s = 0 then rawR s else default
def QdM (r : Rec) : Bool := decide (r.kind = 1 ∨ r.kind = 2)
def QgE (r : Rec) : Rec × Bool := if QC r = 0 ∧ QdM r = true then ({ r with move := min (r.move + 1) 255 }, true) else (default, false)
def Qau (s : ByteArray) : Rec × Bool := if decE s = 0 ∧ QdM (decR s) = true then (decR s, true) else (default, false)
def Qen (l : List ByteArray) : Nat → Int
 | 0 => 1099511627776
 | k + 1 => min (Qen l k) (decR (l.getD k ByteArray.empty)).version
def Qek (l : List ByteArray) : Nat → Int
 | 0 => 0
 | k + 1 => max (Qek l k) (decR (l.getD k ByteArray.empty)).version
def QhE (l : List ByteArray) : Nat → ByteArray
 | 0 => ByteArray.empty
 | k + 1 => QhE l k ++ (l.getD k ByteArray.empty).extract 0 36
def blkE (s : ByteArray) : Int := if decE s = 0 then if QdM (decR s) = true then 0 else 3 else decE s
def Qcg (l : List ByteArray) : Nat → Int
 | 0 => 0
 | k + 1 => if Qcg l k = 0 then blkE (l.getD k ByteArray.empty) else Qcg l k
def Qwa (l : List ByteArray) : Int := if l.length = 0 ∨ 64 < l.length then 19 else Qcg l l.length
def makeR (l : List ByteArray) : Rec := if Qwa l = 0 then ⟨3, l.length, Qek l l.length, 0, putS (Qen l l.length) 6 ++ putS (sumW (QhE l l.length)) 4⟩ else default
def Qam (e : Ent) (next : Int) : Int :=
 if e.kind = 1 then if 0 ≤ e.block ∧ e.block < 128 ∧ 1 ≤ e.version ∧ e.version < next ∧ 0 ≤ e.move ∧ e.move ≤ 255 ∧ 0 ≤ e.zone ∧ e.zone < 32 ∧ 0 ≤ e.offset ∧ e.offset < 64 then 0 else 1 else 3
def QX (l : List Ent) (next : Int) : Nat → Int
 | 0 => 0
 | k + 1 => if QX l next k = 0 then if Qam (l.getD k default) next = 0 then if 0 < k ∧ (l.getD k default).block ≤ (l.getD (k - 1) default).block then 17 else 0 else Qam (l.getD k default) next else QX l next k
def QJ (seq next cut : Int) (l : List Ent) : Int :=
 if 1 ≤ seq ∧ seq < 1099511627776 ∧ 1 ≤ next ∧ next ≤ 1099511627776 ∧ 1 ≤ cut ∧ cut ≤ next then if 128 < l.length then 19 else QX l next l.length else 1
def Qbz (seq next cut : Int) (l : List Ent) : Rec := ⟨4, l.length, seq, 0, putS next 6 ++ putS cut 6⟩
def QbL (e : Ent) : Rec := ⟨5, e.block, e.version, e.move, putS e.zone 2 ++ putS e.offset 2⟩
def QU (l : List Rec) : Nat → ByteArray
 | 0 => ByteArray.empty
 | k + 1 => if QC (l.getD k default) = 0 then QU l k ++ (encR (l.getD k default)).extract 0 36 else QU l k
def Qdq (l : List Rec) : ByteArray := putS (sumW (QU l l.length)) 4
def QbN (seq next cut : Int) (l : List Ent) : List Rec := Qbz seq next cut l :: l.map QbL
def Qa4 (seq next cut : Int) (l : List Ent) : List Rec :=
 if QJ seq next cut l = 0 then QbN seq next cut l ++ [⟨6, l.length, seq, 0, Qdq (QbN seq next cut l)⟩] else []
def recE (r : Rec) (zone at_ : Int) : Ent := ⟨r.block, r.kind, r.version, r.move, zone, at_⟩
structure Fnd where
 zone : Int
 offset : Int
 r : Rec
 deriving DecidableEq
instance : Inhabited Fnd := ⟨⟨0, 0, default⟩⟩
def Fnd.cells (f : Fnd) : List C := [.int .i64 f.zone, .int .i64 f.offset, .int .i64 f.r.kind, .int .i64 f.r.block, .int .i64 f.r.version, .int .i64 f.r.move, .str f.r.payload]
def Fnd.cell (f : Fnd) : Nat → C
 | 0 => .int .i64 f.zone
 | 1 => .int .i64 f.offset
 | 2 => .int .i64 f.r.kind
 | 3 => .int .i64 f.r.block
 | 4 => .int .i64 f.r.version
 | 5 => .int .i64 f.r.move
 | 6 => .str f.r.payload
 | _ => .junk
def fndG (l : List Fnd) : Nat → Nat → C := rowG Fnd.cell l
def Qb5 (l : List Fnd) : C := .isl 7 l.length (fndG l) false
theorem Qv (e : Fnd) (j : Nat) : (e.cell j).imm = true := by
 unfold Fnd.cell; split <;> rfl
instance : PlainF Fnd.cell := ⟨fun e j => by unfold Fnd.cell; split <;> rfl⟩
structure Bas where
 seq : Int
 next : Int
 cut : Int
 ents : List Ent
 deriving DecidableEq
instance : Inhabited Bas := ⟨⟨0, 0, 0, []⟩⟩
def Bas.cells (b : Bas) : List C := [.int .i64 b.seq, .int .i64 b.next, .int .i64 b.cut, QQ b.ents]
def Qah (b : Bas) (f : Fnd) : Bool := decide (b.cut ≤ f.r.version) || b.ents.any fun e => decide (e.block = f.r.block ∧ e.version = f.r.version)
def Qw (a b : Fnd) : Bool :=
 if a.r.version = b.r.version then
  if a.r.move = b.r.move then
   if a.zone = b.zone then decide (a.offset < b.offset) else decide (a.zone < b.zone)
  else decide (b.r.move < a.r.move)
 else decide (b.r.version < a.r.version)
def Qcz (b : Bas) (block : Int) (o : Option Fnd) (f : Fnd) : Option Fnd :=
 if f.r.block = block ∧ Qah b f = true ∧ (∀ g, o = some g → Qw f g = true) then some f else o
def QO (b : Bas) (l : List Fnd) (block : Int) : Option Fnd := l.foldl (Qcz b block) none
def Qc8 (z : Int) (i : Nat) (s : ByteArray) : List Fnd := if (Qau s).2 = true ∧ 1 ≤ (Qau s).1.version then [⟨z, i, (Qau s).1⟩] else []
def Qa6 (z : Int) (l : List ByteArray) : Nat → List Fnd
 | 0 => []
 | k + 1 => Qa6 z l k ++ Qc8 z k (l.getD k ByteArray.empty)
def QcV (d : Dev) (z : Int) : List Fnd := if 0 ≤ z ∧ z < d.zones.length then Qa6 z (d.zones.getD z.toNat default).sectors (d.zones.getD z.toNat default).sectors.length else []
def Qag (c : Conf) (d : Dev) : Nat → List Fnd
 | 0 => []
 | k + 1 => if QaS c k = true then Qag c d k ++ QcV d k else Qag c d k
def QaW (c : Conf) (d : Dev) : List Fnd := Qag c d d.zones.length
def Qcs (l : List Fnd) : Int := l.foldl (fun n f => max n f.r.version) 0
def QbG (a b : Fnd) : Bool := decide (a.r.version = b.r.version → a.r.kind = b.r.kind ∧ a.r.block = b.r.block ∧ a.r.payload = b.r.payload)
def Qds (l : List Fnd) : Bool := decide (∀ i, i < l.length → ∀ k, k < i → QbG (l.getD i default) (l.getD k default) = true)
def entD (r : Rec) : Ent := ⟨r.block, 1, r.version, r.move, getS r.payload 0 2, getS r.payload 2 2⟩
def midL (l : List Rec) : List Rec := (l.drop 1).take (l.length - 2)
def QB (l : List Rec) : Bas := ⟨(l.getD 0 default).version, getS (l.getD 0 default).payload 0 6, getS (l.getD 0 default).payload 6 6, (midL l).map entD⟩
def QaU (l : List Rec) : Int := if 2 ≤ l.length ∧ QJ (QB l).seq (QB l).next (QB l).cut (QB l).ents = 0 ∧ l = Qa4 (QB l).seq (QB l).next (QB l).cut (QB l).ents then 0 else 3
def Qao (l : List Rec) : Bas := if QaU l = 0 then QB l else default
def Qa8 (c : Conf) (l : List Rec) : Int := if QaU l = 0 ∧ (Qao l).ents.length ≤ c.blocks ∧ (0 < (Qao l).ents.length → ((Qao l).ents.getD ((Qao l).ents.length - 1) default).block < c.blocks) then 0 else 3
def Qa9 (c : Conf) (l : List Rec) : Bas := if Qa8 c l = 0 then Qao l else default
def Qai : List ByteArray → Option (List Rec)
 | [] => none
 | s :: t => if decE s = 0 then if (decR s).kind = 6 then some [decR s] else (Qai t).map (decR s :: ·) else none
def Qas (c : Conf) (slot : Int) : List Int := tabL (fun k => slot * Qi c + k) (Qi c).toNat
def QaT (d : Dev) (l : List Int) : List ByteArray := l.flatMap fun z => (d.zones.getD z.toNat default).sectors
def Qu (c : Conf) (d : Dev) (slot : Int) : Int :=
 if Qn c = 0 then
  if slot * Qi c + Qi c ≤ d.zones.length then
   match Qai (QaT d (Qas c slot)) with
   | none => 3
   | some l => Qa8 c l
  else 5
 else Qn c
def Qz (c : Conf) (d : Dev) (slot : Int) : Bas :=
 if Qu c d slot = 0 then
  match Qai (QaT d (Qas c slot)) with
  | none => default
  | some l => Qa9 c l
 else default
def Qg (c : Conf) (d : Dev) : Bas × Int :=
 if Qu c d 0 = 0 ∧ (Qu c d 1 ≠ 0 ∨ (Qz c d 1).seq ≤ (Qz c d 0).seq) then (Qz c d 0, 0)
 else if Qu c d 1 = 0 then (Qz c d 1, 1) else (default, -1)
def QbH (c : Conf) (d : Dev) : Bas := if (Qg c d).2 < 0 then ⟨0, 1, 1, []⟩ else (Qg c d).1
def badF (c : Conf) (d : Dev) : Bool :=
 (d.zones.any fun z => decide (z.state = 5)) || ((QaW c d).any fun f => decide (c.blocks ≤ f.r.block ∨ f.r.version = 1099511627776)) || !Qds (QaW c d)
def QcN (c : Conf) (d : Dev) : Bool := (QbH c d).ents.any fun e => (QO (QbH c d) (QaW c d) e.block).isNone
def QH (c : Conf) (d : Dev) : Int :=
 if Qn c = 0 then
  if check d = 0 then
   if (d.zones.length : Int) = c.zones ∧ d.size = c.size then
    if badF c d = true then 14 else if QcN c d = true then 14 else 0
   else 11
  else check d
 else Qn c
def QaI (b : Bas) (l : List Fnd) (i : Nat) : List Ent :=
 match QO b l i with
 | none => []
 | some f => if f.r.kind = 1 ∨ b.cut ≤ f.r.version then [⟨i, f.r.kind, f.r.version, f.r.move, f.zone, f.offset⟩] else []
def Qal (b : Bas) (l : List Fnd) : Nat → List Ent
 | 0 => []
 | k + 1 => Qal b l k ++ QaI b l k
def winL (c : Conf) (d : Dev) : List Ent := Qal (QbH c d) (QaW c d) c.blocks.toNat
def QaZ (m : List (List Ent)) (l : List Ent) : List (List Ent) := l.foldl (fun m e => (Qaz m e).1) m
def QbX (n : Int) : List (List Ent) := List.replicate n.toNat []
structure Img where
 map : List (List Ent)
 version : Int
 seq : Int
 slot : Int
 deriving DecidableEq
instance : Inhabited Img := ⟨⟨[], 0, 0, 0⟩⟩
def Img.cells (x : Img) : List C := [Qh x.map, .int .i64 x.version, .int .i64 x.seq, .int .i64 x.slot]
def QaP (c : Conf) (d : Dev) : Img := ⟨QaZ (QbX c.shards) (winL c d), max (Qcs (QaW c d)) ((QbH c d).next - 1), (Qg c d).1.seq, (Qg c d).2⟩
def QbQ (c : Conf) (d : Dev) : Img := if QH c d = 0 then QaP c d else default
theorem Qj1 (n : Nat) (g : Nat → Nat → C) (t : Bool) (hn : n ≤ 10000000) (him : ∀ i, i < n → ∀ j, j < 6 → (g i j).imm = true) : CS 139 [.c (.isl 6 n g t)] [] fun s H => s = .c (.sl 0 6 n n false) ∧ H = [.arr 67 6 n g] := by
 refine CSpec.rm ?_
 refine ov0 hΓ Tryz.func139 8 0 [.tmp 2] Tryz.ntmps139 Tryz.results139 ?_
 intro b hb
 refine Go0 ?_
 refine Br.of (fun h=>Go0 ?_) (fun h=>Go0 ?_)
 ·have : n = 0 := by
   rcases Nat.eq_zero_or_pos n with c | c
   ·exact c
   ·exact absurd h (by rw [hb c]; simp)
  subst this
  exact ⟨_, _, RM.nilO 67 6 g, rfl, rfl⟩
 ·refine ⟨_, _, ?_, rfl, rfl⟩
  refine RM.w1 ?_
  intro i hi j hj
  exact WC.eq (by simp [appG]) (him i (by omega) j hj)
theorem Qlt : HB 139 := hB Tryz.func139
theorem Qlw (l : List Ent) (hn : l.length ≤ 10000000) : PS 139 [.c (QQ l)] (.c (QQ l)) := PSpec.ofO (Qj1 _ _ _ hn fun _ _ _ _ => QK _ _) fun _ _ _ _ => QK _ _
end Go.Proofs
end
