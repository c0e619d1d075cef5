/- Contracts, lemmas; no condition. -/
import Derived.Test.YtmollgldghpbkaaGreatStAV
set_option linter.all false
section
open Go Go.Am
namespace Go.Proofs
set_option maxRecDepth 20000
theorem Qoe {l : List Int} (h : ∀ i, i < l.length → 0 < i → l.getD (i - 1) default < l.getD i default) : l.Pairwise (· < ·) := by
 have key : ∀ d i, i + d + 1 < l.length → l.getD i default < l.getD (i + d + 1) default := by
  intro d
  induction d with
  | zero => intro i hi; exact h (i + 1) hi om
  | succ d ih =>
   intro i hi
   have h1 := ih i om
   have h2 := h (i + (d + 1) + 1) hi om
   rw [show i + (d + 1) + 1 - 1 = i + d + 1 by omega] at h2
   omega
 refine List.pairwise_iff_getElem.2 fun i j hi hj hij => ?_
 have := key (j - i - 1) i om
 rw [show i + (j - i - 1) + 1 = j by omega, Qp _ _ hi, Qp _ _ hj] at this
 exact this
theorem QpV {c : Conf} {l : List Int} : QdD c l = true ↔ (∀ z ∈ l, QO c z = true) ∧ l.Pairwise (· < ·) := by
 unfold QdD
 rw [decide_eq_true_eq]
 constructor
 ·intro h
  refine ⟨fun z hz => ?_, Qoe fun i hi h0 => (h i hi).2 h0⟩
  obtain ⟨i, hi, rfl⟩ := List.getElem_of_mem hz
  have := (h i hi).1
  rwa [Qp _ _ hi] at this
 ·rintro ⟨h1, h2⟩ i hi
  refine ⟨by rw [Qp _ _ hi]; exact h1 _ (List.getElem_mem hi), fun h0 => ?_⟩
  rw [Qp _ _ hi, Qp _ _ (show i - 1 < l.length by omega)]
  exact List.pairwise_iff_getElem.1 h2 (i - 1) i om hi om
structure PoolOk (c : Conf) (free : List Int) (a b : Int) : Prop where
 cfg : Qw c = 0
 data : ∀ z ∈ free, QO c z = true
 asc : free.Pairwise (· < ·)
 host : a = -1 ∨ QO c a = true ∧ a ∉ free
 lane : b = -1 ∨ QO c b = true ∧ b ∉ free
 ne : a = -1 ∨ a ≠ b
theorem poolOk_P {c : Conf} {free : List Int} {host lane : Int} : poolOk c free host lane = true ↔ PoolOk c free host lane := by
 unfold poolOk QbY
 simp only [Bool.and_eq_true, decide_eq_true_eq, QpV]
 exact ⟨fun ⟨a, ⟨b, b'⟩, c, d, e⟩ => ⟨a, b, b', c, d, e⟩, fun ⟨a, b, b', c, d, e⟩ => ⟨a, ⟨b, b'⟩, c, d, e⟩⟩
theorem without_mem {l : List Int} {n z : Int} : z ∈ QaF l n ↔ z ∈ l ∧ z ≠ n := by
 unfold QaF
 simp
theorem PoolOk.without {c : Conf} {free : List Int} {host lane : Int} (h : PoolOk c free host lane) (z : Int) : PoolOk c (QaF free z) host lane :=
 ⟨h.cfg, fun y hy => h.data y (without_mem.1 hy).1, List.Pairwise.sublist List.filter_sublist h.asc, h.host.imp id fun k => ⟨k.1, fun q => k.2 (without_mem.1 q).1⟩, h.lane.imp id fun k => ⟨k.1, fun q => k.2 (without_mem.1 q).1⟩, h.ne⟩
theorem PoolOk.setHost {c : Conf} {free : List Int} {host lane z : Int} (h : PoolOk c free host lane) (hz : z ∈ free) : PoolOk c (QaF free z) z lane :=
 ⟨h.cfg, (h.without z).data, (h.without z).asc, Or.inr ⟨h.data z hz, fun q => (without_mem.1 q).2 rfl⟩, (h.without z).lane, Or.inr fun q => by
  rcases h.lane with k | k
  ·have := Qbr (h.data z hz); omega
  ·exact k.2 (q ▸ hz)⟩
theorem PoolOk.setLane {c : Conf} {free : List Int} {host lane z : Int} (h : PoolOk c free host lane) (hz : z ∈ free) : PoolOk c (QaF free z) host z :=
 ⟨h.cfg, (h.without z).data, (h.without z).asc, (h.without z).host, Or.inr ⟨h.data z hz, fun q => (without_mem.1 q).2 rfl⟩, by
  rcases h.host with k | k
  ·exact Or.inl k
  ·exact Or.inr fun q => k.2 (q ▸ hz)⟩
theorem Val.withPool {s : St} (h : Val s) {f : List Int} {a b : Int} (h1 : PoolOk s.cfg f a b) : Val { s with free := f, host := a, lane := b } :=
 ⟨{ h.parts with pool := poolOk_P.2 h1 }, h.queues, h.evs⟩
theorem Val.pool {s : St} (h : Val s) : PoolOk s.cfg s.free s.host s.lane := poolOk_P.1 h.parts.pool
structure Gd (c : Conf) (n : Int) (r e : Nat) (s : St) : Prop where
 val : Val s
 cfg : s.cfg = c
 next : s.next ≤ n
 rets : s.rets.length ≤ r
 evs : s.evs.length ≤ e
 sav : s.sav = default
theorem Gd.weak {c : Conf} {n n' : Int} {r r' e e' : Nat} {s : St} (h : Gd c n r e s) (h1 : n ≤ n') (h2 : r ≤ r') (h3 : e ≤ e') : Gd c n' r' e' s :=
 ⟨h.val, h.cfg, by have := h.next; omega, by have := h.rets; omega, by have := h.evs; omega, h.sav⟩
theorem Qbf (s : St) (e : Ent) : ∃ l m, s.install e = { s with live := l, map := m } := by
 unfold St.install
 split
 ·exact ⟨_, _, rfl⟩
 ·exact ⟨s.live, s.map, rfl⟩
theorem Qhm (s : St) (z : Int) (r : Rec) : ∃ d l m, s.add z r = { s with dev := d, live := l, map := m } := by
 unfold St.add
 split
 ·obtain ⟨l, m, e⟩ := Qbf (s.put z r) (recE r z (Qe s.dev z (encR r)))
  exact ⟨_, l, m, e⟩
 ·exact ⟨s.dev, s.live, s.map, rfl⟩
theorem QeU (s : St) (e : Ent) (z : Int) : ∃ d l m, s.copied e z = { s with dev := d, live := l, map := m } := by
 unfold St.copied
 split
 ·exact ⟨_, _, _, rfl⟩
 ·exact ⟨s.dev, s.live, s.map, rfl⟩
variable {c : Conf} {n : Int} {r e : Nat}
theorem Gd.add {s : St} (h : Gd c n r e s) (z : Int) {x : Rec} (hx : x.block < c.blocks) : Gd c n r e (s.add z x) := by
 have hv := h.val.add z (r := x) (by rw [h.cfg]; exact hx)
 obtain ⟨d, l, m, q⟩ := Qhm s z x
 rw [q] at hv ⊢
 exact ⟨hv, h.cfg, h.next, h.rets, h.evs, h.sav⟩
theorem Gd.bump {s : St} (h : Gd c n r e s) (hn : n ≤ 1000000) : Gd c (n + 1) r e s.bump :=
 ⟨h.val.bump (by have := h.next; omega), h.cfg, by show s.next + 1 ≤ _; have := h.next; omega, h.rets, h.evs, h.sav⟩
theorem QgM (d : DiceM) {b v : Int} (h1 : 1 ≤ b) (h2 : b ≤ 1000) : 0 ≤ (recR d b v).block ∧ (recR d b v).block < b := by
 have := d.next_range h1 om
 unfold recR
 split <;> exact this
theorem QeJ {c : Conf} (h : Qw c = 0) : 1 ≤ c.blocks ∧ c.blocks ≤ 1000 := by
 have := confR_iff.1 (Qv h).1
 omega
theorem Gd.conf {s : St} (h : Gd c n r e s) : Qw c = 0 := by rw [← h.cfg]; exact h.val.parts.cfg
theorem Gd.addF {p : DS} (h : Gd c n r e p.2) (hn : n ≤ 1000000) (z : Int) : Gd c (n + 1) r e (addF z p).2 := by
 have hb := QeJ h.conf
 exact (h.bump hn).add z (by rw [h.cfg]; exact (QgM _ hb.1 hb.2).2)
theorem Gd.addTo {p : DS} (h : Gd c n r e p.2) (z : Int) : ∀ k : Nat, n + k ≤ 1000000 → Gd c (n + k) r e (addTo z p k).2
 | 0, _ => h.weak om (Nat.le_refl _) (Nat.le_refl _)
 | k + 1, hk => ((Gd.addTo h z k om).addF om z).weak om (Nat.le_refl _) (Nat.le_refl _)
theorem Gd.put {s : St} (h : Gd c n r e s) (z : Int) (x : Rec) : Gd c n r e (s.put z x) := ⟨h.val.put z x, h.cfg, h.next, h.rets, h.evs, h.sav⟩
theorem Gd.pool {s : St} (h : Gd c n r e s) {f : List Int} {a b : Int} (h1 : PoolOk c f a b) : Gd c n r e { s with free := f, host := a, lane := b } := ⟨h.val.withPool (by rw [h.cfg]; exact h1), h.cfg, h.next, h.rets, h.evs, h.sav⟩
theorem Gd.poolOk {s : St} (h : Gd c n r e s) : PoolOk c s.free s.host s.lane := by rw [← h.cfg]; exact h.val.pool
theorem Gd.unfree {s : St} (h : Gd c n r e s) (z : Int) : Gd c n r e (s.unfree z) := h.pool (h.poolOk.without z)
theorem Gd.fullF {p : DS} (h : Gd c n r e p.2) (z : Int) (hn : n + c.size ≤ 1000000) : Gd c (n + c.size) r e (fullF z p).2 := by
 have hr := confR_iff.1 (Qv h.conf).1
 have h1 := h.addTo z (p.2.cfg.size - 1).toNat (by rw [h.cfg]; omega)
 exact (h1.put z _).weak (by rw [h.cfg]; omega) (Nat.le_refl _) (Nat.le_refl _)
theorem Gd.fullTo {p : DS} (h : Gd c n r e p.2) : ∀ k : Nat, n + k * c.size ≤ 1000000 → Gd c (n + k * c.size) r e (fullTo c p k).2
 | 0, _ => h.weak (by simp) (Nat.le_refl _) (Nat.le_refl _)
 | k + 1, hk => by
  have hr := confR_iff.1 (Qv h.conf).1
  have e1 : ((k + 1 : Nat) : Int) * c.size = k * c.size + c.size := by rw [Int.natCast_add, Int.add_mul]; simp
  rw [e1] at hk ⊢
  have h1 := Gd.fullTo h k om
  exact (Gd.fullF (p := ((Go.Proofs.fullTo c p k).1, (Go.Proofs.fullTo c p k).2.unfree (2 * Qo c + k))) (h1.unfree _) (2 * Qo c + k) om).weak om (Nat.le_refl _) (Nat.le_refl _)
theorem Gd.copied {s : St} (h : Gd c n r e s) (x : Ent) (z : Int) : Gd c n r e (s.copied x z) := by
 have hv := h.val.copied x z
 obtain ⟨d, l, m, q⟩ := QeU s x z
 rw [q] at hv ⊢
 exact ⟨hv, h.cfg, h.next, h.rets, h.evs, h.sav⟩
theorem Gd.copyRun (z : Int) : ∀ (l : List Ent) (i : Nat) {p : DS}, Gd c n r e p.2 → Gd c n r e (copyRun z l i p).2
 | [], _, _, h => h
 | x :: l, i, p, h => by
  unfold Go.Proofs.copyRun
  split
  ·exact Gd.copyRun z l (i + 1) (p := (p.1.step, p.2.copied x z)) (h.copied x z)
  ·exact h
theorem Qmq {s : St} (h : 0 < s.free.length) : s.free.getD 0 default ∈ s.free := by
 rw [Qp _ _ h]
 exact List.getElem_mem h
theorem Gd.hostF {p : DS} (h : Gd c n r e p.2) (hn : n + c.size ≤ 1000000) : Gd c (n + c.size) r e (hostF p).2 := by
 have hr := confR_iff.1 (Qv h.conf).1
 unfold Go.Proofs.hostF
 split
 ·rename_i hf
  split
  ·have h1 : Gd c n r e { (p.2.unfree (p.2.free.getD 0 default)) with host := p.2.free.getD 0 default } := h.pool (h.poolOk.setHost (Qmq hf))
   have hx := p.1.step.next_range (n := p.2.cfg.size) (by rw [h.cfg]; omega) (by rw [h.cfg]; omega)
   rw [h.cfg] at hx
   rw [h.cfg]
   exact (Gd.addTo (p := (p.1.step.step, { (p.2.unfree (p.2.free.getD 0 default)) with host := p.2.free.getD 0 default })) h1 _ _ om).weak om (Nat.le_refl _) (Nat.le_refl _)
  ·exact h.weak om (Nat.le_refl _) (Nat.le_refl _)
 ·exact h.weak om (Nat.le_refl _) (Nat.le_refl _)
theorem Gd.laneF {p : DS} (h : Gd c n r e p.2) : Gd c n r e (laneF p).2 := by
 unfold Go.Proofs.laneF
 split
 ·rename_i hf
  split
  ·exact Gd.copyRun _ _ _ (p := (p.1.step, { (p.2.unfree (p.2.free.getD 0 default)) with lane := p.2.free.getD 0 default })) (h.pool (h.poolOk.setLane (Qmq hf)))
  ·exact h
 ·exact h
theorem Gd.retireF {p : DS} (h : Gd c n r e p.2) (i : Int) : Gd c n (r + 1) e (retireF i p).2 := by
 unfold Go.Proofs.retireF
 split
 ·split
  ·refine ⟨h.val.withEpochs (QhZ h.val.parts.epochs i) rfl, h.cfg, h.next, ?_, h.evs, h.sav⟩
   show (Qau p.2.glob p.2.pins p.2.rets i).1.length ≤ _
   have := h.rets
   unfold Qau
   split
   ·simp; omega
   ·show p.2.rets.length ≤ _
    omega
  ·exact h.weak (Int.le_refl _) om (Nat.le_refl _)
 ·exact h.weak (Int.le_refl _) om (Nat.le_refl _)
theorem Gd.advF {p : DS} (h : Gd c n r e p.2) : Gd c n r e (advF p).2 := by
 unfold Go.Proofs.advF
 split
 ·exact ⟨h.val.withEpochs (Qk0 h.val.parts.epochs) rfl, h.cfg, h.next, h.rets, h.evs, h.sav⟩
 ·exact h
theorem Gd.retTo {p : DS} (h : Gd c n r e p.2) : ∀ k : Nat, Gd c n (r + k) e (retTo c p k).2
 | 0 => h
 | k + 1 => ((Gd.retTo h k).retireF (2 * Qo c + k)).advF
theorem Gd.flagsF {p : DS} (h : Gd c n r e p.2) : Gd c n r e (flagsF p).2 := by
 have h1 : Gd c n r e { p.2 with want := decide (p.1.next 4 = 3), closed := decide (p.1.step.next 12 = 11) } := ⟨⟨{ h.val.parts with }, h.val.queues, h.val.evs⟩, h.cfg, h.next, h.rets, h.evs, h.sav⟩
 unfold Go.Proofs.flagsF
 dsimp only
 split
 ·exact ⟨h1.val.sync, h1.cfg, h1.next, h1.rets, h1.evs, h1.sav⟩
 ·exact h1
theorem QtS {c : Conf} (h : Qw c = 0) : Gd c 1 0 0 (QE c) := ⟨Qs7 h, rfl, Int.le_refl _, Nat.le_refl _, Nat.le_refl _, rfl⟩
theorem Qhj (d : DiceM) : (Qad d).size ≤ 6 ∧ (Qad d).queues ≤ 3 ∧ (Qad d).blocks ≤ 6 ∧ (Qad d).zones ≤ 32 := by
 have h := confR_iff.1 (Qv (QiM d)).1
 have r1 := d.next_range (n := 4) om om
 have r2 := d.step.next_range (n := 6) om om
 have r3 := d.step.step.next_range (n := 3) om om
 refine ⟨?_, ?_, ?_, om⟩
 ·show 3 + d.next 4 ≤ 6; omega
 ·show 1 + d.step.step.next 3 ≤ 3; omega
 ·show 1 + d.step.next 6 ≤ 6; omega
theorem Qpe {c : Conf} (h : Qw c = 0) : 6 ≤ Qq c ∧ Qq c ≤ 32 := by
 have h1 := confR_iff.1 (Qv h).1
 have h2 := (Qv h).2.1
 have h3 := Qae (Qv h).1
 unfold Qq at h2 ⊢
 omega
end Go.Proofs
end

section
open Go Go.Am
namespace Go.Proofs
set_option maxRecDepth 20000
theorem Qks {l : List Int} (h : l.Pairwise (· < ·)) (h0 : ∀ x ∈ l, 0 ≤ x) {n : Int} (hn : ∀ x ∈ l, x < n) : (l.length : Int) ≤ max n 0 := by
 have key : ∀ i (hi : i < l.length), (i : Int) ≤ l[i] := by
  intro i
  induction i with
  | zero => intro hi; exact h0 _ (List.getElem_mem hi)
  | succ i ih =>
   intro hi
   have h1 := ih om
   have h2 := List.pairwise_iff_getElem.1 h i (i + 1) om hi om
   omega
 by_cases c : l.length = 0
 ·rw [c]; simp; omega
 ·have h1 := key (l.length - 1) om
  have h2 := hn _ (List.getElem_mem (l := l) (n := l.length - 1) om)
  omega
theorem QhA {m : List (List Ent)} (h : Qu m = true) {n : Int} (hb : QaE m n = true) (h0 : 0 ≤ n) (i : Nat) : ((m.getD i default).length : Int) ≤ n := by
 by_cases c : i < m.length
 ·have hg := Qb7 h c
  have ha := Qfx hg.1
  have := Qks (l := (m.getD i default).map Ent.block) (List.pairwise_map.2 ha) (fun x hx => by
   obtain ⟨e, he, rfl⟩ := List.mem_map.1 hx
   have := Qc1 hg.1 he
   unfold Qbl at this
   rw [decide_eq_true_eq] at this
   exact this.2.2.2.2.2.1) (n := n) (fun x hx => by
   obtain ⟨e, he, rfl⟩ := List.mem_map.1 hx
   exact blocksIn_iff.1 hb i c e he)
  rw [List.length_map] at this
  omega
 ·rw [show m.getD i default = [] by simp [List.getD, Nat.le_of_not_lt c]; rfl]
  simpa using h0
theorem Qty {d : Dev} (h : check d = 0) : d.small ∧ d.zones.length ≤ 32 ∧ d.size ≤ 64 ∧ ∀ i, (d.zones.getD i default).sectors.length ≤ 64 := by
 have ho := check_ok.1 h
 have hc := ho.conf
 unfold Qbu at hc
 rw [decide_eq_true_eq] at hc
 have hz : ∀ i, (d.zones.getD i default).sectors.length ≤ 64 := fun i => by
  by_cases c : i < d.zones.length
  ·have := Qk1 (ho.zones (d.zones.getD i default) (by rw [Qp _ _ c]; exact List.getElem_mem c))
   rw [Qp _ _ c] at this ⊢
   omega
  ·rw [show d.zones.getD i default = default by simp [List.getD, Nat.le_of_not_lt c]]
   exact Nat.zero_le _
 exact ⟨⟨om, fun i => by have := hz i; omega⟩, om, om, hz⟩
theorem Val.small {s : St} (h : Val s) (hr : s.rets.length ≤ 1000000) (he : s.evs.length ≤ 1000000) (h1 : s.sav.ents.length ≤ 1000000) (h2 : s.sav.recs.length ≤ 1000000) : s.small := by
 have hp := h.parts
 have hc := confR_iff.1 (Qv hp.cfg).1
 have hm := Qbp hp.map
 have hd := Qty hp.dev
 have hcn := countsOk_iff2.1 hp.counts
 have hl := locksOk_iff2.1 hp.locks
 have hep := epochs_iff.1 hp.epochs
 have hpo := poolOk_P.1 hp.pool
 have hf := Qks hpo.asc (fun x hx => (Qbr (hpo.data x hx)).1) (n := 32) (fun x hx => by have := (Qbr (hpo.data x hx)).2.1; omega)
 have r1 := hp.rings
 have r2 := hp.works
 refine ⟨hd.1, om, fun i => by have := QhA hp.map hp.blocks om i; omega, om, om, om, om, hr, om, om, fun i => ?_, om, h1, h2, he⟩
 by_cases c : i < s.rings.length
 ·have := (ringOk_R.1 (h.queues i c).ring).1
  omega
 ·rw [show s.rings.getD i default = default by simp [List.getD, Nat.le_of_not_lt c]]
  exact Nat.zero_le _
variable {c : Conf} {n : Int} {r e : Nat}
theorem Gd.small {s : St} (h : Gd c n r e s) (hr : r ≤ 1000000) (he : e ≤ 1000000) : s.small :=
 h.val.small (by have := h.rets; omega) (by have := h.evs; omega) (by rw [h.sav]; exact Nat.zero_le _) (by rw [h.sav]; exact Nat.zero_le _)
theorem Qdb (s : St) (x : Ent) : (s.install x).works = s.works := by obtain ⟨_, _, q⟩ := Qbf s x; rw [q]
theorem QrR (s : St) (z : Int) (x : Rec) : (s.add z x).works = s.works := by obtain ⟨_, _, _, q⟩ := Qhm s z x; rw [q]
theorem QcK (s : St) (x : Ent) (z : Int) : (s.copied x z).works = s.works := by obtain ⟨_, _, _, q⟩ := QeU s x z; rw [q]
theorem Qij (z : Int) (p : DS) : ∀ k, (addTo z p k).2.works = p.2.works
 | 0 => rfl
 | k + 1 => (QrR _ _ _).trans (Qij z p k)
theorem Qol (z : Int) (p : DS) : (fullF z p).2.works = p.2.works := Qij z p _
theorem QnJ (c : Conf) (p : DS) : ∀ k, (fullTo c p k).2.works = p.2.works
 | 0 => rfl
 | k + 1 => (Qol _ _).trans (QnJ c p k)
theorem QlT (z : Int) : ∀ (l : List Ent) (i : Nat) (p : DS), (copyRun z l i p).2.works = p.2.works
 | [], _, _ => rfl
 | x :: l, i, p => by
  unfold Go.Proofs.copyRun
  split
  ·exact (QlT z l (i + 1) _).trans (QcK _ _ _)
  ·rfl
end Go.Proofs
end

section
open Go Go.Am
namespace Go.Proofs
set_option maxRecDepth 20000
structure Gq (c : Conf) (n : Int) (r : Nat) (s : St) : Prop where
 gd : Gd c n r 0 s
 rings : s.rings = (QE c).rings
 works : s.works = (QE c).works
 serial : s.serial = 0
variable {c : Conf} {n : Int} {r e : Nat}
theorem Gq.weak {n' : Int} {r' : Nat} {s : St} (h : Gq c n r s) (h1 : n ≤ n') (h2 : r ≤ r') : Gq c n' r' s := ⟨h.gd.weak h1 h2 (Nat.le_refl _), h.rings, h.works, h.serial⟩
theorem Qt7 {c : Conf} (h : Qw c = 0) : Gq c 1 0 (QE c) := ⟨QtS h, rfl, rfl, rfl⟩
theorem Gq.small {s : St} (h : Gq c n r s) (hr : r ≤ 1000000) : s.small := h.gd.small hr (Nat.zero_le _)
theorem Gq.bump {s : St} (h : Gq c n r s) (hn : n ≤ 1000000) : Gq c (n + 1) r s.bump := ⟨h.gd.bump hn, h.rings, h.works, h.serial⟩
theorem Gq.add {s : St} (h : Gq c n r s) (z : Int) {x : Rec} (hx : x.block < c.blocks) : Gq c n r (s.add z x) := by
 have hv := h.gd.add z (x := x) hx
 obtain ⟨d, l, m, q⟩ := Qhm s z x
 rw [q] at hv ⊢
 exact ⟨hv, h.rings, h.works, h.serial⟩
theorem Gq.addF {p : DS} (h : Gq c n r p.2) (hn : n ≤ 1000000) (z : Int) : Gq c (n + 1) r (addF z p).2 := by
 have hb := QeJ h.gd.conf
 exact (h.bump hn).add z (by rw [h.gd.cfg]; exact (QgM _ hb.1 hb.2).2)
theorem Gq.addTo {p : DS} (h : Gq c n r p.2) (z : Int) : ∀ k : Nat, n + k ≤ 1000000 → Gq c (n + k) r (addTo z p k).2
 | 0, _ => h.weak om (Nat.le_refl _)
 | k + 1, hk => ((Gq.addTo h z k om).addF om z).weak om (Nat.le_refl _)
theorem Gq.put {s : St} (h : Gq c n r s) (z : Int) (x : Rec) : Gq c n r (s.put z x) := ⟨h.gd.put z x, h.rings, h.works, h.serial⟩
theorem Gq.pool {s : St} (h : Gq c n r s) {f : List Int} {a b : Int} (h1 : PoolOk c f a b) : Gq c n r { s with free := f, host := a, lane := b } := ⟨h.gd.pool h1, h.rings, h.works, h.serial⟩
theorem Gq.unfree {s : St} (h : Gq c n r s) (z : Int) : Gq c n r (s.unfree z) := h.pool (h.gd.poolOk.without z)
theorem Gq.fullF {p : DS} (h : Gq c n r p.2) (z : Int) (hn : n + c.size ≤ 1000000) : Gq c (n + c.size) r (fullF z p).2 := by
 have hr := confR_iff.1 (Qv h.gd.conf).1
 have h1 := h.addTo z (p.2.cfg.size - 1).toNat (by rw [h.gd.cfg]; omega)
 exact (h1.put z _).weak (by rw [h.gd.cfg]; omega) (Nat.le_refl _)
theorem Gq.setHost {s : St} (h : Gq c n r s) (hf : 0 < s.free.length) : Gq c n r { (s.unfree (s.free.getD 0 default)) with host := s.free.getD 0 default } := h.pool (h.gd.poolOk.setHost (Qmq hf))
theorem Gq.setLane {s : St} (h : Gq c n r s) (hf : 0 < s.free.length) : Gq c n r { (s.unfree (s.free.getD 0 default)) with lane := s.free.getD 0 default } := h.pool (h.gd.poolOk.setLane (Qmq hf))
theorem Gq.copied {s : St} (h : Gq c n r s) (x : Ent) (z : Int) : Gq c n r (s.copied x z) := by
 have hv := h.gd.copied x z
 obtain ⟨d, l, m, q⟩ := QeU s x z
 rw [q] at hv ⊢
 exact ⟨hv, h.rings, h.works, h.serial⟩
theorem Gq.retire {s : St} (h : Gq c n r s) (i : Int) : Gq c n (r + 1) { s with rets := (Qau s.glob s.pins s.rets i).1 } := by
 refine ⟨⟨h.gd.val.withEpochs (QhZ h.gd.val.parts.epochs i) rfl, h.gd.cfg, h.gd.next, ?_, h.gd.evs, h.gd.sav⟩, h.rings, h.works, h.serial⟩
 show (Qau s.glob s.pins s.rets i).1.length ≤ _
 have := h.gd.rets
 unfold Qau
 split
 ·simp; omega
 ·show s.rets.length ≤ _
  omega
theorem Gq.adv {s : St} (h : Gq c n r s) : Gq c n r { s with glob := (advM s.glob s.pins s.rets).1 } :=
 ⟨⟨h.gd.val.withEpochs (Qk0 h.gd.val.parts.epochs) rfl, h.gd.cfg, h.gd.next, h.gd.rets, h.gd.evs, h.gd.sav⟩, h.rings, h.works, h.serial⟩
theorem Gq.flags {s : St} (h : Gq c n r s) (a b : Bool) : Gq c n r { s with want := a, closed := b } :=
 ⟨⟨⟨{ h.gd.val.parts with }, h.gd.val.queues, h.gd.val.evs⟩, h.gd.cfg, h.gd.next, h.gd.rets, h.gd.evs, h.gd.sav⟩, h.rings, h.works, h.serial⟩
theorem Gq.sync {s : St} (h : Gq c n r s) : Gq c n r { s with dev := Qbn s.dev } := ⟨⟨h.gd.val.sync, h.gd.cfg, h.gd.next, h.gd.rets, h.gd.evs, h.gd.sav⟩, h.rings, h.works, h.serial⟩
def Und (s : St) : Prop := ∀ i, i < s.works.length → Qk (s.works.getD i default) = true → (s.works.getD i default).ent.version ≤ s.next
def Inc (l : List Evt) : Prop := ∀ i j, i < j → j < l.length → (l.getD i default).ret = false → (l.getD j default).ret = false → (l.getD i default).serial < (l.getD j default).serial
theorem Inc.snoc {l : List Evt} {e : Evt} (h : Inc l) (he : e.ret = false → ∀ i, i < l.length → (l.getD i default).serial < e.serial) : Inc (l ++ [e]) := fun i j hij hj => by
 simp only [List.length_append, List.length_cons, List.length_nil] at hj
 rw [Qaq om, Qaq om, if_neg om]
 by_cases c : j = l.length
 ·rw [if_pos c]
  exact fun _ h2 => he h2 i om
 ·rw [if_neg c]
  exact h i j hij om
structure Gs (c : Conf) (n : Int) (e : Nat) (s : St) : Prop where
 gd : Gd c n 32 e s
 hist : Hist s
 und : Und s
 serial : s.serial ≤ e
 inc : Inc s.evs
theorem Gs.weak {n' : Int} {e' : Nat} {s : St} (h : Gs c n e s) (h1 : n ≤ n') (h2 : e ≤ e') : Gs c n' e' s := ⟨h.gd.weak h1 (Nat.le_refl _) h2, h.hist, h.und, by have := h.serial; omega, h.inc⟩
theorem Gs.small {s : St} (h : Gs c n e s) (he : e ≤ 1000000) : s.small := h.gd.small (by decide) he
theorem Gq.gs {s : St} (h : Gq c n r s) (hr : r ≤ 32) : Gs c n 0 s := by
 have he : s.evs = [] := List.length_eq_zero_iff.1 (Nat.le_zero.1 h.gd.evs)
 refine ⟨h.gd.weak (Int.le_refl _) hr (Nat.le_refl _), ?_, fun i hi hu => ?_, by rw [h.serial]; exact Int.le_refl _, by rw [he]; exact fun i j _ hj => absurd hj (Nat.not_lt_zero _)⟩
 ·have := Qqy (c := c)
  refine ⟨?_, ?_, ?_, ?_⟩
  ·rw [he]; exact this.right
  ·rw [he, h.rings]; exact this.rings
  ·rw [he, h.rings, h.works]; exact this.works
  ·rw [h.rings, h.works]; exact this.apart
 ·rw [h.works] at hi hu
  simp only [QE, List.length_replicate] at hi hu
  rw [Qa9 hi] at hu
  cases hu
theorem Gs.len {s : St} (h : Gs c n e s) : s.rings.length = s.works.length ∧ s.rings.length ≤ 4 ∧ (s.works.length : Int) = c.queues := by
 have h1 := h.gd.val.parts.rings
 have h2 := h.gd.val.parts.works
 have h3 := confR_iff.1 (Qv h.gd.conf).1
 rw [h.gd.cfg] at h1 h2
 omega
theorem Qmc (s : St) (q : Int) (x : Req) : (QI s q x).1.serial ≤ s.serial + 1 := by
 unfold QI
 dsimp only
 split
 ·split
  ·split
   ·show s.serial ≤ _; omega
   ·split
    ·exact Int.le_refl _
    ·split
     ·show s.serial ≤ _; omega
     ·exact Int.le_refl _
  ·show s.serial ≤ _; omega
 ·show s.serial ≤ _; omega
theorem Qhd (s : St) (q : Int) (x : Req) : (QI s q x).1.works = s.works := by
 unfold QI
 dsimp only
 repeat' split
 all_goals rfl
theorem Up.keep {s t : St} {k : Nat} (h : Up s t k) : t.next = s.next ∧ t.rets = s.rets ∧ t.sav = s.sav ∧ t.cfg = s.cfg := by
 obtain ⟨_, _, _, _, _, q⟩ := h.eq
 rw [q]
 exact ⟨rfl, rfl, rfl, rfl⟩
theorem Qw4 {s : St} (hv : Val s) (h : Inc s.evs) (q : Int) (x : Req) : Inc (QI s q x).1.evs := by
 have h1 : ∀ r, Inc (s.evs ++ [QN false r { x with serial := s.serial } 0 ByteArray.empty]) := fun r => h.snoc fun _ i hi => hv.evs i hi
 unfold QI
 dsimp only
 split
 ·split
  ·split
   ·exact h
   ·split
    ·exact (h1 q).snoc fun z => by cases z
    ·split
     ·exact h
     ·exact h1 q
  ·exact h
 ·exact h
theorem Qw8 {s : St} (h : Inc s.evs) (o : Bool) (q : Int) : Inc (Qn o s q).1.evs := by
 unfold Qn
 dsimp only
 split
 ·split
  ·split
   ·exact h
   ·cases o with
    | true => exact h.snoc fun z => by cases z
    | false => exact h.snoc fun z => by cases z
  ·exact h
 ·exact h
theorem Gs.submit {s : St} (h : Gs c n e s) (q : Int) (x : Req) : Gs c n (e + 2) (QI s q x).1 := by
 obtain ⟨h1, h2, h3⟩ := QnB h.gd.val h.hist h.len.2.1 q x
 obtain ⟨k1, k2, k3, k4⟩ := h3.keep
 have k5 := h3.evs
 have k6 := h.gd.evs
 refine ⟨⟨h1, k4.trans h.gd.cfg, by rw [k1]; exact h.gd.next, by rw [k2]; exact h.gd.rets, om, k3.trans h.gd.sav⟩, h2, fun i hi hu => ?_, ?_, Qw4 h.gd.val h.inc q x⟩
 ·rw [Qhd] at hi hu ⊢
  rw [k1]
  exact h.und i hi hu
 ·have := Qmc s q x
  have := h.serial
  omega
end Go.Proofs
end

section
open Go Go.Am
namespace Go.Proofs
set_option maxRecDepth 20000
variable {c : Conf} {n : Int} {r e : Nat}
theorem Qnq {l : List Wrk} {q : Nat} (hq : q < l.length) : l.set q (l.getD q default) = l := by
 rw [Qp _ _ hq]; exact List.set_getElem_self hq
theorem Qn2 (s : St) (q : Int) : (Qn false s q).1 = (Qn true s q).1 ∨ (0 ≤ q ∧ q < s.works.length ∧ (s.works.getD q.toNat default).state = 0 ∧ (Qn false s q).1 = (Qn true s q).1.setWork q.toNat (s.works.getD q.toNat default)) := by
 unfold Qn
 dsimp only
 split
 ·rename_i h
  split
  ·split
   ·exact Or.inl rfl
   ·refine Or.inr ⟨h.2.1, h.2.2.1, h.2.2.2, ?_⟩
    rw [if_neg (by decide), if_pos rfl]
    have hq : q.toNat < s.works.length := by omega
    simp only [St.setWork, St.addEv, St.setRing, List.set_set, Qnq hq]
  ·exact Or.inl rfl
 ·exact Or.inl rfl
theorem QoW (s : St) (q : Int) : (Qn false s q).1.works = s.works ∨ ∃ w : Wrk, (w.state = 1 ∨ w.state = 10 ∨ w.state = 5) ∧ (Qn false s q).1.works = s.works.set q.toNat w := by
 unfold Qn
 dsimp only
 split
 ·split
  ·split
   ·refine Or.inr ⟨_, ?_, rfl⟩
    show QaZ _ = 1 ∨ QaZ _ = 10 ∨ QaZ _ = 5
    unfold QaZ
    split
    ·exact Or.inl rfl
    ·split
     ·exact Or.inr (Or.inl rfl)
     ·exact Or.inr (Or.inr rfl)
   ·exact Or.inl rfl
  ·exact Or.inl rfl
 ·exact Or.inl rfl
theorem Qnh (o : Bool) (s : St) (q : Int) : (Qn o s q).1.serial = s.serial := by
 unfold Qn
 dsimp only
 repeat' split
 all_goals rfl
theorem Qqh {w : Wrk} (h : w.state = 0) : Qas c w = true := by
 unfold Qas
 rw [decide_eq_true_eq]
 exact Or.inl h
theorem Hist.idle {s : St} (h : Hist s) {q : Nat} {w : Wrk} (hq : q < s.works.length) (hw : w.state = 0) : Hist (s.setWork q w) := by
 refine ⟨h.right, h.rings, fun i hi hs => ?_, fun i hi hs => ?_⟩
 ·simp only [St.setWork] at hi hs ⊢
  rw [Q1 hq] at hs ⊢
  split
  ·rename_i z; rw [if_pos z] at hs; exact absurd hw hs
  ·rename_i z; rw [if_neg z] at hs; exact h.works i hi hs
 ·simp only [St.setWork] at hi hs ⊢
  rw [Q1 hq] at hs ⊢
  split
  ·rename_i z; rw [if_pos z] at hs; exact absurd hw hs
  ·rename_i z; rw [if_neg z] at hs; exact h.apart i hi hs
theorem Hist.req {s : St} (h : Hist s) {q : Nat} {w : Wrk} (hq : q < s.works.length) (hw : w.req = (s.works.getD q default).req) (h0 : (s.works.getD q default).state ≠ 0) : Hist (s.setWork q w) := by
 refine ⟨h.right, h.rings, fun i hi hs => ?_, fun i hi hs => ?_⟩
 ·simp only [St.setWork] at hi hs ⊢
  rw [Q1 hq] at hs ⊢
  split
  ·rename_i z; subst z; rw [hw]; exact h.works i hi h0
  ·rename_i z; rw [if_neg z] at hs; exact h.works i hi hs
 ·simp only [St.setWork] at hi hs ⊢
  rw [Q1 hq] at hs ⊢
  split
  ·rename_i z; subst z; rw [hw]; exact h.apart i hi h0
  ·rename_i z; rw [if_neg z] at hs; exact h.apart i hi hs
theorem Und.set {s : St} (h : Und s) {q : Nat} {w : Wrk} (hw : Qk w = true → w.ent.version ≤ s.next) {t : St} (h1 : t.works = s.works.set q w) (h2 : t.next = s.next) : Und t := fun i hi hu => by
 rw [h1] at hi hu ⊢
 rw [List.length_set] at hi
 rw [h2]
 by_cases z : q < s.works.length
 ·rw [Q1 z] at hu ⊢
  split
  ·rename_i y; rw [if_pos y] at hu; exact hw hu
  ·rename_i y; rw [if_neg y] at hu; exact h i hi hu
 ·rw [List.set_eq_of_length_le om] at hu ⊢
  exact h i hi hu
theorem Gs.begin {s : St} (h : Gs c n e s) (q : Int) : Gs c n (e + 1) (Qn false s q).1 := by
 obtain ⟨h1, h2, h3⟩ := QoC h.gd.val h.hist h.len.2.1 q
 obtain ⟨k1, k2, k3, k4⟩ := h3.keep
 have k5 := h3.evs
 have k6 := h.gd.evs
 have k7 := h3.works
 have key : Val (Qn false s q).1 ∧ Hist (Qn false s q).1 ∧ (Qn false s q).1.next = s.next ∧ (Qn false s q).1.rets = s.rets ∧ (Qn false s q).1.sav = s.sav ∧ (Qn false s q).1.cfg = s.cfg ∧ (Qn false s q).1.evs.length ≤ e + 1 := by
  rcases Qn2 s q with z | ⟨z1, z2, z3, z⟩
  ·rw [z]; exact ⟨h1, h2, k1, k2, k3, k4, om⟩
  ·rw [z]
   exact ⟨h1.setWork om (Qqh z3) (Or.inl z3), h2.idle om z3, k1, k2, k3, k4, by show (Qn true s q).1.evs.length ≤ _; omega⟩
 obtain ⟨l1, l2, l3, l4, l5, l6, l7⟩ := key
 refine ⟨⟨l1, l6.trans h.gd.cfg, by rw [l3]; exact h.gd.next, by rw [l4]; exact h.gd.rets, l7, l5.trans h.gd.sav⟩, l2, ?_, ?_, Qw8 h.inc false q⟩
 ·rcases QoW s q with z | ⟨w, hw, z⟩
  ·intro i hi hu
   rw [z] at hi hu ⊢
   rw [l3]
   exact h.und i hi hu
  ·refine h.und.set (fun hu => ?_) z l3
   unfold Qk at hu
   rw [decide_eq_true_eq] at hu
   omega
 ·rw [Qnh]
  have := h.serial
  omega
theorem QiS {w w' : Wrk} (h : Qas c w = true) (hr : w'.req = w.req) (hs : (w.state = 1 ∧ 1 ≤ w'.state ∧ w'.state ≤ 4) ∨ (w.state = 10 ∧ w'.state = 11) ∨ (w.state = 5 ∧ 5 ≤ w'.state ∧ w'.state ≤ 9)) : Qas c w' = true := by
 unfold Qas at h ⊢
 rw [decide_eq_true_eq] at h ⊢
 rw [hr]
 rcases h with h | ⟨h1, h2, h3, h4⟩
 ·omega
 ·exact Or.inr ⟨h1, om, om, om⟩
theorem Gs.setWork {s : St} (h : Gs c n e s) {q : Nat} {w : Wrk} (hq : q < s.works.length) (hr : w.req = (s.works.getD q default).req) (h0 : (s.works.getD q default).state ≠ 0) (hw : Qas s.cfg w = true) (hu : Qk w = true → w.ent.version ≤ s.next) : Gs c n e (s.setWork q w) := by
 have hl := h.len
 have hQ := h.gd.val.queues q om
 refine ⟨⟨h.gd.val.setWork hq hw (Or.inr ?_), h.gd.cfg, h.gd.next, h.gd.rets, h.gd.evs, h.gd.sav⟩, h.hist.req hq hr h0, h.und.set hu rfl rfl, h.serial, h.inc⟩
 rw [hr]
 exact hQ.req.resolve_left h0
theorem Gs.other {s t : St} (h : Gs c n e s) {n' : Int} (hv : Val t) (h1 : t.cfg = s.cfg) (h2 : t.rings = s.rings) (h3 : t.works = s.works) (h4 : t.evs = s.evs) (h5 : t.serial = s.serial) (h6 : s.next ≤ t.next) (h7 : t.next ≤ n') (h8 : t.rets = s.rets) (h9 : t.sav = s.sav) : Gs c n' e t := by
 refine ⟨⟨hv, h1.trans h.gd.cfg, h7, by rw [h8]; exact h.gd.rets, by rw [h4]; exact h.gd.evs, h9.trans h.gd.sav⟩, ⟨?_, ?_, ?_, ?_⟩, fun i hi hu => ?_, by rw [h5]; exact h.serial, by rw [h4]; exact h.inc⟩
 ·rw [h4]; exact h.hist.right
 ·rw [h4, h2]; exact h.hist.rings
 ·rw [h4, h2, h3]; exact h.hist.works
 ·rw [h2, h3]; exact h.hist.apart
 ·rw [h3] at hi hu ⊢
  have := h.und i hi hu
  omega
theorem Gs.pin {s : St} (h : Gs c n e s) (q : Int) : Gs c n e { s with pins := (pinM s.glob s.pins s.rets q).1 } := by
 have := Qtn h.gd.val.parts.epochs q
 exact h.other (h.gd.val.withEpochs this.1 this.2) rfl rfl rfl rfl rfl (Int.le_refl _) h.gd.next rfl rfl
theorem Gs.put {s : St} (h : Gs c n e s) (z : Int) (x : Rec) : Gs c n e (s.put z x) := h.other (h.gd.val.put z x) rfl rfl rfl rfl rfl (Int.le_refl _) h.gd.next rfl rfl
theorem Gs.bump {s : St} (h : Gs c n e s) (hn : n ≤ 1000000) : Gs c (n + 1) e s.bump := h.other (h.gd.val.bump (by have := h.gd.next; omega)) rfl rfl rfl rfl rfl (by show s.next ≤ s.next + 1; omega) (by show s.next + 1 ≤ _; have := h.gd.next; omega) rfl rfl
theorem Gs.take {s : St} (h : Gs c n e s) (i t : Int) : Gs c n e { s with owner := (Qbm s.owner i t).1 } := by
 have := QqE h.gd.val.parts.locks i t
 exact h.other (h.gd.val.withLocks this.1 this.2) rfl rfl rfl rfl rfl (Int.le_refl _) h.gd.next rfl rfl
theorem Gs.install {s : St} (h : Gs c n e s) {x : Ent} (hx : x.block < c.blocks) : Gs c n e (s.install x) := by
 have hv := h.gd.val.install (e := x) (by rw [h.gd.cfg]; exact hx)
 obtain ⟨l, m, q⟩ := Qbf s x
 rw [q] at hv ⊢
 exact h.other hv rfl rfl rfl rfl rfl (Int.le_refl _) h.gd.next rfl rfl
theorem Gs.pend {s : St} (h : Gs c n e s) (z : Int) : Gs c n e { s with pend := (Qa1 s.live s.pend z).1 } :=
 h.other (h.gd.val.withPend (QoN h.gd.val.parts.counts z)) rfl rfl rfl rfl rfl (Int.le_refl _) h.gd.next rfl rfl
theorem Qrm {r : Req} (h : cmdE c r = 0) : 0 ≤ r.block ∧ r.block < c.blocks ∨ r.kind = 4 := by
 unfold cmdE at h
 split at h
 ·cases h
 ·split at h
  ·cases h
  ·omega
theorem Gs.block {s : St} (h : Gs c n e s) {q : Nat} (hq : q < s.works.length) (h5 : (s.works.getD q default).state = 5) : (s.works.getD q default).req.block < c.blocks := by
 have hl := h.len
 have hw := (h.gd.val.queues q om).work
 unfold Qas at hw
 rw [decide_eq_true_eq, h.gd.cfg] at hw
 rcases hw with z | ⟨z1, z2, z3, z4⟩
 ·omega
 ·rcases Qrm z1 with y | y
  ·exact y.2
  ·have := z3 y; omega
end Go.Proofs
end

section
open Go Go.Am
namespace Go.Proofs
set_option maxRecDepth 20000
variable {c : Conf} {n : Int} {r e : Nat}
theorem Gs.cln {s : St} (h : Gs c n e s) (x : Cln) : Gs c n e { s with cln := x } :=
 h.other ⟨{ h.gd.val.parts with }, h.gd.val.queues, h.gd.val.evs⟩ rfl rfl rfl rfl rfl (Int.le_refl _) h.gd.next rfl rfl
theorem Gs.rel {s : St} (h : Gs c n e s) (b v fz fo tz to mv oz nz : Int) : Gs c n e { s with map := (relM s.map b v fz fo tz to mv).1, live := (Qat s.live s.pend oz nz true true).1 } := by
 have h1 := Qe1 h.gd.val.parts.counts oz nz true true
 exact h.other ((h.gd.val.withLive h1.1 h1.2).withMap (Qk3 h.gd.val.parts.map h.gd.val.parts.blocks _ _ _ _ _ _ _)) rfl rfl rfl rfl rfl (Int.le_refl _) h.gd.next rfl rfl
theorem Gs.sync {s : St} (h : Gs c n e s) : Gs c n e { s with dev := Qbn s.dev } :=
 h.other h.gd.val.sync rfl rfl rfl rfl rfl (Int.le_refl _) h.gd.next rfl rfl
theorem Gs.owner {s : St} (h : Gs c n e s) {o : List Int} (h1 : Qaj o = true) (h2 : o.length = s.owner.length) : Gs c n e { s with owner := o } :=
 h.other (h.gd.val.withLocks h1 h2) rfl rfl rfl rfl rfl (Int.le_refl _) h.gd.next rfl rfl
structure Gz (s : St) : Prop where
 val : Val s
 hist : Hist s
 und : Und s
 next : s.next ≤ 100000
 serial : s.serial ≤ 100
 evs : s.evs.length ≤ 100
 rets : s.rets.length ≤ 100
 ents : s.sav.ents.length ≤ 100000
 recs : s.sav.recs.length ≤ 100000
 conf : s.cfg.queues ≤ 4
 inc : Inc s.evs
theorem Gz.small {s : St} (h : Gz s) : s.small := h.val.small (by have := h.rets; omega) (by have := h.evs; omega) (by have := h.ents; omega) (by have := h.recs; omega)
theorem Gs.sav {s : St} (h : Gs c n e s) (hn : n ≤ 100000) (he : e ≤ 100) (v : Sav) (h1 : v.ents.length ≤ 100000) (h2 : v.recs.length ≤ 100000) : Gz { s with sav := v } := by
 have h3 := confR_iff.1 (Qv h.gd.conf).1
 refine ⟨⟨{ h.gd.val.parts with }, h.gd.val.queues, h.gd.val.evs⟩, ⟨h.hist.right, h.hist.rings, h.hist.works, h.hist.apart⟩, h.und, ?_, ?_, ?_, ?_, h1, h2, ?_, h.inc⟩
 ·have := h.gd.next; show s.next ≤ _; omega
 ·have := h.serial; show s.serial ≤ _; omega
 ·have := h.gd.evs; show s.evs.length ≤ _; omega
 ·have := h.gd.rets; show s.rets.length ≤ _; omega
 ·show s.cfg.queues ≤ 4; rw [h.gd.cfg]; omega
theorem Gz.withDev {s : St} (h : Gz s) {d : Dev} (h1 : check d = 0) (h2 : d.zones.length = s.dev.zones.length) (h3 : d.size = s.dev.size) : Gz { s with dev := d } :=
 ⟨h.val.withDev h1 h2 h3, ⟨h.hist.right, h.hist.rings, h.hist.works, h.hist.apart⟩, h.und, h.next, h.serial, h.evs, h.rets, h.ents, h.recs, h.conf, h.inc⟩
theorem Gz.put {s : St} (h : Gz s) (zone : Int) (r : Rec) : Gz (s.put zone r) :=
 h.withDev (check_ok.2 (QhY (check_ok.1 h.val.parts.dev) zone _)) (Qgm _ _ _) (Qiv _ _ _)
theorem Gs.gz {s : St} (h : Gs c n e s) (hn : n ≤ 100000) (he : e ≤ 100) : Gz s := by
 have := h.sav hn he s.sav (by rw [h.gd.sav]; exact Nat.zero_le _) (by rw [h.gd.sav]; exact Nat.zero_le _)
 exact this
theorem Qld {s : St} (h : Val s) : (allS s.map).length ≤ 100000 := by
 have hp := h.parts
 have hc := confR_iff.1 (Qv hp.cfg).1
 have hm := Qbp hp.map
 unfold allS
 rw [if_pos hp.map, (QbO hp.map).2.length_eq, List.length_flatten]
 have key : ∀ (l : List Nat) (b : Nat), (∀ x ∈ l, x ≤ b) → l.sum ≤ l.length * b := by
  intro l b hb
  induction l with
  | nil => simp
  | cons x l ih =>
   have h1 := hb x (List.mem_cons_self ..)
   have h2 := ih fun y hy => hb y (List.mem_cons_of_mem _ hy)
   simp only [List.sum_cons, List.length_cons, Nat.add_mul]
   omega
 have := key (s.map.map List.length) 128 (fun x hx => by
  obtain ⟨l, hl, rfl⟩ := List.mem_map.1 hx
  obtain ⟨i, hi, rfl⟩ := List.getElem_of_mem hl
  have := QhA hp.map hp.blocks om i
  rw [Qp _ _ hi] at this
  omega)
 rw [List.length_map] at this
 omega
end Go.Proofs
end

section
open Go Go.Am
namespace Go.Proofs
set_option maxRecDepth 20000
theorem QtV {l : List Wrk} {k : Nat} (hk : k < l.length) : (l.take (k + 1)).any Qk = ((l.take k).any Qk || Qk (l.getD k default)) := by
 rw [QaJ l hk, List.any_append]
 simp
theorem Qju (n : Int) (l : List Wrk) : ∀ k, k ≤ l.length → ((l.take k).any Qk = false → QbJ n l k = n) ∧ ((l.take k).any Qk = true → ∃ i, i < k ∧ Qk (l.getD i default) = true ∧ QbJ n l k = (l.getD i default).ent.version) ∧ ∀ i, i < k → Qk (l.getD i default) = true → QbJ n l k ≤ (l.getD i default).ent.version
 | 0, _ => ⟨fun _ => rfl, fun h => by simp at h, fun i hi => absurd hi (Nat.not_lt_zero _)⟩
 | k + 1, hk => by
  obtain ⟨h1, h2, h3⟩ := Qju n l k om
  rw [QtV om]
  simp only [QbJ]
  by_cases c : Qk (l.getD k default) = true
  ·rw [c, Bool.or_true]
   refine ⟨(fun h => by cases h), fun _ => ?_, fun i hi hu => ?_⟩
   ·split
    ·exact ⟨k, om, c, rfl⟩
    ·rename_i q
     have : (l.take k).any Qk = true := by
      cases e : (l.take k).any Qk with
      | true => rfl
      | false => exact absurd ⟨rfl, Or.inl e⟩ q
     obtain ⟨i, i1, i2, i3⟩ := h2 this
     exact ⟨i, om, i2, i3⟩
   ·split
    ·rename_i q
     by_cases e : i = k
     ·subst e; exact Int.le_refl _
     ·have := h3 i om hu
      rcases q.2 with q | q
      ·have : (l.take k).any Qk = true := List.any_eq_true.2 ⟨l.getD i default, by
        rw [Qp _ _ om]
        exact List.mem_take_iff_getElem.2 ⟨i, om, rfl⟩, hu⟩
       rw [this] at q; cases q
      ·omega
    ·rename_i q
     by_cases e : i = k
     ·subst e
      exact Int.not_lt.1 fun z => q ⟨rfl, Or.inr z⟩
     ·exact h3 i om hu
  ·rw [Qg c, Bool.or_false, if_neg (by simp)]
   refine ⟨h1, fun h => ?_, fun i hi hu => ?_⟩
   ·obtain ⟨i, i1, i2, i3⟩ := h2 h
    exact ⟨i, om, i2, i3⟩
   ·by_cases e : i = k
    ·subst e; exact absurd hu c
    ·exact h3 i om hu
def Qff (s : St) (n : Int) (k : Nat) : Bool := decide (n = s.next ∨ ∃ i, i < k ∧ Qk (s.works.getD i default) = true ∧ (s.works.getD i default).ent.version = n)
def Qf6 (s : St) (n : Int) (k : Nat) : Bool := (s.map.take k).any fun l => l.any (QcA n)
def Qeh (s : St) (n : Int) (k j : Nat) : Bool := Qf6 s n k || ((s.map.getD k default).take j).any (QcA n)
end Go.Proofs
end
