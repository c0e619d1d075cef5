/- Contracts, lemmas; no condition. -/
import Derived.Test.YtjjlblnbeggejaaGreatP25
import Derived.Test.YtjjlblnbeggejaaGreatP24
import Derived.Test.YtjjlblnbeggejaaGreatP23
import Derived.Test.YtjjlblnbeggejaaGreatP12
set_option linter.all false
section
open Go Go.Am
namespace Go.Proofs
set_option maxRecDepth 20000
variable {H : List O} {s : St} {e n : Nat} {g : Nat → Nat → C} {x : Bool}
def St.cellsK (s : St) (id : Nat) : List C := s.cellsW (rngC s.rings) (.sl id 12 s.works.length s.works.length false) (evC s.evs)
def St.wobj (s : St) : O := .arr 94 12 s.works.length (wrkG s.works)
theorem BwL.wk {a : Nat} (ha : getL H a = some (.arr e 12 n g)) (hn : n = s.works.length) (hg : ∀ i, i < n → ∀ j, j < 12 → g i j = wrkG s.works i j) :
  BwL H (s.cellsW (rngC s.rings) (.sl a 12 n n x) (evC s.evs)) s.cells := by
 subst hn
 have rb : Bw H (.sl a 12 s.works.length s.works.length x) (wrkC s.works) := Bw.sl ha rfl (fun i hi j hj => by rw [hg i hi j hj]; exact Bw.same (QaW _ _)) (fun e => by cases e)
 unfold St.cells St.cellsW St.cellsX St.cellsZ
 repeat' (first | exact BwL.nil | refine BwL.cons ?_ ?_ | exact rb | exact Bw.same rfl)
theorem FwL.evs {fr mp rg wk fr' mp' rg' wk' : C} {id : Nat} {l : List Evt} (hid : getL H id = some (.arr e 8 n g)) (hn : n = l.length) (hg : ∀ i, i < n → ∀ j, j < 8 → g i j = evG l i j) (h1 : Fw H fr fr') (h2 : Fw H mp mp') (h3 : Fw H rg rg') (h4 : Fw H wk wk') :
  FwL H (s.cellsZ fr mp rg wk (.sl id 8 n n x)) ({ s with evs := l }.cellsZ fr' mp' rg' wk' (evC l)) := by
 have h5 : Fw H (.sl id 8 n n x) (evC l) := QvI hid rfl hn hg (fun i j => Qd5 _ _)
 unfold St.cellsZ
 repeat' (first | exact FwL.nil | refine FwL.cons ?_ ?_ | exact h1 | exact h2 | exact h3 | exact h4 | exact h5 | exact Fw.same rfl)
theorem Qcp (s : St) (x : Evt) (he : s.evs.length ≤ 1000000) : PS 93 [.a s.cells, .a x.cells] (.a (s.addEv x).cells) := by
 refine PSpec.rm ?_
 refine ov0 hΓ Tryz.func93 14 0 [.cell 4 58] Tryz.ntmps93 Tryz.results93 ?_
 refine Qvd hΓ hMix [4294967296] [(4, 3), (5, 3)] (by kernel_rfl) (Go0 ?_)
 exact Qwz (FwL.evs (s := s) (l := s.evs ++ [x]) rfl (by simp) (fun i hi j hj => Qvv (x := x) (by simp) om hj) (Fw.same rfl) (Fw.same rfl) (Fw.same rfl) (Fw.same rfl))
theorem Qb5 : HB 93 := hB Tryz.func93
theorem QuR (s : St) (hs : s.small) : PS 91 [.a s.cells] (.c (Qh (if QaI s = true then QtE s.evs else []))) := by
 refine PSpec.rm ?_
 refine ov0 hΓ Tryz.func91 9 0 [.tmp 2] Tryz.ntmps91 Tryz.results91 ?_
 refine QuU Qfc (Qey s hs ) (Go0 ?_)
 by_cases h : QaI s = true
 ·refine Br.no (by rw [h]; rfl) (Go0 ?_)
  refine QuU QnJ (QnN s.evs hs.evs ) (Go0 ?_)
  rw [Qxt h]
  exact QuV
 ·refine Br.yes (by rw [Qq h]; rfl) (Go0 ?_)
  rw [Qxu h]
  exact QuV
theorem QrC : HB 91 := hB Tryz.func91
theorem Qxh {fr mp rg ev fr' mp' rg' ev' : C} {id : Nat} {l : List Wrk} (hid : getL H id = some (.arr e 12 n g)) (hn : n = l.length) (hg : ∀ i, i < n → ∀ j, j < 12 → g i j = wrkG l i j) (h1 : Fw H fr fr') (h2 : Fw H mp mp') (h3 : Fw H rg rg') (h4 : Fw H ev ev') :
  FwL H (s.cellsZ fr mp rg (.sl id 12 n n x) ev) ({ s with works := l }.cellsZ fr' mp' rg' (wrkC l) ev') := by
 have h5 : Fw H (.sl id 12 n n x) (wrkC l) := QvI hid rfl hn hg (fun i j => QaW _ _)
 unfold St.cellsZ
 repeat' (first | exact FwL.nil | refine FwL.cons ?_ ?_ | exact h1 | exact h2 | exact h3 | exact h4 | exact h5 | exact Fw.same rfl)
theorem Qg2 (s : St) (q : Int) (w : Wrk) (hs : s.works.length ≤ 1000000) (h0 : 0 ≤ q) (h1 : q < s.works.length) : PS 81 [.a s.cells, .c (.int .i64 q), .a w.cells] (.a (s.setWork q.toNat w).cells) := by
 have hi : q.toNat < s.works.length := by omega
 refine PSpec.rm ?_
 refine ov0 hΓ Tryz.func81 18 0 [.cell 6 58] Tryz.ntmps81 Tryz.results81 ?_
 exact Qwz (Qxh (s := s) (l := s.works.set q.toNat w) rfl (by simp) (fun i _ j hj => Qu8 (w := w) hi rfl i j hj) (Fw.same rfl) (Fw.same rfl) (Fw.same rfl) (Fw.same rfl))
theorem QfL : HB 81 := hB Tryz.func81
end Go.Proofs
end

section
open Go Go.Am
namespace Go.Proofs
set_option maxRecDepth 20000
variable {l free f : List Int} {z b : Int} {s : St}
theorem QnD (h : ∀ i, i < l.length → 0 < i → l.getD (i - 1) default < l.getD i default) : l.Pairwise (· < ·) := by
 have key : ∀ d i, i + d + 1 < l.length → l.getD i default < l.getD (i + d + 1) default := by
  intro d
  induction d with
  | zero => intro i hi; exact h (i + 1) hi om
  | succ d ih =>
   intro i hi
   have h1 := ih i om
   have h2 := h (i + (d + 1) + 1) hi om
   rw [show i + (d + 1) + 1 - 1 = i + d + 1 by omega] at h2
   omega
 refine Qyk.2 fun i j hi hj hij => ?_
 have := key (j - i - 1) i om
 rw [show i + (j - i - 1) + 1 = j by omega, Qu _ _ hi, Qu _ _ hj] at this
 exact this
theorem QpH {c : Conf} : Qg4 c l = true ↔ (∀ z ∈ l, Qam c z = true) ∧ l.Pairwise (· < ·) := by
 unfold Qg4
 rw [Qxw]
 constructor
 ·intro h
  refine ⟨fun z hz => ?_, QnD fun i hi h0 => (h i hi).2 h0⟩
  obtain ⟨i, hi, rfl⟩ := QxP hz
  have := (h i hi).1
  rwa [Qu _ _ hi] at this
 ·rintro ⟨h1, h2⟩ i hi
  refine ⟨by rw [Qu _ _ hi]; exact h1 _ (Qx0 hi), fun h0 => ?_⟩
  rw [Qu _ _ hi, Qu _ _ (show i - 1 < l.length by omega)]
  exact Qyk.1 h2 (i - 1) i om hi om
structure PoolOk (c : Conf) (free : List Int) (a b : Int) : Prop where
 cfg : QB c = 0
 data : ∀ z ∈ free, Qam c z = true
 asc : free.Pairwise (· < ·)
 host : a = -1 ∨ Qam c a = true ∧ a ∉ free
 lane : b = -1 ∨ Qam c b = true ∧ b ∉ free
 ne : a = -1 ∨ a ≠ b
theorem poolOk_P {c : Conf} {host lane : Int} : poolOk c free host lane = true ↔ PoolOk c free host lane := by
 unfold poolOk Qex
 simp only [QxA, Qxw, QpH]
 exact ⟨fun ⟨a, ⟨b, b'⟩, c, d, e⟩ => ⟨a, b, b', c, d, e⟩, fun ⟨a, b, b', c, d, e⟩ => ⟨a, ⟨b, b'⟩, c, d, e⟩⟩
theorem without_mem {n : Int} : z ∈ Qah l n ↔ z ∈ l ∧ z ≠ n := by
 unfold Qah
 simp
theorem PoolOk.without {c : Conf} {host lane : Int} (h : PoolOk c free host lane) (z : Int) : PoolOk c (Qah free z) host lane :=
 ⟨h.cfg, fun y hy => h.data y (without_mem.1 hy).1, Qy6 List.filter_sublist h.asc, h.host.imp id fun k => ⟨k.1, fun q => k.2 (without_mem.1 q).1⟩, h.lane.imp id fun k => ⟨k.1, fun q => k.2 (without_mem.1 q).1⟩, h.ne⟩
theorem PoolOk.setHost {c : Conf} {host lane : Int} (h : PoolOk c free host lane) (hz : z ∈ free) : PoolOk c (Qah free z) z lane :=
 ⟨h.cfg, (h.without z).data, (h.without z).asc, Or.inr ⟨h.data z hz, fun q => (without_mem.1 q).2 rfl⟩, (h.without z).lane, Or.inr fun q => by
  rcases h.lane with k | k
  ·have := QaC (h.data z hz); omega
  ·exact k.2 (q ▸ hz)⟩
theorem PoolOk.setLane {c : Conf} {host lane : Int} (h : PoolOk c free host lane) (hz : z ∈ free) : PoolOk c (Qah free z) host z :=
 ⟨h.cfg, (h.without z).data, (h.without z).asc, (h.without z).host, Or.inr ⟨h.data z hz, fun q => (without_mem.1 q).2 rfl⟩, by
  rcases h.host with k | k
  ·exact Or.inl k
  ·exact Or.inr fun q => k.2 (q ▸ hz)⟩
theorem Val.withPool (h : Val s) {a : Int} (h1 : PoolOk s.cfg f a b) : Val { s with free := f, host := a, lane := b } :=
 ⟨{ h.parts with pool := poolOk_P.2 h1 }, h.queues, h.evs⟩
theorem Val.pool {s : St} (h : Val s) : PoolOk s.cfg s.free s.host s.lane := poolOk_P.1 h.parts.pool
structure Gd (c : Conf) (n : Int) (r e : Nat) (s : St) : Prop where
 val : Val s
 cfg : s.cfg = c
 next : s.next ≤ n
 rets : s.rets.length ≤ r
 evs : s.evs.length ≤ e
 sav : s.sav = default
theorem Gd.weak {c : Conf} {n n' : Int} {r r' e e' : Nat} (h : Gd c n r e s) (h1 : n ≤ n') (h2 : r ≤ r') (h3 : e ≤ e') : Gd c n' r' e' s :=
 ⟨h.val, h.cfg, by have := h.next; omega, by have := h.rets; omega, by have := h.evs; omega, h.sav⟩
theorem Qlx (s : St) (e : Ent) : ∃ l m, s.install e = { s with live := l, map := m } := by
 unfold St.install
 split
 ·exact ⟨_, _, rfl⟩
 ·exact ⟨s.live, s.map, rfl⟩
theorem Qk9 (s : St) (z : Int) (r : Rec) : ∃ d l m, s.add z r = { s with dev := d, live := l, map := m } := by
 unfold St.add
 split
 ·obtain ⟨l, m, e⟩ := Qlx (s.put z r) (recE r z (QA s.dev z (encR r)))
  exact ⟨_, l, m, e⟩
 ·exact ⟨s.dev, s.live, s.map, rfl⟩
theorem Qer (s : St) (e : Ent) (z : Int) : ∃ d l m, s.copied e z = { s with dev := d, live := l, map := m } := by
 unfold St.copied
 split
 ·exact ⟨_, _, _, rfl⟩
 ·exact ⟨s.dev, s.live, s.map, rfl⟩
variable {c : Conf} {n : Int} {r e : Nat}
theorem Gd.add {s : St} (h : Gd c n r e s) (z : Int) {x : Rec} (hx : x.block < c.blocks) : Gd c n r e (s.add z x) := by
 have hv := h.val.add z (r := x) (by rw [h.cfg]; exact hx)
 obtain ⟨d, l, m, q⟩ := Qk9 s z x
 rw [q] at hv ⊢
 exact ⟨hv, h.cfg, h.next, h.rets, h.evs, h.sav⟩
theorem Gd.bump {s : St} (h : Gd c n r e s) (hn : n ≤ 1000000) : Gd c (n + 1) r e s.bump :=
 ⟨h.val.bump (by have := h.next; omega), h.cfg, by show s.next + 1 ≤ _; have := h.next; omega, h.rets, h.evs, h.sav⟩
theorem Qf8 (d : DiceM) {v : Int} (h1 : 1 ≤ b) (h2 : b ≤ 1000) : 0 ≤ (recR d b v).block ∧ (recR d b v).block < b := by
 have := d.next_range h1 om
 unfold recR
 split <;> exact this
theorem Qcf {c : Conf} (h : QB c = 0) : 1 ≤ c.blocks ∧ c.blocks ≤ 1000 := by
 have := confR_iff.1 (QR h).1
 omega
theorem Gd.conf (h : Gd c n r e s) : QB c = 0 := by rw [← h.cfg]; exact h.val.parts.cfg
theorem Gd.addF {p : DS} (h : Gd c n r e p.2) (hn : n ≤ 1000000) (z : Int) : Gd c (n + 1) r e (addF z p).2 := by
 have hb := Qcf h.conf
 exact (h.bump hn).add z (by rw [h.cfg]; exact (Qf8 _ hb.1 hb.2).2)
theorem Gd.addTo {p : DS} (h : Gd c n r e p.2) (z : Int) : ∀ k : Nat, n + k ≤ 1000000 → Gd c (n + k) r e (addTo z p k).2
 | 0, _ => h.weak om (QxB _) (QxB _)
 | k + 1, hk => ((Gd.addTo h z k om).addF om z).weak om (QxB _) (QxB _)
theorem Gd.put {s : St} (h : Gd c n r e s) (z : Int) (x : Rec) : Gd c n r e (s.put z x) := ⟨h.val.put z x, h.cfg, h.next, h.rets, h.evs, h.sav⟩
theorem Gd.pool (h : Gd c n r e s) {a : Int} (h1 : PoolOk c f a b) : Gd c n r e { s with free := f, host := a, lane := b } := ⟨h.val.withPool (by rw [h.cfg]; exact h1), h.cfg, h.next, h.rets, h.evs, h.sav⟩
theorem Gd.poolOk (h : Gd c n r e s) : PoolOk c s.free s.host s.lane := by rw [← h.cfg]; exact h.val.pool
theorem Gd.copied {s : St} (h : Gd c n r e s) (x : Ent) (z : Int) : Gd c n r e (s.copied x z) := by
 have hv := h.val.copied x z
 obtain ⟨d, l, m, q⟩ := Qer s x z
 rw [q] at hv ⊢
 exact ⟨hv, h.cfg, h.next, h.rets, h.evs, h.sav⟩
theorem free0 (h : 0 < s.free.length) : s.free.getD 0 default ∈ s.free := by
 rw [Qu _ _ h]
 exact Qx0 h
theorem QsK {c : Conf} (h : QB c = 0) : Gd c 1 0 0 (Qs c) := ⟨Qr5 h, rfl, QyD _, QxB _, QxB _, rfl⟩
theorem Qno (d : DiceM) : (Q7 d).size ≤ 6 ∧ (Q7 d).queues ≤ 3 ∧ (Q7 d).blocks ≤ 6 ∧ (Q7 d).zones ≤ 32 := by
 have h := confR_iff.1 (QR (QfV d)).1
 have r1 := d.next_range (n := 4) om om
 have r2 := d.step.next_range (n := 6) om om
 have r3 := d.step.step.next_range (n := 3) om om
 refine ⟨?_, ?_, ?_, om⟩
 ·show 3 + d.next 4 ≤ 6; omega
 ·show 1 + d.step.step.next 3 ≤ 3; omega
 ·show 1 + d.step.next 6 ≤ 6; omega
theorem Qol {c : Conf} (h : QB c = 0) : 6 ≤ Qp c ∧ Qp c ≤ 32 := by
 have h1 := confR_iff.1 (QR h).1
 have h2 := (QR h).2.1
 have h3 := Qak (QR h).1
 unfold Qp at h2 ⊢
 omega
end Go.Proofs
end

section
open Go Go.Am
namespace Go.Proofs
set_option maxRecDepth 20000
theorem QoH {l : List Int} (h : l.Pairwise (· < ·)) (h0 : ∀ x ∈ l, 0 ≤ x) {n : Int} (hn : ∀ x ∈ l, x < n) : (l.length : Int) ≤ max n 0 := by
 have key : ∀ i (hi : i < l.length), (i : Int) ≤ l[i] := by
  intro i
  induction i with
  | zero => intro hi; exact h0 _ (Qx0 hi)
  | succ i ih =>
   intro hi
   have h1 := ih om
   have h2 := Qyk.1 h i (i + 1) om hi om
   omega
 by_cases c : l.length = 0
 ·rw [c]; simp; omega
 ·have h1 := key (l.length - 1) om
  have h2 := hn _ (Qx0 (l := l) (n := l.length - 1) om)
  omega
theorem QgT {m : List (List Ent)} (h : Qx m = true) {n : Int} (hb : QaJ m n = true) (h0 : 0 ≤ n) (i : Nat) : ((m.getD i default).length : Int) ≤ n := by
 by_cases c : i < m.length
 ·have hg := Qch h c
  have ha := QeS hg.1
  have := QoH (l := (m.getD i default).map Ent.block) (List.pairwise_map.2 ha) (fun x hx => by
   obtain ⟨e, he, rfl⟩ := Qyj.1 hx
   have := Qdw hg.1 he
   unfold QaQ at this
   rw [Qxw] at this
   exact this.2.2.2.2.2.1) (n := n) (fun x hx => by
   obtain ⟨e, he, rfl⟩ := Qyj.1 hx
   exact blocksIn_iff.1 hb i c e he)
  rw [Qy7] at this
  omega
 ·rw [show m.getD i default = [] by simp [List.getD, QyB c]; rfl]
  simpa using h0
theorem Qrg {d : Dev} (h : check d = 0) : d.small ∧ d.zones.length ≤ 32 ∧ d.size ≤ 64 ∧ ∀ i, (d.zones.getD i default).sectors.length ≤ 64 := by
 have ho := check_ok.1 h
 have hc := ho.conf
 unfold Qbg at hc
 rw [Qxw] at hc
 have hz : ∀ i, (d.zones.getD i default).sectors.length ≤ 64 := fun i => by
  by_cases c : i < d.zones.length
  ·have := QkH (ho.zones (d.zones.getD i default) (by rw [Qu _ _ c]; exact Qx0 c))
   rw [Qu _ _ c] at this ⊢
   omega
  ·rw [show d.zones.getD i default = default by simp [List.getD, QyB c]]
   exact Qxx _
 exact ⟨⟨om, fun i => by have := hz i; omega⟩, om, om, hz⟩
theorem Val.small {s : St} (h : Val s) (hr : s.rets.length ≤ 1000000) (he : s.evs.length ≤ 1000000) (h1 : s.sav.ents.length ≤ 1000000) (h2 : s.sav.recs.length ≤ 1000000) : s.small := by
 have hp := h.parts
 have hc := confR_iff.1 (QR hp.cfg).1
 have hm := Qbw hp.map
 have hd := Qrg hp.dev
 have hcn := countsOk_iff2.1 hp.counts
 have hl := locksOk_iff2.1 hp.locks
 have hep := epochs_iff.1 hp.epochs
 have hpo := poolOk_P.1 hp.pool
 have hf := QoH hpo.asc (fun x hx => (QaC (hpo.data x hx)).1) (n := 32) (fun x hx => by have := (QaC (hpo.data x hx)).2.1; omega)
 have r1 := hp.rings
 have r2 := hp.works
 refine ⟨hd.1, om, fun i => by have := QgT hp.map hp.blocks om i; omega, om, om, om, om, hr, om, om, fun i => ?_, om, h1, h2, he⟩
 by_cases c : i < s.rings.length
 ·have := (ringOk_R.1 (h.queues i c).ring).1
  omega
 ·rw [show s.rings.getD i default = default by simp [List.getD, QyB c]]
  exact Qxx _
variable {c : Conf} {n : Int} {r e : Nat}
theorem Gd.small {s : St} (h : Gd c n r e s) (hr : r ≤ 1000000) (he : e ≤ 1000000) : s.small :=
 h.val.small (by have := h.rets; omega) (by have := h.evs; omega) (by rw [h.sav]; exact Qxx _) (by rw [h.sav]; exact Qxx _)
theorem Qda (s : St) (x : Ent) (z : Int) : (s.copied x z).works = s.works := by obtain ⟨_, _, _, q⟩ := Qer s x z; rw [q]
end Go.Proofs
end

section
open Go Go.Am
namespace Go.Proofs
set_option maxRecDepth 20000
variable {p : DS} {s : St}
structure Gq (c : Conf) (n : Int) (r : Nat) (s : St) : Prop where
 gd : Gd c n r 0 s
 rings : s.rings = (Qs c).rings
 works : s.works = (Qs c).works
 serial : s.serial = 0
variable {c : Conf} {n : Int} {r e : Nat}
theorem Gq.weak {n' : Int} {r' : Nat} {s : St} (h : Gq c n r s) (h1 : n ≤ n') (h2 : r ≤ r') : Gq c n' r' s := ⟨h.gd.weak h1 h2 (QxB _), h.rings, h.works, h.serial⟩
theorem Qs8 {c : Conf} (h : QB c = 0) : Gq c 1 0 (Qs c) := ⟨QsK h, rfl, rfl, rfl⟩
theorem Gq.small {s : St} (h : Gq c n r s) (hr : r ≤ 1000000) : s.small := h.gd.small hr (Qxx _)
theorem Gq.bump {s : St} (h : Gq c n r s) (hn : n ≤ 1000000) : Gq c (n + 1) r s.bump := ⟨h.gd.bump hn, h.rings, h.works, h.serial⟩
theorem Gq.add {s : St} (h : Gq c n r s) (z : Int) {x : Rec} (hx : x.block < c.blocks) : Gq c n r (s.add z x) := by
 have hv := h.gd.add z (x := x) hx
 obtain ⟨d, l, m, q⟩ := Qk9 s z x
 rw [q] at hv ⊢
 exact ⟨hv, h.rings, h.works, h.serial⟩
theorem Gq.addF (h : Gq c n r p.2) (hn : n ≤ 1000000) (z : Int) : Gq c (n + 1) r (addF z p).2 := by
 have hb := Qcf h.gd.conf
 exact (h.bump hn).add z (by rw [h.gd.cfg]; exact (Qf8 _ hb.1 hb.2).2)
theorem Gq.addTo {p : DS} (h : Gq c n r p.2) (z : Int) : ∀ k : Nat, n + k ≤ 1000000 → Gq c (n + k) r (addTo z p k).2
 | 0, _ => h.weak om (QxB _)
 | k + 1, hk => ((Gq.addTo h z k om).addF om z).weak om (QxB _)
theorem Gq.put {s : St} (h : Gq c n r s) (z : Int) (x : Rec) : Gq c n r (s.put z x) := ⟨h.gd.put z x, h.rings, h.works, h.serial⟩
theorem Gq.pool {s : St} (h : Gq c n r s) {f : List Int} {a b : Int} (h1 : PoolOk c f a b) : Gq c n r { s with free := f, host := a, lane := b } := ⟨h.gd.pool h1, h.rings, h.works, h.serial⟩
theorem Gq.unfree {s : St} (h : Gq c n r s) (z : Int) : Gq c n r (s.unfree z) := h.pool (h.gd.poolOk.without z)
theorem Gq.fullF (h : Gq c n r p.2) (z : Int) (hn : n + c.size ≤ 1000000) : Gq c (n + c.size) r (fullF z p).2 := by
 have hr := confR_iff.1 (QR h.gd.conf).1
 have h1 := h.addTo z (p.2.cfg.size - 1).toNat (by rw [h.gd.cfg]; omega)
 exact (h1.put z _).weak (by rw [h.gd.cfg]; omega) (QxB _)
theorem Gq.setHost {s : St} (h : Gq c n r s) (hf : 0 < s.free.length) : Gq c n r { (s.unfree (s.free.getD 0 default)) with host := s.free.getD 0 default } := h.pool (h.gd.poolOk.setHost (free0 hf))
theorem Gq.setLane {s : St} (h : Gq c n r s) (hf : 0 < s.free.length) : Gq c n r { (s.unfree (s.free.getD 0 default)) with lane := s.free.getD 0 default } := h.pool (h.gd.poolOk.setLane (free0 hf))
theorem Gq.copied {s : St} (h : Gq c n r s) (x : Ent) (z : Int) : Gq c n r (s.copied x z) := by
 have hv := h.gd.copied x z
 obtain ⟨d, l, m, q⟩ := Qer s x z
 rw [q] at hv ⊢
 exact ⟨hv, h.rings, h.works, h.serial⟩
theorem Gq.retire (h : Gq c n r s) (i : Int) : Gq c n (r + 1) { s with rets := (Qas s.glob s.pins s.rets i).1 } := by
 refine ⟨⟨h.gd.val.withEpochs (Qnm h.gd.val.parts.epochs i) rfl, h.gd.cfg, h.gd.next, ?_, h.gd.evs, h.gd.sav⟩, h.rings, h.works, h.serial⟩
 show (Qas s.glob s.pins s.rets i).1.length ≤ _
 have := h.gd.rets
 unfold Qas
 split
 ·simp; omega
 ·show s.rets.length ≤ _
  omega
theorem Gq.adv (h : Gq c n r s) : Gq c n r { s with glob := (advM s.glob s.pins s.rets).1 } :=
 ⟨⟨h.gd.val.withEpochs (QqS h.gd.val.parts.epochs) rfl, h.gd.cfg, h.gd.next, h.gd.rets, h.gd.evs, h.gd.sav⟩, h.rings, h.works, h.serial⟩
theorem Gq.flags (h : Gq c n r s) (a b : Bool) : Gq c n r { s with want := a, closed := b } :=
 ⟨⟨⟨{ h.gd.val.parts with }, h.gd.val.queues, h.gd.val.evs⟩, h.gd.cfg, h.gd.next, h.gd.rets, h.gd.evs, h.gd.sav⟩, h.rings, h.works, h.serial⟩
theorem Gq.sync {s : St} (h : Gq c n r s) : Gq c n r { s with dev := Qbo s.dev } := ⟨⟨h.gd.val.sync, h.gd.cfg, h.gd.next, h.gd.rets, h.gd.evs, h.gd.sav⟩, h.rings, h.works, h.serial⟩
def Und (s : St) : Prop := ∀ i, i < s.works.length → Qid (s.works.getD i default) = true → (s.works.getD i default).ent.version ≤ s.next
def Inc (l : List Evt) : Prop := ∀ i j, i < j → j < l.length → (l.getD i default).ret = false → (l.getD j default).ret = false → (l.getD i default).serial < (l.getD j default).serial
structure Gs (c : Conf) (n : Int) (e : Nat) (s : St) : Prop where
 gd : Gd c n 32 e s
 hist : Hist s
 und : Und s
 serial : s.serial ≤ e
 inc : Inc s.evs
theorem Gs.small {s : St} (h : Gs c n e s) (he : e ≤ 1000000) : s.small := h.gd.small (by decide) he
theorem Gs.len (h : Gs c n e s) : s.rings.length = s.works.length ∧ s.rings.length ≤ 4 ∧ (s.works.length : Int) = c.queues := by
 have h1 := h.gd.val.parts.rings
 have h2 := h.gd.val.parts.works
 have h3 := confR_iff.1 (QR h.gd.conf).1
 rw [h.gd.cfg] at h1 h2
 omega
end Go.Proofs
end

section
open Go Go.Am
namespace Go.Proofs
set_option maxRecDepth 20000
variable {c : Conf} {n : Int} {r e : Nat}
theorem Hist.req {s : St} (h : Hist s) {q : Nat} {w : Wrk} (hq : q < s.works.length) (hw : w.req = (s.works.getD q default).req) (h0 : (s.works.getD q default).state ≠ 0) : Hist (s.setWork q w) := by
 refine ⟨h.right, h.rings, fun i hi hs => ?_, fun i hi hs => ?_⟩
 ·simp only [St.setWork] at hi hs ⊢
  rw [QbA hq] at hs ⊢
  split
  ·rename_i z; subst z; rw [hw]; exact h.works i hi h0
  ·rename_i z; rw [Qxu z] at hs; exact h.works i hi hs
 ·simp only [St.setWork] at hi hs ⊢
  rw [QbA hq] at hs ⊢
  split
  ·rename_i z; subst z; rw [hw]; exact h.apart i hi h0
  ·rename_i z; rw [Qxu z] at hs; exact h.apart i hi hs
theorem Und.set {s : St} (h : Und s) {q : Nat} {w : Wrk} (hw : Qid w = true → w.ent.version ≤ s.next) {t : St} (h1 : t.works = s.works.set q w) (h2 : t.next = s.next) : Und t := fun i hi hu => by
 rw [h1] at hi hu ⊢
 rw [QxT] at hi
 rw [h2]
 by_cases z : q < s.works.length
 ·rw [QbA z] at hu ⊢
  split
  ·rename_i y; rw [Qxt y] at hu; exact hw hu
  ·rename_i y; rw [Qxu y] at hu; exact h i hi hu
 ·rw [List.set_eq_of_length_le om] at hu ⊢
  exact h i hi hu
theorem Gs.setWork {s : St} (h : Gs c n e s) {q : Nat} {w : Wrk} (hq : q < s.works.length) (hr : w.req = (s.works.getD q default).req) (h0 : (s.works.getD q default).state ≠ 0) (hw : Qd3 s.cfg w = true) (hu : Qid w = true → w.ent.version ≤ s.next) : Gs c n e (s.setWork q w) := by
 have hl := h.len
 have hQ := h.gd.val.queues q om
 refine ⟨⟨h.gd.val.setWork hq hw (Or.inr ?_), h.gd.cfg, h.gd.next, h.gd.rets, h.gd.evs, h.gd.sav⟩, h.hist.req hq hr h0, h.und.set hu rfl rfl, h.serial, h.inc⟩
 rw [hr]
 exact hQ.req.resolve_left h0
theorem Gs.other {s t : St} (h : Gs c n e s) {n' : Int} (hv : Val t) (h1 : t.cfg = s.cfg) (h2 : t.rings = s.rings) (h3 : t.works = s.works) (h4 : t.evs = s.evs) (h5 : t.serial = s.serial) (h6 : s.next ≤ t.next) (h7 : t.next ≤ n') (h8 : t.rets = s.rets) (h9 : t.sav = s.sav) : Gs c n' e t := by
 refine ⟨⟨hv, h1.trans h.gd.cfg, h7, by rw [h8]; exact h.gd.rets, by rw [h4]; exact h.gd.evs, h9.trans h.gd.sav⟩, ⟨?_, ?_, ?_, ?_⟩, fun i hi hu => ?_, by rw [h5]; exact h.serial, by rw [h4]; exact h.inc⟩
 ·rw [h4]; exact h.hist.right
 ·rw [h4, h2]; exact h.hist.rings
 ·rw [h4, h2, h3]; exact h.hist.works
 ·rw [h2, h3]; exact h.hist.apart
 ·rw [h3] at hi hu ⊢
  have := h.und i hi hu
  omega
theorem Gs.put {s : St} (h : Gs c n e s) (z : Int) (x : Rec) : Gs c n e (s.put z x) := h.other (h.gd.val.put z x) rfl rfl rfl rfl rfl (QyD _) h.gd.next rfl rfl
theorem Gs.take {s : St} (h : Gs c n e s) (i t : Int) : Gs c n e { s with owner := (Qrp s.owner i t).1 } := by
 have := QuF h.gd.val.parts.locks i t
 exact h.other (h.gd.val.withLocks this.1 this.2) rfl rfl rfl rfl rfl (QyD _) h.gd.next rfl rfl
theorem Gs.pend {s : St} (h : Gs c n e s) (z : Int) : Gs c n e { s with pend := (Qtb s.live s.pend z).1 } :=
 h.other (h.gd.val.withPend (QuD h.gd.val.parts.counts z)) rfl rfl rfl rfl rfl (QyD _) h.gd.next rfl rfl
theorem QuE {r : Req} (h : cmdE c r = 0) : 0 ≤ r.block ∧ r.block < c.blocks ∨ r.kind = 4 := by
 unfold cmdE at h
 split at h
 ·cases h
 ·split at h
  ·cases h
  ·omega
theorem Gs.block {s : St} (h : Gs c n e s) {q : Nat} (hq : q < s.works.length) (h5 : (s.works.getD q default).state = 5) : (s.works.getD q default).req.block < c.blocks := by
 have hl := h.len
 have hw := (h.gd.val.queues q om).work
 unfold Qd3 at hw
 rw [Qxw, h.gd.cfg] at hw
 rcases hw with z | ⟨z1, z2, z3, z4⟩
 ·omega
 ·rcases QuE z1 with y | y
  ·exact y.2
  ·have := z3 y; omega
end Go.Proofs
end

section
open Go Go.Am
namespace Go.Proofs
set_option maxRecDepth 20000
variable {c : Conf} {n : Int} {r e : Nat}
theorem Gs.owner {s : St} (h : Gs c n e s) {o : List Int} (h1 : QbI o = true) (h2 : o.length = s.owner.length) : Gs c n e { s with owner := o } :=
 h.other (h.gd.val.withLocks h1 h2) rfl rfl rfl rfl rfl (QyD _) h.gd.next rfl rfl
structure Gz (s : St) : Prop where
 val : Val s
 hist : Hist s
 und : Und s
 next : s.next ≤ 100000
 serial : s.serial ≤ 100
 evs : s.evs.length ≤ 100
 rets : s.rets.length ≤ 100
 ents : s.sav.ents.length ≤ 100000
 recs : s.sav.recs.length ≤ 100000
 conf : s.cfg.queues ≤ 4
 inc : Inc s.evs
theorem Gz.small {s : St} (h : Gz s) : s.small := h.val.small (by have := h.rets; omega) (by have := h.evs; omega) (by have := h.ents; omega) (by have := h.recs; omega)
theorem Gs.sav {s : St} (h : Gs c n e s) (hn : n ≤ 100000) (he : e ≤ 100) (v : Sav) (h1 : v.ents.length ≤ 100000) (h2 : v.recs.length ≤ 100000) : Gz { s with sav := v } := by
 have h3 := confR_iff.1 (QR h.gd.conf).1
 refine ⟨⟨{ h.gd.val.parts with }, h.gd.val.queues, h.gd.val.evs⟩, ⟨h.hist.right, h.hist.rings, h.hist.works, h.hist.apart⟩, h.und, ?_, ?_, ?_, ?_, h1, h2, ?_, h.inc⟩
 ·have := h.gd.next; show s.next ≤ _; omega
 ·have := h.serial; show s.serial ≤ _; omega
 ·have := h.gd.evs; show s.evs.length ≤ _; omega
 ·have := h.gd.rets; show s.rets.length ≤ _; omega
 ·show s.cfg.queues ≤ 4; rw [h.gd.cfg]; omega
theorem Gz.withDev {s : St} (h : Gz s) {d : Dev} (h1 : check d = 0) (h2 : d.zones.length = s.dev.zones.length) (h3 : d.size = s.dev.size) : Gz { s with dev := d } :=
 ⟨h.val.withDev h1 h2 h3, ⟨h.hist.right, h.hist.rings, h.hist.works, h.hist.apart⟩, h.und, h.next, h.serial, h.evs, h.rets, h.ents, h.recs, h.conf, h.inc⟩
theorem Gz.put {s : St} (h : Gz s) (zone : Int) (r : Rec) : Gz (s.put zone r) :=
 h.withDev (check_ok.2 (QkV (check_ok.1 h.val.parts.dev) zone _)) (Qa7 _ _ _) (Qor _ _ _)
theorem QrQ {s : St} (h : Val s) : (allS s.map).length ≤ 100000 := by
 have hp := h.parts
 have hc := confR_iff.1 (QR hp.cfg).1
 have hm := Qbw hp.map
 unfold allS
 rw [Qxt hp.map, (QcJ hp.map).2.length_eq, List.length_flatten]
 have key : ∀ (l : List Nat) (b : Nat), (∀ x ∈ l, x ≤ b) → l.sum ≤ l.length * b := by
  intro l b hb
  induction l with
  | nil => simp
  | cons x l ih =>
   have h1 := hb x (Qys ..)
   have h2 := ih fun y hy => hb y (Qyi _ hy)
   simp only [List.sum_cons, QxR, Qyh]
   omega
 have := key (s.map.map List.length) 128 (fun x hx => by
  obtain ⟨l, hl, rfl⟩ := Qyj.1 hx
  obtain ⟨i, hi, rfl⟩ := QxP hl
  have := QgT hp.map hp.blocks om i
  rw [Qu _ _ hi] at this
  omega)
 rw [Qy7] at this
 omega
end Go.Proofs
end

section
open Go Go.Am
namespace Go.Proofs
set_option maxRecDepth 20000
def Qfd (s : St) (q : Int) : Wrk := s.works.getD q.toNat default
def inQ (s : St) (q : Int) : Bool := QaI s && decide (0 ≤ q ∧ q < s.works.length)
theorem inQ_iff {s : St} {q : Int} : inQ s q = true ↔ QaI s = true ∧ 0 ≤ q ∧ q < s.works.length := by
 unfold inQ
 rw [QxA, Qxw]
end Go.Proofs
end
