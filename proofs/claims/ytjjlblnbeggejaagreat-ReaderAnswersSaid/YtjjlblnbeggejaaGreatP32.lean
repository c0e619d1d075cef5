/- Contracts, lemmas; no condition. -/
import Derived.Test.YtjjlblnbeggejaaGreatP31
import Derived.Test.YtjjlblnbeggejaaGreatP26
import Derived.Test.YtjjlblnbeggejaaGreatP27
import Derived.Test.YtjjlblnbeggejaaGreatP23
import Derived.Test.YtjjlblnbeggejaaGreatP12
import Derived.Test.YtjjlblnbeggejaaGreatP10
set_option linter.all false
section
open Go Go.Am
namespace Go.Proofs
set_option maxRecDepth 20000
variable {c : Conf} {n : Int} {r : Nat}
structure At (p0 : DS) (z : Int) (c : Conf) (n : Int) (r : Nat) (p : DS) : Prop where
 gq : Gq c n r p.2
 lk : Lk p.2 [z]
 host : p.2.host = p0.2.host
 lane : p.2.lane = p0.2.lane
 free : p.2.free = p0.2.free
 zones : ∀ i : Nat, (i : Int) ≠ z → p.2.dev.zones.getD i default = p0.2.dev.zones.getD i default
theorem Qm7 {p : DS} {z : Int} (h : At p z c n r p) (w : Wz p.2 [z] z 0) : ∀ k : Nat, (k : Int) + 1 ≤ c.size → n + k ≤ 1000000 → At p z c (n + k) r (addTo z p k) ∧ Wz (addTo z p k).2 [z] z k
 | 0, _, _ => ⟨⟨h.gq.weak om (QxB _), h.lk, h.host, h.lane, h.free, h.zones⟩, w⟩
 | k + 1, h1, h2 => by
  obtain ⟨a, b⟩ := Qm7 h w k om om
  have hq : Gq c (n + k + 1) r (addF z (addTo z p k)).2 := Gq.addF (p := addTo z p k) a.gq om z
  show At p z c _ r (addF z (addTo z p k)) ∧ Wz (addF z (addTo z p k)).2 [z] z (k + 1)
  generalize addTo z p k = q at a b hq
  have hb := Qcf a.gq.gd.conf
  have hp1 := a.gq.gd.val.parts.next
  have hp2 := a.gq.gd.next
  have hro := Qht (d := q.1) (b := q.2.cfg.blocks) (v := q.2.next) (by rw [a.gq.gd.cfg]; omega) om
  have hL : Lk q.2.bump [z] := ⟨a.lk.dev, a.lk.free, a.lk.ents, a.lk.pend, a.lk.pins⟩
  have hW : Wz q.2.bump [z] z k := ⟨b.mem, b.ge, b.lt, b.nfree, b.len, b.st⟩
  have hsz := a.gq.size
  obtain ⟨e1, e2, e3, e4, e5, e6⟩ := hL.add (by simp) hW (fun y hy => (a.gq.free0 y hy).1) hro.1 hro.2
  refine ⟨⟨hq.weak om (QxB _), e1, e3.trans a.host, e4.trans a.lane, e5.trans a.free, fun i hi => ?_⟩, e2 (by show (k : Int) + 1 < q.2.dev.size; omega)⟩
  show (q.2.bump.add z (recR q.1 q.2.cfg.blocks q.2.next)).dev.zones.getD i default = _
  rw [e6]
  exact (hL.apart (by simp) hW (Qai hro.1) hi).trans (a.zones i hi)
theorem Gl.fullF {p : DS} {z : Int} (h : Gl c n r p.2) (hh : p.2.host = -1) (hl : p.2.lane = -1) (hz : 0 ≤ z ∧ z < c.zones) (hs : (zAt p.2.dev z).state = 0) (hn : n + c.size ≤ 1000000) :
  Gl c (n + c.size) r (Go.Proofs.fullF z (p.1, p.2.unfree z)).2 ∧ (Go.Proofs.fullF z (p.1, p.2.unfree z)).2.host = -1 ∧ (Go.Proofs.fullF z (p.1, p.2.unfree z)).2.lane = -1 ∧ ∀ i : Nat, (i : Int) ≠ z → (Go.Proofs.fullF z (p.1, p.2.unfree z)).2.dev.zones.getD i default = p.2.dev.zones.getD i default := by
 have hzl := h.gd.val.parts.zones
 rw [h.gd.cfg] at hzl
 have hcf := confR_iff.1 (QR h.gd.conf).1
 have hw : Lk p.2 [z] := h.lq.weak fun i hi h0 _ => by
  rcases Qyf.1 hi with q | q
  ·omega
  ·have := Qyy.1 q; omega
 have hlen := h.lq.dev.empty (i := z.toNat) om hs
 have a0 : At (p.1, p.2.unfree z) z c n r (p.1, p.2.unfree z) := ⟨h.gq.unfree z, hw.unfree z, rfl, rfl, rfl, fun _ _ => rfl⟩
 have w0 : Wz (p.1, p.2.unfree z).2 [z] z 0 := ⟨Qys .., hz.1, by show z < (p.2.dev.zones.length : Int); omega, fun q => (without_mem.1 q).2 rfl, hlen, by show (zAt p.2.dev z).state ≠ 4; rw [hs]; decide⟩
 have hcs : (p.1, p.2.unfree z).2.cfg.size = c.size := QxK Conf.size h.gd.cfg
 have hq := Gq.fullF (p := (p.1, p.2.unfree z)) (h.gq.unfree z) z hn
 obtain ⟨a, w⟩ := Qm7 a0 w0 (c.size - 1).toNat om om
 unfold Go.Proofs.fullF at hq ⊢
 rw [hcs] at hq ⊢
 generalize addTo z (p.1, p.2.unfree z) (c.size - 1).toNat = q at a w hq
 have hds := a.gq.size
 obtain ⟨l1, l2⟩ := a.lk.sealed (by simp) w (fun y hy => (a.gq.free0 y hy).1) om
 have hm := Qg7 (a.lk.dev.secs z.toNat (by have := w.lt; omega) w.st) (by have := w.len; unfold zAt at this; omega) (by have := w.len; have := a.lk.dev.size; unfold zAt at *; omega)
 have hzz : ∀ i : Nat, (i : Int) ≠ z → (q.2.seal z).dev.zones.getD i default = p.2.dev.zones.getD i default := fun i hi => (a.lk.apart (by simp) w (Qai hm.2) hi).trans (a.zones i hi)
 have h1 : (q.2.seal z).host = -1 := a.host.trans hh
 have h2 : (q.2.seal z).lane = -1 := a.lane.trans hl
 refine ⟨⟨hq, ?_, fun y hy hy0 => ?_⟩, h1, h2, hzz⟩
 ·show Lk (q.2.seal z) [(q.2.seal z).host, (q.2.seal z).lane]
  refine l1.weak fun i hi _ hs4 => ?_
  have := Qyy.1 hi
  rw [this, l2] at hs4
  exact absurd hs4 (by decide)
 ·change y = (q.2.seal z).host ∨ y = (q.2.seal z).lane at hy
  rw [h1, h2] at hy
  omega
theorem Qie {c : Conf} (h : QB c = 0) : Gl c 1 0 (Qs c) ∧ ∀ i : Nat, ((Qs c).dev.zones.getD i default).state = 0 := by
 have hv := Qs8 h
 have he := Qhk h
 have hdev : (Qs c).dev = newX c.zones c.size 3 3 := by show newD _ _ _ _ = _; unfold newD; rw [Qxt he]
 have hz : ∀ i : Nat, ((Qs c).dev.zones.getD i default).state = 0 := fun i => by
  rw [hdev]
  by_cases q : i < c.zones.toNat
  ·show ((List.replicate c.zones.toNat QbP).getD i default).state = 0
   rw [Qa9 q]; rfl
  ·show ((List.replicate c.zones.toNat QbP).getD i default).state = 0
   rw [show (List.replicate c.zones.toNat QbP).getD i default = default by simp only [List.getD]; rw [QyV (by simp; omega)]; rfl]
   rfl
 have hok : (Qs c).dev.ok := check_ok.1 hv.gd.val.parts.dev
 refine ⟨⟨hv, ⟨⟨hok, by rw [hdev]; rfl, by rw [hdev]; rfl, fun i _ => .inl (hz i), fun i _ hs => by rw [hz i] at hs; exact absurd hs (by decide), fun i hi _ x hx => ?_⟩, fun z _ => hz z.toNat, fun l hl e he => ?_, fun i => ?_, fun i hi => ?_⟩, fun z _ _ => by show ((Qs c).dev.zones.getD z.toNat default).state ≠ 4; rw [hz]; decide⟩, hz⟩
 ·have := (hok.all.get hi).emp (.inl (hz i))
  have h0 : ((Qs c).dev.zones.getD i default).sectors = [] := List.length_eq_zero_iff.1 om
  rw [h0] at hx
  cases hx
 ·have : l = [] := (List.mem_replicate.1 hl).2
  subst this
  cases he
 ·show (List.replicate c.zones.toNat (0 : Int)).getD i default = 0
  by_cases q : i < c.zones.toNat
  ·exact Qa9 q
  ·simp only [List.getD]; rw [QyV (by simp; omega)]; rfl
 ·rw [show (Qs c).pins = List.replicate c.queues.toNat (-1) from rfl] at hi ⊢
  rw [Qx6] at hi
  exact Qa9 hi
end Go.Proofs
end

section
open Go Go.Am
namespace Go.Proofs
set_option maxRecDepth 20000
variable {w : Wrk}
def rdQ (k : Int) : Req := ⟨0, 1, k, ByteArray.empty⟩
structure Rx (s : St) (k : Int) (t : St) : Prop where
 val : Val t
 dev : t.dev = s.dev
 evs : t.evs = [QiD false 0 (rdQ k) 0 ByteArray.empty]
 rets : t.rets = s.rets
 sav : t.sav = s.sav
 cfg : t.cfg = s.cfg
 req : (t.works.getD 0 default).req = rdQ k
 ser : t.serial = 1
 wl : 0 < t.works.length
 pl : 0 < t.pins.length
 cmd : cmdE t.cfg (rdQ k) = 0
variable {s t : St} {k : Int}
theorem Rx.inQ (h : Rx s k t) : inQ t 0 = true := inQ_iff.2 ⟨validS_V.2 h.val, QyD _, by have := h.wl; omega⟩
theorem Rx.wrk (h : Rx s k t) (h1 : w.req = rdQ k) (h2 : 1 ≤ w.state ∧ w.state ≤ 4) : Qd3 t.cfg w = true := by
 unfold Qd3
 rw [Qxw, h1]
 exact .inr ⟨h.cmd, fun _ => h2, fun q => absurd (show (1 : Int) = 4 from q) (by decide), fun q => absurd rfl q⟩
theorem Rx.set (h : Rx s k t) {w : Wrk} (h1 : w.req = rdQ k) (h2 : 1 ≤ w.state ∧ w.state ≤ 4) : Rx s k (t.setWork 0 w) ∧ (t.setWork 0 w).works.getD 0 default = w := by
 have e : (t.setWork 0 w).works.getD 0 default = w := by
  show (t.works.set 0 w).getD 0 default = w
  rw [QbA h.wl, Qxt rfl]
 exact ⟨⟨h.val.setWork h.wl (h.wrk h1 h2) (.inr (by rw [h1, h.ser]; show (0 : Int) < 1; decide)), h.dev, h.evs, h.rets, h.sav, h.cfg, by rw [e, h1], h.ser, by show 0 < (t.works.set 0 w).length; rw [QxT]; exact h.wl, h.pl, h.cmd⟩, e⟩
theorem Rx.pins (h : Rx s k t) {p : List Int} (h1 : QL t.glob p t.rets = true) (h2 : p.length = t.pins.length) : Rx s k { t with pins := p } :=
 ⟨h.val.withEpochs (g := t.glob) (r := t.rets) h1 h2, h.dev, h.evs, h.rets, h.sav, h.cfg, h.req, h.ser, h.wl, by show 0 < p.length; rw [h2]; exact h.pl, h.cmd⟩
theorem Rx.map (h : Rx s k t) {m : List (List Ent)} (h1 : MapKeep t.map m t.cfg.blocks) : Rx s k { t with map := m } :=
 ⟨h.val.withMap h1, h.dev, h.evs, h.rets, h.sav, h.cfg, h.req, h.ser, h.wl, h.pl, h.cmd⟩
theorem Rx.pin (h : Rx s k t) (h1 : (t.works.getD 0 default).state = 1) (h2 : t.pins.getD 0 default = -1) :
  Qk t 0 = (pinS t 0, 0) ∧ Rx s k (pinS t 0) ∧ (pinS t 0).works.getD 0 default = { t.works.getD 0 default with state := 2 } ∧ (pinS t 0).map = t.map ∧ (pinS t 0).pins.getD 0 default ≠ -1 := by
 have he := h.val.parts.epochs
 have hp : pinM t.glob t.pins t.rets 0 = (t.pins.set 0 t.glob, true) := Qxt ⟨he, QyD _, by have := h.pl; omega, h2⟩
 have hm : Qcu t 0 = (pinS t 0, true) := by
  unfold Qcu Qfd
  simp only [show Int.toNat 0 = 0 from rfl]
  rw [Qxt h1, hp]
 have hk := QnV he 0
 rw [hp] at hk
 have hx := h.pins hk.1 hk.2
 obtain ⟨g1, g2⟩ := hx.set (w := { t.works.getD 0 default with state := 2 }) h.req (by show (1 : Int) ≤ 2 ∧ (2 : Int) ≤ 4; decide)
 have e : pinS t 0 = St.setWork { t with pins := t.pins.set 0 t.glob } 0 { t.works.getD 0 default with state := 2 } := by unfold pinS; rw [hp]; rfl
 refine ⟨(Qxt ⟨h.inQ, by rw [hm]⟩).trans (by rw [hm]), ?_, ?_, rfl, ?_⟩
 ·rw [e]; exact g1
 ·rw [e]; exact g2
 ·rw [e]
  show (t.pins.set 0 t.glob).getD 0 default ≠ -1
  rw [QbA h.pl, Qxt rfl]
  have := (epochs_iff.1 he).1
  omega
theorem QhW (h : w.req = rdQ k) : (QcX t w).req = rdQ k ∧ 1 ≤ (QcX t w).state ∧ (QcX t w).state ≤ 4 := by
 unfold QcX
 split
 ·exact ⟨h, by show (1 : Int) ≤ 3 ∧ (3 : Int) ≤ 4; decide⟩
 ·exact ⟨h, by show (1 : Int) ≤ 4 ∧ (4 : Int) ≤ 4; decide⟩
theorem Rx.look (h : Rx s k t) (h1 : (t.works.getD 0 default).state = 2) :
  Qk t 0 = (QaG t 0, 0) ∧ Rx s k (QaG t 0) ∧ (QaG t 0).works.getD 0 default = QcX t (t.works.getD 0 default) ∧ (QaG t 0).map = t.map ∧ (QaG t 0).pins = t.pins := by
 have hm : Qcu t 0 = (QaG t 0, true) := by
  unfold Qcu Qfd
  simp only [show Int.toNat 0 = 0 from rfl]
  rw [Qxu (by rw [h1]; decide), Qxt h1]
 obtain ⟨g1, g2⟩ := h.set (w := QcX t (t.works.getD 0 default)) (QhW h.req).1 (QhW h.req).2
 exact ⟨(Qxt ⟨h.inQ, by rw [hm]⟩).trans (by rw [hm]), g1, g2, rfl, rfl⟩
theorem Rx.fetch (h : Rx s k t) (h1 : (t.works.getD 0 default).state = 3) :
  Qk t 0 = (QbS t 0, 0) ∧ Rx s k (QbS t 0) ∧ (QbS t 0).works.getD 0 default = { t.works.getD 0 default with data := Qds t (t.works.getD 0 default), state := 4 } ∧ (QbS t 0).pins = t.pins := by
 have hm : Qcu t 0 = (QbS t 0, true) := by
  unfold Qcu Qfd
  simp only [show Int.toNat 0 = 0 from rfl]
  rw [Qxu (by rw [h1]; decide), Qxu (by rw [h1]; decide), Qxt h1]
 obtain ⟨g1, g2⟩ := h.set (w := { t.works.getD 0 default with data := Qds t (t.works.getD 0 default), state := 4 }) h.req (by show (1 : Int) ≤ 4 ∧ (4 : Int) ≤ 4; decide)
 exact ⟨(Qxt ⟨h.inQ, by rw [hm]⟩).trans (by rw [hm]), g1, g2, rfl⟩
def Qdz (t : St) (k : Int) : St := (St.addEv { t with pins := t.pins.set 0 (-1) } (QiD true 0 (rdQ k) (if (t.works.getD 0 default).data = ByteArray.empty then 14 else 0) (t.works.getD 0 default).data)).setWork 0 default
theorem Rx.unpin (h : Rx s k t) (h1 : (t.works.getD 0 default).state = 4) (h2 : t.pins.getD 0 default ≠ -1) : Qk t 0 = (Qdz t k, 0) := by
 have he := h.val.parts.epochs
 have hp : QaU t.glob t.pins t.rets 0 = (t.pins.set 0 (-1), true) := Qxt ⟨he, QyD _, by have := h.pl; omega, h2⟩
 have hk : QL t.glob (t.pins.set 0 (-1)) t.rets = true ∧ (t.pins.set 0 (-1)).length = t.pins.length := by
  refine ⟨?_, QxT⟩
  rw [epochs_iff] at he ⊢
  rw [QxT]
  refine ⟨he.1, fun i hi => ?_, he.2.2⟩
  rw [QbA h.pl]
  split
  ·exact .inl rfl
  ·exact he.2.1 i hi
 have hx := h.pins hk.1 hk.2
 have hu : QcC t 0 = (Qdz t k, true) := by
  unfold QcC
  rw [Qxt (by rw [hp])]
  rw [hp]
  unfold QoA
  rw [Qxt ⟨validS_V.2 hx.val, QyD _, by have := h.wl; show (0 : Int) < (t.works.length : Int); omega, by show (t.works.getD 0 default).state ≠ 0; rw [h1]; decide⟩]
  unfold Qdz
  show ((St.addEv { t with pins := t.pins.set 0 (-1) } (QiD true 0 (t.works.getD 0 default).req _ _)).setWork 0 default, true) = _
  rw [h.req]
  rfl
 have hm : Qcu t 0 = (Qdz t k, true) := by
  unfold Qcu Qfd
  simp only [show Int.toNat 0 = 0 from rfl]
  rw [Qxu (by rw [h1]; decide), Qxu (by rw [h1]; decide), Qxu (by rw [h1]; decide), Qxt h1, hu]
 exact (Qxt ⟨h.inQ, by rw [hm]⟩).trans (by rw [hm])
theorem Rx.small (h : Rx s k t) (h1 : s.rets.length ≤ 32) (h2 : s.sav = default) : t.small :=
 h.val.small (by rw [h.rets]; omega) (by rw [h.evs]; show 1 ≤ 1000000; decide) (by rw [h.sav, h2]; decide) (by rw [h.sav, h2]; decide)
end Go.Proofs
end

section
open Go Go.Am
namespace Go.Proofs
set_option maxRecDepth 20000
theorem Qql {l : List Evt} {n : Int} (ha : Qq4 l n = false) : ∀ k, k ≤ l.length → (QsU (l.take k) n = true ↔ n ∈ Qmm l k)
 | 0, _ => by simp [QsU, Qmm]
 | k + 1, hk => by
  have ih := Qql ha k om
  have e : QsU (l.take (k + 1)) n = (QsU (l.take k) n || (!(l.getD k default).ret && decide ((l.getD k default).serial = n))) := by
   unfold QsU
   rw [Qb9 l om, List.any_append]
   simp
  rw [e]
  simp only [Qmm]
  split
  ·rename_i c
   rw [Qyc, Qyy, ← ih]
   simp only [QyA, QxA, Qyp, Qxw]
   exact ⟨fun z => z.imp id fun z => z.2.symm, fun z => z.imp id fun z => ⟨c.1, z.symm⟩⟩
  ·rename_i c
   rw [← ih]
   simp only [QyA, QxA, Qyp, Qxw]
   refine ⟨fun z => z.elim id fun z => ?_, Or.inl⟩
   cases q : QsU (l.take k) n with
   | true => rfl
   | false => exact absurd ⟨z.1, by rw [z.2]; exact ha, by rw [z.2]; exact q⟩ c
theorem Gz.mem {s : St} (h : Gz s) {i : Nat} (hi : i < s.rings.length) (hs : (s.works.getD i default).state ≠ 0) : (s.works.getD i default).req.serial ∈ QtE s.evs := by
 have hl := h.hist.works i hi hs
 have := (Qql hl.ans s.evs.length (QxB _)).1 (by rw [Qzc]; exact hl.inv)
 exact this
theorem Val.all {s : St} (h : Val s) : Qx s.map = true → AllS s.map (allM s.map) := fun hm => by
 have hp := h.parts
 have hc := confR_iff.1 (QR hp.cfg).1
 exact QtH hm (fun i => by have := QgT hp.map hp.blocks om i; omega) (fun i hi e he => by have := blocksIn_iff.1 hp.blocks i hi e he; omega)
end Go.Proofs
end

section
open Go Go.Am
namespace Go.Proofs
set_option maxRecDepth 20000
variable {ks : List Int} {e : Ent}
theorem Qnp {d : Dev} (hd : DevQ d ks) (h : Held d e) (hk : e.kind = 1) : ∃ r, Qm r = 0 ∧ r.kind = 1 ∧ r.block = e.block ∧ r.version = e.version ∧ QdD d e.zone e.offset = 0 ∧ Q5 d e.zone e.offset = encR r := by
 obtain ⟨r, h1, h2, h3, h4, h5, h6, h7⟩ := h hk
 have hst := hd.st e.zone.toNat om
 unfold zAt at h6 h7
 have hb : QG d e.zone = 0 := by
  unfold QG
  rw [Qxt (check_ok.2 hd.ok), Qxt (Qxz h5), Qxu om]
 have he : QdD d e.zone e.offset = 0 := by
  unfold QdD
  rw [Qxt hb, Qxt (Qxz h6)]
 exact ⟨r, h1, h2, h3, h4, he, by unfold Q5; rw [Qxt he]; exact h7⟩
theorem Qf6 {s t : St} (hd : DevQ s.dev ks) (h : Held s.dev e) (hk : e.kind = 1) (ht : t.dev = s.dev) {w : Wrk} (hw : w.ent = e) : Qds t w = QcD s e ∧ QcD s e ≠ ByteArray.empty := by
 obtain ⟨r, h1, h2, h3, h4, h5, h6⟩ := Qnp hd h hk
 have hb : QbB r = true := Qxz (.inl h2)
 obtain ⟨d1, d2⟩ := QoD h1
 obtain ⟨b1, b2⟩ := QjM h1 hb
 have e1 : Qds t w = r.payload := by
  unfold Qds
  rw [ht, hw, h6, Qxt ⟨d1, by rw [d2]; exact h2, by rw [d2]; exact h3, by rw [d2]; exact h4⟩, d2]
 have e2 : QcD s e = r.payload := by
  unfold QcD
  rw [h6, b2, Qxt ⟨h5, rfl, h2, h3, h4⟩]
 refine ⟨e1.trans e2.symm, ?_⟩
 rw [e2]
 intro q
 have hs : r.payload.size = 16 := by
  unfold Qm at h1
  simp [h2] at h1
  omega
 rw [q] at hs
 exact absurd hs (by decide)
def rdA (s : St) (k : Int) : St := (Qo4 { s with closed := false } 0 (rdQ k)).1
def rdB (s : St) (k : Int) : St := (QrG false (rdA s k) 0).1
variable {s : St} {c : Conf} {n : Int} {r : Nat} {k : Int}
theorem Qm3 {c : Conf} (h0 : 0 ≤ k) (h1 : k < c.blocks) : cmdE c (rdQ k) = 0 := by
 unfold cmdE rdQ
 dsimp only
 rw [Qxu om, Qxu om, Qxu (by simp)]
theorem Qpe (hG : Gl c n r s) (h0 : 0 ≤ k) (h1 : k < c.blocks) :
  Val (rdA s k) ∧ (rdA s k).evs.length ≤ 1 ∧ (rdA s k).rets = s.rets ∧ (rdA s k).sav = s.sav ∧
  Rx s k (rdB s k) ∧ ((rdB s k).works.getD 0 default).state = 1 ∧ (rdB s k).pins.getD 0 default = -1 ∧ (rdB s k).map = s.map := by
 have hv : Val { s with closed := false } := ⟨{ hG.gd.val.parts with }, hG.gd.val.queues, hG.gd.val.evs⟩
 have hcf := confR_iff.1 (QR hG.gd.conf).1
 have hqr := hv.parts.rings
 have hqw := hv.parts.works
 have hqp := hv.parts.pins
 have hcfg := hG.gd.cfg
 have hev : s.evs = [] := List.length_eq_zero_iff.1 (by have := hG.gd.evs; omega)
 have hser := hG.gq.serial
 dsimp only at hqr hqw hqp
 rw [hcfg] at hqr hqw hqp
 have hr0 : s.rings.getD 0 default = ⟨c.depth, []⟩ := by
  rw [hG.gq.rings]
  show (List.replicate c.queues.toNat (⟨c.depth, []⟩ : Rng)).getD 0 default = _
  exact Qa9 om
 have hw0 : s.works.getD 0 default = default := by
  rw [hG.gq.works]
  show (List.replicate c.queues.toNat (default : Wrk)).getD 0 default = _
  exact Qa9 om
 have hp0 : s.pins.getD 0 default = -1 := hG.lq.pins 0 om
 have hring : QtT ⟨c.depth, []⟩ (rdQ k) = (⟨c.depth, [rdQ k]⟩, 0) := by
  unfold QtT
  rw [Qxt (ringOk_R.2 ⟨⟨by dsimp only; omega, by dsimp only; omega, by dsimp only; simp only [Qx5]; omega⟩, fun i hi => by cases hi⟩)]
  rw [Qxu (by dsimp only; simp only [Qx5]; omega), Qxu (by dsimp only; simp [rdQ])]
  rfl
 have ha : rdA s k = St.addEv { (St.setRing { s with closed := false } 0 ⟨c.depth, [rdQ k]⟩) with serial := 1 } (QiD false 0 (rdQ k) 0 ByteArray.empty) := by
  unfold rdA Qo4
  rw [Qxt (validS_V.2 hv), Qxt (by dsimp only; omega)]
  rw [Qxu (by dsimp only; rw [hev, hser]; decide)]
  dsimp only
  rw [Qxu (by decide)]
  rw [show ({ rdQ k with serial := s.serial } : Req) = rdQ k by rw [hser]; rfl]
  rw [show Int.toNat 0 = 0 from rfl, hr0, hring, Qxu (show ¬ ((0 : Int) ≠ 0) by decide), hser]
  rfl
 have hva : Val (rdA s k) := hv.submit 0 (rdQ k)
 have hrl : 0 < s.rings.length := by omega
 have hwl : 0 < s.works.length := by omega
 have hb : rdB s k = St.setWork (St.setRing (rdA s k) 0 ⟨c.depth, []⟩) 0 ⟨1, rdQ k, default, ByteArray.empty⟩ := by
  have e1 : (rdA s k).works = s.works := by rw [ha]; rfl
  have e2 : (rdA s k).rings.getD 0 default = ⟨c.depth, [rdQ k]⟩ := by
   rw [ha]
   show (s.rings.set 0 _).getD 0 default = _
   rw [QbA hrl, Qxt rfl]
  have e3 : (rdA s k).cfg = c := by rw [ha]; exact hcfg
  have ht := (Qsc (r := ⟨c.depth, [rdQ k]⟩) (by have := (hva.queues 0 (by rw [ha]; show 0 < (s.rings.set 0 _).length; rw [QxT]; exact hrl)).ring; rw [e2] at this; exact this) (by simp)).1
  unfold rdB QrG
  rw [Qxt ⟨validS_V.2 hva, QyD _, by rw [e1]; omega, by rw [e1, show Int.toNat 0 = 0 from rfl, hw0]; rfl⟩]
  rw [show Int.toNat 0 = 0 from rfl, e2, ht]
  dsimp only
  rw [Qxt rfl, e3, show [rdQ k].getD 0 default = rdQ k from rfl, Qxt (Qm3 h0 h1)]
  rfl
 have hlen : (rdA s k).rings.length = s.rings.length ∧ (rdA s k).works = s.works := by rw [ha]; exact ⟨QxT, rfl⟩
 have hvb : Val (rdB s k) := by
  rw [hb]
  have hd : (rdA s k).cfg.depth = c.depth := by rw [ha]; exact QxK Conf.depth hcfg
  have h2 := hva.setRing (q := 0) (r := ⟨c.depth, []⟩) (by rw [hlen.1]; exact hrl) (ringOk_R.2 ⟨⟨by dsimp only; omega, by dsimp only; omega, by dsimp only; simp only [Qx5]; omega⟩, fun i hi => by cases hi⟩) hd.symm (fun i hi => by cases hi)
  refine h2.setWork (by show 0 < (rdA s k).works.length; rw [hlen.2]; exact hwl) ?_ (.inr ?_)
  ·have : (St.setRing (rdA s k) 0 ⟨c.depth, []⟩).cfg = c := by show (rdA s k).cfg = c; rw [ha]; exact hcfg
   rw [this]
   exact Qu3 (c := c) (r := rdQ k) (Qm3 h0 h1)
  ·show (0 : Int) < (rdA s k).serial
   rw [ha]
   show (0 : Int) < 1
   decide
 have hw1 : (rdB s k).works.getD 0 default = ⟨1, rdQ k, default, ByteArray.empty⟩ := by
  rw [hb]
  show ((rdA s k).works.set 0 _).getD 0 default = _
  rw [hlen.2, QbA hwl, Qxt rfl]
 refine ⟨hva, by rw [ha]; show (s.evs ++ [_]).length ≤ 1; rw [hev]; exact QxB _, by rw [ha]; rfl, by rw [ha]; rfl, ⟨hvb, by rw [hb, ha]; rfl, by rw [hb, ha]; show s.evs ++ [_] = _; rw [hev]; rfl, by rw [hb, ha]; rfl, by rw [hb, ha]; rfl, by rw [hb, ha]; rfl, by rw [hw1], by rw [hb, ha]; rfl, by rw [hb]; show 0 < ((rdA s k).works.set 0 _).length; rw [QxT, hlen.2]; exact hwl, by rw [hb, ha]; show 0 < s.pins.length; omega, ?_⟩, by rw [hw1], by rw [hb, ha]; exact hp0, by rw [hb, ha]; rfl⟩
 have : (rdB s k).cfg = c := by rw [hb, ha]; exact hcfg
 rw [this]
 exact Qm3 h0 h1
end Go.Proofs
end

section
open Go Go.Am
namespace Go.Proofs
set_option maxRecDepth 20000
variable {m : List (List Ent)} {i : Nat}
def zB : ByteArray := QQ 16 fun _ _ => .int .u8 0
def Qc1 (s : St) (k : Int) : ByteArray := if (QfX s.map k).1.kind = 1 then QcD s (QfX s.map k).1 else zB
structure Fin2 (s : St) (k : Int) (t : St) : Prop where
 small : t.small
 evs : t.evs = [QiD false 0 (rdQ k) 0 ByteArray.empty, QiD true 0 (rdQ k) 0 (Qc1 s k)]
 st : (t.works.getD 0 default).state = 0
 wl : 0 < t.works.length
 pl : 0 < t.pins.length
 pin : t.pins.getD 0 default = -1
inductive Stg (s : St) (k : Int) (i : Nat) (t : St) : Prop
 | pin (h : Rx s k t) (hi : i = 0) (h1 : (t.works.getD 0 default).state = 1) (h2 : t.pins.getD 0 default = -1) (h3 : t.map = s.map)
 | look (h : Rx s k t) (hi : i = 1) (h1 : (t.works.getD 0 default).state = 2) (h2 : t.pins.getD 0 default ≠ -1) (h3 : t.map = s.map)
 | fetch (h : Rx s k t) (hi : i = 2) (h1 : (t.works.getD 0 default).state = 3) (h2 : t.pins.getD 0 default ≠ -1) (h3 : (t.works.getD 0 default).ent = (QfX s.map k).1) (h4 : (QfX s.map k).1.kind = 1)
 | unpin (h : Rx s k t) (hi : i = 2 ∨ i = 3) (h1 : (t.works.getD 0 default).state = 4) (h2 : t.pins.getD 0 default ≠ -1) (h3 : (t.works.getD 0 default).data = Qc1 s k)
 | fin (h : Fin2 s k t) (hi : i = 3 ∨ i = 4)
variable {s t : St} {c : Conf} {n : Int} {r : Nat} {k : Int}
theorem QeP (h : Qx m = true) (hf : (QfX m k).2 = true) : QaQ (QfX m k).1 = true ∧ (QfX m k).1.block = k :=
 AllH.find (p := fun e => QaQ e = true) (fun l hl e he => by
  obtain ⟨i, hi, rfl⟩ := QxP hl
  have := (Qch h hi).1
  rw [Qu _ _ hi] at this
  exact Qdw this he) hf
theorem QjN (hf : (QfX m k).2 = false) : (QfX m k).1 = default := by
 unfold QfX at hf ⊢
 split
 ·rename_i q
  rw [Qxt q] at hf
  unfold QO at hf ⊢
  split
  ·rename_i w; rw [Qxt w] at hf; cases hf
  ·rfl
 ·rfl
theorem Qhq (hG : Gl c n r s) (hk : (QfX s.map k).1.kind = 1) : (∀ {t : St} {w : Wrk}, t.dev = s.dev → w.ent = (QfX s.map k).1 → Qds t w = Qc1 s k) ∧ Qc1 s k ≠ ByteArray.empty := by
 have hf : (QfX s.map k).2 = true := QxC fun q => by
  rw [QjN (by simpa using q)] at hk
  exact absurd (show (0 : Int) = 1 from hk) (by decide)
 have hh := (AllH.find (p := Held s.dev) hG.lq.ents hf).1
 have hw : Qc1 s k = QcD s (QfX s.map k).1 := Qxt hk
 rw [hw]
 exact ⟨fun {t w} ht hw => (Qf6 hG.lq.dev hh hk ht hw).1, (Qf6 (t := s) (w := { (default : Wrk) with ent := (QfX s.map k).1 }) hG.lq.dev hh hk rfl rfl).2⟩
theorem Qp1 : zB ≠ ByteArray.empty := by decide +kernel
theorem QpA (hG : Gl c n r s) : Qc1 s k ≠ ByteArray.empty := by
 by_cases hk : (QfX s.map k).1.kind = 1
 ·exact (Qhq hG hk).2
 ·rw [show Qc1 s k = zB from Qxu hk]; exact Qp1
theorem Qog (hG : Gl c n r s) (hr : s.rets.length ≤ 32) (h : Rx s k t) (h1 : (t.works.getD 0 default).state = 4) (h2 : t.pins.getD 0 default ≠ -1) (h3 : (t.works.getD 0 default).data = Qc1 s k) : Fin2 s k (Qdz t k) := by
 have hs := h.small hr hG.gd.sav
 have e0 : (if (t.works.getD 0 default).data = ByteArray.empty then (14 : Int) else 0) = 0 := by rw [h3]; exact Qxu (QpA hG)
 have e : (Qdz t k).evs = [QiD false 0 (rdQ k) 0 ByteArray.empty, QiD true 0 (rdQ k) 0 (Qc1 s k)] := by
  unfold Qdz
  show t.evs ++ [_] = _
  rw [h.evs, e0, h3]
  rfl
 refine ⟨{ hs with pins := by show (t.pins.set 0 (-1)).length ≤ _; rw [QxT]; exact hs.pins, works := by show (t.works.set 0 default).length ≤ _; rw [QxT]; exact hs.works, evs := by rw [e]; show 2 ≤ 1000000; decide }, e, ?_, ?_, ?_, ?_⟩
 ·show ((t.works.set 0 default).getD 0 default).state = 0
  rw [QbA h.wl, Qxt rfl]; rfl
 ·show 0 < (t.works.set 0 default).length
  rw [QxT]; exact h.wl
 ·show 0 < (t.pins.set 0 (-1)).length
  rw [QxT]; exact h.pl
 ·show (t.pins.set 0 (-1)).getD 0 default = -1
  rw [QbA h.pl, Qxt rfl]
theorem Stg.step (hG : Gl c n r s) (hr : s.rets.length ≤ 32) (h : Stg s k i t) (hi : i < 4) (hw : (t.works.getD 0 default).state ≠ 0) :
  ∃ t', Qk t 0 = (t', 0) ∧ t.small ∧ Val t ∧ (i ≠ 1 → Stg s k (i + 1) t') ∧ (i = 1 → t'.map = s.map ∧ t'.cfg = s.cfg ∧ Val t' ∧ ∀ m, MapKeep s.map m s.cfg.blocks → Stg s k 2 { t' with map := m }) := by
 cases h with
 | pin h hi h1 h2 h3 =>
  obtain ⟨e1, e2, e3, e4, e5⟩ := h.pin h1 h2
  subst hi
  exact ⟨_, e1, h.small hr hG.gd.sav, h.val, fun _ => .look e2 rfl (by rw [e3]) e5 (e4.trans h3), fun q => absurd q (by decide)⟩
 | look h hi h1 h2 h3 =>
  obtain ⟨e1, e2, e3, e4, e5⟩ := h.look h1
  subst hi
  refine ⟨_, e1, h.small hr hG.gd.sav, h.val, fun q => absurd rfl q, fun _ => ⟨e4.trans h3, e2.cfg, e2.val, fun m hm => ?_⟩⟩
  have g := e2.map (m := m) (by rw [e4, h3, e2.cfg]; exact hm)
  have hq : (t.works.getD 0 default).req.block = k := by rw [h.req]; rfl
  have hl : QcX t (t.works.getD 0 default) = if (QfX s.map k).1.kind = 1 then { t.works.getD 0 default with ent := (QfX s.map k).1, state := 3 } else { t.works.getD 0 default with ent := (QfX s.map k).1, data := zB, state := 4 } := by
   unfold QcX
   rw [hq, h3]
   rfl
  rw [hl] at e3
  by_cases hk : (QfX s.map k).1.kind = 1
  ·rw [Qxt hk] at e3
   exact .fetch g rfl (by show ((QaG t 0).works.getD 0 default).state = 3; rw [e3]) (by show (QaG t 0).pins.getD 0 default ≠ -1; rw [e5]; exact h2) (by show ((QaG t 0).works.getD 0 default).ent = _; rw [e3]) hk
  ·rw [Qxu hk] at e3
   exact .unpin g (.inl rfl) (by show ((QaG t 0).works.getD 0 default).state = 4; rw [e3]) (by show (QaG t 0).pins.getD 0 default ≠ -1; rw [e5]; exact h2) (by show ((QaG t 0).works.getD 0 default).data = _; rw [e3]; exact (Qxu hk).symm)
 | fetch h hi h1 h2 h3 h4 =>
  obtain ⟨e1, e2, e3, e4⟩ := h.fetch h1
  subst hi
  exact ⟨_, e1, h.small hr hG.gd.sav, h.val, fun _ => .unpin e2 (.inr rfl) (by rw [e3]) (by rw [e4]; exact h2) (by rw [e3]; exact (Qhq hG h4).1 h.dev h3), fun q => absurd q (by decide)⟩
 | unpin h hi h1 h2 h3 =>
  exact ⟨_, h.unpin h1 h2, h.small hr hG.gd.sav, h.val, fun _ => .fin (Qog hG hr h h1 h2 h3) om, fun q => by omega⟩
 | fin h hi => exact absurd h.st hw
theorem Stg.last (h : Stg s k i t) (hn : ¬ (i < 4 ∧ 0 < t.works.length ∧ (t.works.getD 0 default).state ≠ 0)) : Fin2 s k t := by
 cases h with
 | pin h hi h1 h2 h3 => exact absurd ⟨om, h.wl, by rw [h1]; decide⟩ hn
 | look h hi h1 h2 h3 => exact absurd ⟨om, h.wl, by rw [h1]; decide⟩ hn
 | fetch h hi h1 h2 h3 => exact absurd ⟨om, h.wl, by rw [h1]; decide⟩ hn
 | unpin h hi h1 h2 h3 => exact absurd ⟨om, h.wl, by rw [h1]; decide⟩ hn
 | fin h hi => exact h
theorem Stg.wl {i : Nat} (h : Stg s k i t) : 0 < t.works.length := by
 cases h with
 | pin h => exact h.wl
 | look h => exact h.wl
 | fetch h => exact h.wl
 | unpin h => exact h.wl
 | fin h => exact h.wl
end Go.Proofs
end

section
open Go Go.Am
namespace Go.Proofs
set_option maxRecDepth 20000
def begA (s : St) (q : Int) : Bool := QaI s && decide (0 ≤ q ∧ q < s.works.length ∧ (s.works.getD q.toNat default).state = 0) && (Qsx (s.rings.getD q.toNat default)).2.2 && decide (cmdE s.cfg (Qsx (s.rings.getD q.toNat default)).2.1 = 0)
theorem begA_iff {s : St} {q : Int} : begA s q = true ↔ (QaI s = true ∧ 0 ≤ q ∧ q < s.works.length ∧ (s.works.getD q.toNat default).state = 0) ∧ (Qsx (s.rings.getD q.toNat default)).2.2 = true ∧ cmdE s.cfg (Qsx (s.rings.getD q.toNat default)).2.1 = 0 := by
 unfold begA
 simp only [QxA, Qxw]
 exact ⟨fun ⟨⟨⟨a, b⟩, c⟩, d⟩ => ⟨⟨a, b⟩, c, d⟩, fun ⟨⟨a, b⟩, c, d⟩ => ⟨⟨⟨a, b⟩, c⟩, d⟩⟩
set_option maxHeartbeats 8000000 in
theorem QjI (s : St) (hs : s.small) (q : Int) : PS 25 [.a s.cells, .c (.int .i64 q)] (.t [.inr (QrG false s q).1.cells, .inl (.bool (QrG false s q).2)]) := by
 refine PSpec.rm ?_
 have hrl := hs.rings
 have hwl := hs.works
 refine ov hΓ Tryz.func25 90 0 [.cell 4 58, .tmp 5] Tryz.ntmps25 Tryz.results25 ?_
 ((conv=>whnf);(repeat' ((first|refine Nd ?_|refine Hv fun _h=>?_);conv=>whnf)))
 refine QuU Qfc (Qey s hs ) ?_
 ((conv=>whnf);(repeat' ((first|refine Nd ?_|refine Hv fun _h=>?_);conv=>whnf)))
 by_cases hv : QaI s = true
 ·have hp := (validS_V.1 hv).parts
  have hlen : s.rings.length = s.works.length := by have := hp.rings; have := hp.works; omega
  by_cases hq : 0 ≤ q ∧ q < s.works.length
  ·have hq0 := hq.1
   have hq1 := hq.2
   have hq2 : q < s.rings.length := by omega
   have hq1' : q.toNat < s.works.length := by omega
   have hq2' : q.toNat < s.rings.length := by omega
   ((conv=>whnf);(repeat' ((first|refine Nd ?_|refine Hv fun _h=>?_);conv=>whnf)))
   skip
   by_cases hst : (s.works.getD q.toNat default).state = 0
   ·have hc : QaI s = true ∧ 0 ≤ q ∧ q < s.works.length ∧ (s.works.getD q.toNat default).state = 0 := ⟨hv, hq0, hq1, hst⟩
    refine Br.no (QxG.2 fun ebye => by simp [-List.getD_eq_getElem?_getD, -Int.default_eq_zero, hv,hq0,hq2,hst] at ebye <;> grind) ?_; conv=>whnf
    ((conv=>whnf);(repeat' ((first|refine Nd ?_|refine Hv fun _h=>?_);conv=>whnf)))
    refine QuU Qse (QsS (s.rings.getD q.toNat default) (hs.items _) ) ?_
    ((conv=>whnf);(repeat' ((first|refine Nd ?_|refine Hv fun _h=>?_);conv=>whnf)))
    generalize ht : Qsx (s.rings.getD q.toNat default) = t
    obtain ⟨r, x, ok⟩ := t
    cases ok with
    | false =>
     have hA : begA s q = false := Qq fun z => by have := (begA_iff.1 z).2.1; rw [ht] at this; cases this
     refine Br.yes rfl ?_; conv=>whnf
     ((conv=>whnf);(repeat' ((first|refine Nd ?_|refine Hv fun _h=>?_);conv=>whnf)))
     rw [show QrG false s q = (s, false) by unfold QrG; rw [Qxt hc, ht]; rfl]
     exact QuV
    | true =>
     obtain ⟨ser, kind, block, data⟩ := x
     refine Br.no rfl ?_; conv=>whnf
     ((conv=>whnf);(repeat' ((first|refine Nd ?_|refine Hv fun _h=>?_);conv=>whnf)))
     have hln : 0 + s.rings.length = (s.setRing q.toNat r).rings.length := by simp [St.setRing]
     have hfz : ∀ (ρ : Nat → Nat) (m : Nat) (g : Nat → Nat → C) (x : Bool), (∀ i j, j < 2 → g i j = rngG (s.setRing q.toNat r).rings i j) → WC ρ m (fzC 4 (0 + s.rings.length) g (.sl 4 2 (0 + s.rings.length) (0 + s.rings.length) x)) (rngC (s.setRing q.toNat r).rings) := fun ρ m g x hg => WC.fz rfl hln (fun i _ j hj => leF.of_eq (hg i j hj)) (fun e => by cases e)
     by_cases k1 : kind = 1
     ·refine Br.yes (by simpa using k1) ?_
      ((conv=>whnf);(repeat' ((first|refine Nd ?_|refine Hv fun _h=>?_);conv=>whnf)))
      ((conv=>whnf);(repeat' ((first|refine Nd ?_|refine Hv fun _h=>?_);conv=>whnf)))
      refine QuU QdB (QdI s.cfg ⟨ser, kind, block, data⟩ ) ?_
      ((conv=>whnf);(repeat' ((first|refine Nd ?_|refine Hv fun _h=>?_);conv=>whnf)))
      by_cases he : cmdE s.cfg ⟨ser, kind, block, data⟩ = 0
      ·have hb : QrG false s q = ((s.setRing q.toNat r).setWork q.toNat ⟨1, ⟨ser, kind, block, data⟩, default, ByteArray.empty⟩, true) := by
        unfold QrG; rw [Qxt hc, ht]; dsimp only; rw [Qxt rfl, Qxt he, show Qug kind = 1 by unfold Qug; simp [k1]]
       refine Br.no (by rw [he]; rfl) ?_
       ((conv=>whnf);(repeat' ((first|refine Nd ?_|refine Hv fun _h=>?_);conv=>whnf)))
       refine QvJ 4 [1, 2, 4, 7, 9, 10] [] [.vr (s.setRing q.toNat r).cells, .vr (default : St).cells, .vr r.cells, .vr (Req.cells ⟨ser, kind, block, data⟩), .dead, .vr (Wrk.cells ⟨1, ⟨ser, kind, block, data⟩, default, ByteArray.empty⟩)] [.a (s.setRing q.toNat r).cells, .c (.int .i64 q), .a (Wrk.cells ⟨1, ⟨ser, kind, block, data⟩, default, ByteArray.empty⟩)] rfl leN (fun i _ j hj => (QxK C.imm (Qae hq2' rfl i j hj)).trans (Qau _ _)) (by (first|refine wb1 ?_|refine wb2 ?_ ?_|refine wb3 ?_ ?_ ?_|refine wb4 ?_ ?_ ?_ ?_) <;> first | exact hfz _ _ _ _ fun i j hj => Qae hq2' rfl i j hj | exact fun i _ j _ => WC.fzI (QaW _ _)) wb0 (by (first|refine wb1 ?_|refine wb2 ?_ ?_|refine wb3 ?_ ?_ ?_|refine wb4 ?_ ?_ ?_ ?_) <;> first | exact hfz _ _ _ _ fun i j hj => Qae hq2' rfl i j hj | exact fun i _ j _ => WC.fzI (QaW _ _)) leN ?_
       refine QuU QfL (Qg2 (s.setRing q.toNat r) q ⟨1, ⟨ser, kind, block, data⟩, default, ByteArray.empty⟩ hs.works hc.2.1 hc.2.2.1 ) ?_
       ((conv=>whnf);(repeat' ((first|refine Nd ?_|refine Hv fun _h=>?_);conv=>whnf)))
       rw [show QrG false s q = ((s.setRing q.toNat r).setWork q.toNat ⟨1, ⟨ser, kind, block, data⟩, default, ByteArray.empty⟩, true) from hb]
       exact QuV
      ·have hb : QrG false s q = ((s.setRing q.toNat r).addEv (QiD true q ⟨ser, kind, block, data⟩ (cmdE s.cfg ⟨ser, kind, block, data⟩) ByteArray.empty), true) := by
        unfold QrG; rw [Qxt hc, ht]; simp only [Qyo, Qxu he]; rfl
       have hA : begA s q = false := Qq fun z => by have := (begA_iff.1 z).2.2; rw [ht] at this; exact he this
       refine Br.yes (by simpa using he) ?_
       ((conv=>whnf);(repeat' ((first|refine Nd ?_|refine Hv fun _h=>?_);conv=>whnf)))
       refine QvJ 4 [1, 2, 4, 7, 9, 10] [] [.vr (s.setRing q.toNat r).cells, .vr (default : St).cells, .vr r.cells, .vr (Req.cells ⟨ser, kind, block, data⟩), .dead, .vr (Wrk.cells ⟨1, ⟨ser, kind, block, data⟩, default, ByteArray.empty⟩)] [.a (s.setRing q.toNat r).cells, .a (QiD true q ⟨ser, kind, block, data⟩ (cmdE s.cfg ⟨ser, kind, block, data⟩) ByteArray.empty).cells] rfl leN (fun i _ j hj => (QxK C.imm (Qae hq2' rfl i j hj)).trans (Qau _ _)) (by (first|refine wb1 ?_|refine wb2 ?_ ?_|refine wb3 ?_ ?_ ?_|refine wb4 ?_ ?_ ?_ ?_) <;> first | exact hfz _ _ _ _ fun i j hj => Qae hq2' rfl i j hj | exact fun i _ j _ => WC.fzI (QaW _ _)) wb0 (by (first|refine wb1 ?_|refine wb2 ?_ ?_|refine wb3 ?_ ?_ ?_|refine wb4 ?_ ?_ ?_ ?_) <;> first | exact hfz _ _ _ _ fun i j hj => Qae hq2' rfl i j hj | exact fun i _ j _ => WC.fzI (QaW _ _)) leN ?_
       refine QuU Qb5 (Qcp (s.setRing q.toNat r) (QiD true q ⟨ser, kind, block, data⟩ (cmdE s.cfg ⟨ser, kind, block, data⟩) ByteArray.empty) hs.evs ) ?_
       ((conv=>whnf);(repeat' ((first|refine Nd ?_|refine Hv fun _h=>?_);conv=>whnf)))
       rw [hb]
       exact QuV
     ·by_cases k4 : kind = 4
      ·refine Br.no (by simpa using k1) ?_
       ((conv=>whnf);(repeat' ((first|refine Nd ?_|refine Hv fun _h=>?_);conv=>whnf)))
       refine Br.yes (by simpa using k4) ?_
       ((conv=>whnf);(repeat' ((first|refine Nd ?_|refine Hv fun _h=>?_);conv=>whnf)))
       have k41 : ¬ (4 : Int) = 1 := by decide
       ((conv=>whnf);(repeat' ((first|refine Nd ?_|refine Hv fun _h=>?_);conv=>whnf)))
       refine QuU QdB (QdI s.cfg ⟨ser, kind, block, data⟩ ) ?_
       ((conv=>whnf);(repeat' ((first|refine Nd ?_|refine Hv fun _h=>?_);conv=>whnf)))
       by_cases he : cmdE s.cfg ⟨ser, kind, block, data⟩ = 0
       ·have hb : QrG false s q = ((s.setRing q.toNat r).setWork q.toNat ⟨10, ⟨ser, kind, block, data⟩, default, ByteArray.empty⟩, true) := by
         unfold QrG; rw [Qxt hc, ht]; dsimp only; rw [Qxt rfl, Qxt he, show Qug kind = 10 by unfold Qug; simp [k4, k41]]
        refine Br.no (by rw [he]; rfl) ?_
        ((conv=>whnf);(repeat' ((first|refine Nd ?_|refine Hv fun _h=>?_);conv=>whnf)))
        refine QvJ 4 [1, 2, 4, 7, 9, 10] [] [.vr (s.setRing q.toNat r).cells, .vr (default : St).cells, .vr r.cells, .vr (Req.cells ⟨ser, kind, block, data⟩), .dead, .vr (Wrk.cells ⟨10, ⟨ser, kind, block, data⟩, default, ByteArray.empty⟩)] [.a (s.setRing q.toNat r).cells, .c (.int .i64 q), .a (Wrk.cells ⟨10, ⟨ser, kind, block, data⟩, default, ByteArray.empty⟩)] rfl leN (fun i _ j hj => (QxK C.imm (Qae hq2' rfl i j hj)).trans (Qau _ _)) (by (first|refine wb1 ?_|refine wb2 ?_ ?_|refine wb3 ?_ ?_ ?_|refine wb4 ?_ ?_ ?_ ?_) <;> first | exact hfz _ _ _ _ fun i j hj => Qae hq2' rfl i j hj | exact fun i _ j _ => WC.fzI (QaW _ _)) wb0 (by (first|refine wb1 ?_|refine wb2 ?_ ?_|refine wb3 ?_ ?_ ?_|refine wb4 ?_ ?_ ?_ ?_) <;> first | exact hfz _ _ _ _ fun i j hj => Qae hq2' rfl i j hj | exact fun i _ j _ => WC.fzI (QaW _ _)) leN ?_
        refine QuU QfL (Qg2 (s.setRing q.toNat r) q ⟨10, ⟨ser, kind, block, data⟩, default, ByteArray.empty⟩ hs.works hc.2.1 hc.2.2.1 ) ?_
        ((conv=>whnf);(repeat' ((first|refine Nd ?_|refine Hv fun _h=>?_);conv=>whnf)))
        rw [show QrG false s q = ((s.setRing q.toNat r).setWork q.toNat ⟨10, ⟨ser, kind, block, data⟩, default, ByteArray.empty⟩, true) from hb]
        exact QuV
       ·have hb : QrG false s q = ((s.setRing q.toNat r).addEv (QiD true q ⟨ser, kind, block, data⟩ (cmdE s.cfg ⟨ser, kind, block, data⟩) ByteArray.empty), true) := by
         unfold QrG; rw [Qxt hc, ht]; simp only [Qyo, Qxu he]; rfl
        have hA : begA s q = false := Qq fun z => by have := (begA_iff.1 z).2.2; rw [ht] at this; exact he this
        refine Br.yes (by simpa using he) ?_
        ((conv=>whnf);(repeat' ((first|refine Nd ?_|refine Hv fun _h=>?_);conv=>whnf)))
        refine QvJ 4 [1, 2, 4, 7, 9, 10] [] [.vr (s.setRing q.toNat r).cells, .vr (default : St).cells, .vr r.cells, .vr (Req.cells ⟨ser, kind, block, data⟩), .dead, .vr (Wrk.cells ⟨10, ⟨ser, kind, block, data⟩, default, ByteArray.empty⟩)] [.a (s.setRing q.toNat r).cells, .a (QiD true q ⟨ser, kind, block, data⟩ (cmdE s.cfg ⟨ser, kind, block, data⟩) ByteArray.empty).cells] rfl leN (fun i _ j hj => (QxK C.imm (Qae hq2' rfl i j hj)).trans (Qau _ _)) (by (first|refine wb1 ?_|refine wb2 ?_ ?_|refine wb3 ?_ ?_ ?_|refine wb4 ?_ ?_ ?_ ?_) <;> first | exact hfz _ _ _ _ fun i j hj => Qae hq2' rfl i j hj | exact fun i _ j _ => WC.fzI (QaW _ _)) wb0 (by (first|refine wb1 ?_|refine wb2 ?_ ?_|refine wb3 ?_ ?_ ?_|refine wb4 ?_ ?_ ?_ ?_) <;> first | exact hfz _ _ _ _ fun i j hj => Qae hq2' rfl i j hj | exact fun i _ j _ => WC.fzI (QaW _ _)) leN ?_
        refine QuU Qb5 (Qcp (s.setRing q.toNat r) (QiD true q ⟨ser, kind, block, data⟩ (cmdE s.cfg ⟨ser, kind, block, data⟩) ByteArray.empty) hs.evs ) ?_
        ((conv=>whnf);(repeat' ((first|refine Nd ?_|refine Hv fun _h=>?_);conv=>whnf)))
        rw [hb]
        exact QuV
      ·refine Br.no (by simpa using k1) ?_
       ((conv=>whnf);(repeat' ((first|refine Nd ?_|refine Hv fun _h=>?_);conv=>whnf)))
       refine Br.no (by simpa using k4) ?_
       ((conv=>whnf);(repeat' ((first|refine Nd ?_|refine Hv fun _h=>?_);conv=>whnf)))
       ((conv=>whnf);(repeat' ((first|refine Nd ?_|refine Hv fun _h=>?_);conv=>whnf)))
       refine QuU QdB (QdI s.cfg ⟨ser, kind, block, data⟩ ) ?_
       ((conv=>whnf);(repeat' ((first|refine Nd ?_|refine Hv fun _h=>?_);conv=>whnf)))
       by_cases he : cmdE s.cfg ⟨ser, kind, block, data⟩ = 0
       ·have hb : QrG false s q = ((s.setRing q.toNat r).setWork q.toNat ⟨5, ⟨ser, kind, block, data⟩, default, ByteArray.empty⟩, true) := by
         unfold QrG; rw [Qxt hc, ht]; dsimp only; rw [Qxt rfl, Qxt he, show Qug kind = 5 by unfold Qug; simp [k1, k4]]
        refine Br.no (by rw [he]; rfl) ?_
        ((conv=>whnf);(repeat' ((first|refine Nd ?_|refine Hv fun _h=>?_);conv=>whnf)))
        refine QvJ 4 [1, 2, 4, 7, 9, 10] [] [.vr (s.setRing q.toNat r).cells, .vr (default : St).cells, .vr r.cells, .vr (Req.cells ⟨ser, kind, block, data⟩), .dead, .vr (Wrk.cells ⟨5, ⟨ser, kind, block, data⟩, default, ByteArray.empty⟩)] [.a (s.setRing q.toNat r).cells, .c (.int .i64 q), .a (Wrk.cells ⟨5, ⟨ser, kind, block, data⟩, default, ByteArray.empty⟩)] rfl leN (fun i _ j hj => (QxK C.imm (Qae hq2' rfl i j hj)).trans (Qau _ _)) (by (first|refine wb1 ?_|refine wb2 ?_ ?_|refine wb3 ?_ ?_ ?_|refine wb4 ?_ ?_ ?_ ?_) <;> first | exact hfz _ _ _ _ fun i j hj => Qae hq2' rfl i j hj | exact fun i _ j _ => WC.fzI (QaW _ _)) wb0 (by (first|refine wb1 ?_|refine wb2 ?_ ?_|refine wb3 ?_ ?_ ?_|refine wb4 ?_ ?_ ?_ ?_) <;> first | exact hfz _ _ _ _ fun i j hj => Qae hq2' rfl i j hj | exact fun i _ j _ => WC.fzI (QaW _ _)) leN ?_
        refine QuU QfL (Qg2 (s.setRing q.toNat r) q ⟨5, ⟨ser, kind, block, data⟩, default, ByteArray.empty⟩ hs.works hc.2.1 hc.2.2.1 ) ?_
        ((conv=>whnf);(repeat' ((first|refine Nd ?_|refine Hv fun _h=>?_);conv=>whnf)))
        rw [show QrG false s q = ((s.setRing q.toNat r).setWork q.toNat ⟨5, ⟨ser, kind, block, data⟩, default, ByteArray.empty⟩, true) from hb]
        exact QuV
       ·have hb : QrG false s q = ((s.setRing q.toNat r).addEv (QiD true q ⟨ser, kind, block, data⟩ (cmdE s.cfg ⟨ser, kind, block, data⟩) ByteArray.empty), true) := by
         unfold QrG; rw [Qxt hc, ht]; simp only [Qyo, Qxu he]; rfl
        have hA : begA s q = false := Qq fun z => by have := (begA_iff.1 z).2.2; rw [ht] at this; exact he this
        refine Br.yes (by simpa using he) ?_
        ((conv=>whnf);(repeat' ((first|refine Nd ?_|refine Hv fun _h=>?_);conv=>whnf)))
        refine QvJ 4 [1, 2, 4, 7, 9, 10] [] [.vr (s.setRing q.toNat r).cells, .vr (default : St).cells, .vr r.cells, .vr (Req.cells ⟨ser, kind, block, data⟩), .dead, .vr (Wrk.cells ⟨5, ⟨ser, kind, block, data⟩, default, ByteArray.empty⟩)] [.a (s.setRing q.toNat r).cells, .a (QiD true q ⟨ser, kind, block, data⟩ (cmdE s.cfg ⟨ser, kind, block, data⟩) ByteArray.empty).cells] rfl leN (fun i _ j hj => (QxK C.imm (Qae hq2' rfl i j hj)).trans (Qau _ _)) (by (first|refine wb1 ?_|refine wb2 ?_ ?_|refine wb3 ?_ ?_ ?_|refine wb4 ?_ ?_ ?_ ?_) <;> first | exact hfz _ _ _ _ fun i j hj => Qae hq2' rfl i j hj | exact fun i _ j _ => WC.fzI (QaW _ _)) wb0 (by (first|refine wb1 ?_|refine wb2 ?_ ?_|refine wb3 ?_ ?_ ?_|refine wb4 ?_ ?_ ?_ ?_) <;> first | exact hfz _ _ _ _ fun i j hj => Qae hq2' rfl i j hj | exact fun i _ j _ => WC.fzI (QaW _ _)) leN ?_
        refine QuU Qb5 (Qcp (s.setRing q.toNat r) (QiD true q ⟨ser, kind, block, data⟩ (cmdE s.cfg ⟨ser, kind, block, data⟩) ByteArray.empty) hs.evs ) ?_
        ((conv=>whnf);(repeat' ((first|refine Nd ?_|refine Hv fun _h=>?_);conv=>whnf)))
        rw [hb]
        exact QuV
   ·have hA : begA s q = false := Qq fun z => hst (begA_iff.1 z).1.2.2.2
    refine Br.yes (QxC fun ebye => hst (by simp [-List.getD_eq_getElem?_getD, -Int.default_eq_zero] at ebye <;> grind)) ?_; conv=>whnf
    ((conv=>whnf);(repeat' ((first|refine Nd ?_|refine Hv fun _h=>?_);conv=>whnf)))
    rw [show QrG false s q = (s, false) from Qxu fun z => hst z.2.2.2]
    exact QuV
  ·have hA : begA s q = false := Qq fun z => hq ⟨(begA_iff.1 z).1.2.1, (begA_iff.1 z).1.2.2.1⟩
   have hq' : ¬ (0 ≤ q ∧ q < s.rings.length) := by omega
   ((conv=>whnf);(repeat' ((first|refine Nd ?_|refine Hv fun _h=>?_);conv=>whnf)))
   skip
   refine Br.yes (QxC fun ebye => hq' (by simp [-List.getD_eq_getElem?_getD, -Int.default_eq_zero] at ebye <;> grind)) ?_; conv=>whnf
   ((conv=>whnf);(repeat' ((first|refine Nd ?_|refine Hv fun _h=>?_);conv=>whnf)))
   rw [show QrG false s q = (s, false) from Qxu fun z => hq ⟨z.2.1, z.2.2.1⟩]
   exact QuV
 ·have hA : begA s q = false := Qq fun z => hv (begA_iff.1 z).1.1
  ((conv=>whnf);(repeat' ((first|refine Nd ?_|refine Hv fun _h=>?_);conv=>whnf)))
  skip
  refine Br.yes (QxC fun ebye => hv (by simp [-List.getD_eq_getElem?_getD, -Int.default_eq_zero] at ebye <;> grind)) ?_; conv=>whnf
  ((conv=>whnf);(repeat' ((first|refine Nd ?_|refine Hv fun _h=>?_);conv=>whnf)))
  rw [show QrG false s q = (s, false) from Qxu fun z => hv z.1]
  exact QuV
theorem Qks : HB 25 := hB Tryz.func25
def rs0 : St := Qs (Q7 dice0)
def rs1 : St := (Qo4 rs0 0 (rdQ 0)).1
def rs2 : St := (QrG false rs1 0).1
def rs3 : St := (Qk rs2 0).1
def rs4 : St := (Qk rs3 0).1
def rs5 : St := (Qk rs4 0).1
theorem rf1 : (Qo4 rs0 0 (rdQ 0)).2 = 0 := by decide +kernel
theorem rf2 : (QrG false rs1 0).2 = true := by decide +kernel
theorem rf3 : (Qk rs2 0).2 = 0 := by decide +kernel
theorem rf4 : (Qk rs3 0).2 = 0 := by decide +kernel
theorem rf5 : (Qk rs4 0).2 = 0 := by decide +kernel
theorem rf6 : (Qk rs5 0).2 = 6 := by decide +kernel
theorem rf7 : rs5.evs.length = 2 := by decide +kernel
theorem rf8 : (rs5.evs.getD 1 default).ret = true ∧ (rs5.evs.getD 1 default).rdata = zB := by decide +kernel
theorem rk1 : Wk24 rs1 := Qi2 (by decide +kernel)
theorem rk2 : Wk24 rs2 := Qi2 (by decide +kernel)
theorem rk3 : Wk24 rs3 := Qi2 (by decide +kernel)
theorem rk4 : Wk24 rs4 := Qi2 (by decide +kernel)
theorem rk5 : Wk24 rs5 := Qi2 (by decide +kernel)
set_option maxHeartbeats 4000000 in
theorem Qfa : PS 19 [] (.c (.bool true)) := by
 have hn : PS 55 [.a (Q7 dice0).cells] (.t [.inr rs0.cells, .inl (.int .i64 0)]) := Qna (Q7 dice0) (QfV dice0)
 have hs := Qh1 rs0 w0.sm 0 (rdQ 0)
 rw [show Qo4 rs0 0 (rdQ 0) = (rs1, 0) by rw [← rf1]; rfl] at hs
 have hb := QjI rs1 rk1.sm 0
 rw [show QrG false rs1 0 = (rs2, true) by rw [← rf2]; rfl] at hb
 have h3 := Qbp rs2 rk2.sm [] rk2.all 0
 rw [show Qk rs2 0 = (rs3, 0) by rw [← rf3]; rfl] at h3
 have h4 := Qbp rs3 rk3.sm [] rk3.all 0
 rw [show Qk rs3 0 = (rs4, 0) by rw [← rf4]; rfl] at h4
 have h5 := Qbp rs4 rk4.sm [] rk4.all 0
 rw [show Qk rs4 0 = (rs5, 0) by rw [← rf5]; rfl] at h5
 have h6 := Qbp rs5 rk5.sm [] rk5.all 0
 rw [show Qk rs5 0 = ((Qk rs5 0).1, 6) by rw [← rf6]] at h6
 have e7 := rf7
 obtain ⟨e8, e9⟩ := rf8
 generalize (Qk rs5 0).1 = s6 at *
 generalize rs5 = s5 at *
 generalize rs4 = s4 at *
 generalize rs3 = s3 at *
 generalize rs2 = s2 at *
 generalize rs1 = s1 at *
 generalize rs0 = s0 at *
 refine PSpec.rm ?_
 refine ov hΓ Tryz.func19 83 0 [.tmp 0] Tryz.ntmps19 Tryz.results19 ?_
 ((conv=>whnf);(repeat' ((first|refine Nd ?_|refine Hv fun _h=>?_);conv=>whnf)))
 refine CallN.autoQ [] Qkm (Qk3 [] (Qxx _)) ?_; conv=>whnf
 ((conv=>whnf);(repeat' ((first|refine Nd ?_|refine Hv fun _h=>?_);conv=>whnf)))
 refine CallN.autoQ [0] Qjs (QiT dice0 Qte) ?_; conv=>whnf
 ((conv=>whnf);(repeat' ((first|refine Nd ?_|refine Hv fun _h=>?_);conv=>whnf)))
 refine QuU Qm6 hn ?_
 ((conv=>whnf);(repeat' ((first|refine Nd ?_|refine Hv fun _h=>?_);conv=>whnf)))
 refine QuU QhQ hs ?_
 ((conv=>whnf);(repeat' ((first|refine Nd ?_|refine Hv fun _h=>?_);conv=>whnf)))
 refine QuU Qks hb ?_
 ((conv=>whnf);(repeat' ((first|refine Nd ?_|refine Hv fun _h=>?_);conv=>whnf)))
 refine QuU Qa5 h3 ?_
 ((conv=>whnf);(repeat' ((first|refine Nd ?_|refine Hv fun _h=>?_);conv=>whnf)))
 refine QuU Qa5 h4 ?_
 ((conv=>whnf);(repeat' ((first|refine Nd ?_|refine Hv fun _h=>?_);conv=>whnf)))
 refine QuU Qa5 h5 ?_
 ((conv=>whnf);(repeat' ((first|refine Nd ?_|refine Hv fun _h=>?_);conv=>whnf)))
 refine QuU Qa5 h6 ?_
 ((conv=>whnf);(repeat' ((first|refine Nd ?_|refine Hv fun _h=>?_);conv=>whnf)))
 refine Qvd hΓ hMix [4294967296] [] (by kernel_rfl) ?_; conv=>whnf
 ((conv=>whnf);(repeat' ((first|refine Nd ?_|refine Hv fun _h=>?_);conv=>whnf)))
 refine Need.mk (fun _ i _ => ⟨0, rfl⟩) ?_
 ((conv=>whnf);(repeat' ((first|refine Nd ?_|refine Hv fun _h=>?_);conv=>whnf)))
 refine Qv8 ?_
 dsimp only
 rw [e7, show (Int.toNat 1) = 1 from rfl, e8, e9]
 exact Qxz (show zB = _ from rfl)
theorem QdX : HB 19 := hB Tryz.func19
end Go.Proofs
end
