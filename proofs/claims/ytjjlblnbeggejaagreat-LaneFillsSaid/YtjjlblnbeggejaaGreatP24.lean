/- Contracts, lemmas; no condition. -/
import Derived.Test.YtjjlblnbeggejaaGreatP23
import Derived.Test.YtjjlblnbeggejaaGreatP10
import Derived.Test.YtjjlblnbeggejaaGreatP16
import Derived.Test.YtjjlblnbeggejaaGreatP15
import Derived.Test.YtjjlblnbeggejaaGreatEnv
import Derived.Test.YtjjlblnbeggejaaGreatP21
import Derived.Test.YtjjlblnbeggejaaGreatP18
set_option linter.all false
section
open Go Go.Am
namespace Go.Proofs
set_option maxRecDepth 20000
theorem QoH {l : List Int} (h : l.Pairwise (· < ·)) (h0 : ∀ x ∈ l, 0 ≤ x) {n : Int} (hn : ∀ x ∈ l, x < n) : (l.length : Int) ≤ max n 0 := by
 have key : ∀ i (hi : i < l.length), (i : Int) ≤ l[i] := by
  intro i
  induction i with
  | zero => intro hi; exact h0 _ (List.getElem_mem hi)
  | succ i ih =>
   intro hi
   have h1 := ih (by omega)
   have h2 := List.pairwise_iff_getElem.1 h i (i + 1) (by omega) hi (by omega)
   omega
 by_cases c : l.length = 0
 ·rw [c]; simp; omega
 ·have h1 := key (l.length - 1) (by omega)
  have h2 := hn _ (List.getElem_mem (l := l) (n := l.length - 1) (by omega))
  omega
theorem QgT {m : List (List Ent)} (h : Qx m = true) {n : Int} (hb : QaJ m n = true) (h0 : 0 ≤ n) (i : Nat) : ((m.getD i default).length : Int) ≤ n := by
 by_cases c : i < m.length
 ·have hg := Qch h c
  have ha := QeS hg.1
  have := QoH (l := (m.getD i default).map Ent.block) (List.pairwise_map.2 ha) (fun x hx => by
   obtain ⟨e, he, rfl⟩ := List.mem_map.1 hx
   have := Qdw hg.1 he
   unfold QaQ at this
   rw [decide_eq_true_eq] at this
   exact this.2.2.2.2.2.1) (n := n) (fun x hx => by
   obtain ⟨e, he, rfl⟩ := List.mem_map.1 hx
   exact blocksIn_iff.1 hb i c e he)
  rw [List.length_map] at this
  omega
 ·rw [show m.getD i default = [] by simp [List.getD, Nat.le_of_not_lt c]; rfl]
  simpa using h0
theorem Qrg {d : Dev} (h : check d = 0) : d.small ∧ d.zones.length ≤ 32 ∧ d.size ≤ 64 ∧ ∀ i, (d.zones.getD i default).sectors.length ≤ 64 := by
 have ho := check_ok.1 h
 have hc := ho.conf
 unfold Qbg at hc
 rw [decide_eq_true_eq] at hc
 have hz : ∀ i, (d.zones.getD i default).sectors.length ≤ 64 := fun i => by
  by_cases c : i < d.zones.length
  ·have := QkH (ho.zones (d.zones.getD i default) (by rw [Qu _ _ c]; exact List.getElem_mem c))
   rw [Qu _ _ c] at this ⊢
   omega
  ·rw [show d.zones.getD i default = default by simp [List.getD, Nat.le_of_not_lt c]]
   exact Nat.zero_le _
 exact ⟨⟨by omega, fun i => by have := hz i; omega⟩, by omega, by omega, hz⟩
theorem Val.small {s : St} (h : Val s) (hr : s.rets.length ≤ 1000000) (he : s.evs.length ≤ 1000000) (h1 : s.sav.ents.length ≤ 1000000) (h2 : s.sav.recs.length ≤ 1000000) : s.small := by
 have hp := h.parts
 have hc := confR_iff.1 (QR hp.cfg).1
 have hm := Qbw hp.map
 have hd := Qrg hp.dev
 have hcn := countsOk_iff2.1 hp.counts
 have hl := locksOk_iff2.1 hp.locks
 have hep := epochs_iff.1 hp.epochs
 have hpo := poolOk_P.1 hp.pool
 have hf := QoH hpo.asc (fun x hx => (QaC (hpo.data x hx)).1) (n := 32) (fun x hx => by have := (QaC (hpo.data x hx)).2.1; omega)
 have r1 := hp.rings
 have r2 := hp.works
 refine ⟨hd.1, by omega, fun i => by have := QgT hp.map hp.blocks (by omega) i; omega, by omega, by omega, by omega, by omega, hr, by omega, by omega, fun i => ?_, by omega, h1, h2, he⟩
 by_cases c : i < s.rings.length
 ·have := (ringOk_R.1 (h.queues i c).ring).1
  omega
 ·rw [show s.rings.getD i default = default by simp [List.getD, Nat.le_of_not_lt c]]
  exact Nat.zero_le _
variable {c : Conf} {n : Int} {r e : Nat}
theorem Gd.small {s : St} (h : Gd c n r e s) (hr : r ≤ 1000000) (he : e ≤ 1000000) : s.small :=
 h.val.small (by have := h.rets; omega) (by have := h.evs; omega) (by rw [h.sav]; exact Nat.zero_le _) (by rw [h.sav]; exact Nat.zero_le _)
theorem Qda (s : St) (x : Ent) (z : Int) : (s.copied x z).works = s.works := by obtain ⟨_, _, _, q⟩ := Qer s x z; rw [q]
end Go.Proofs
end

section
open Go Go.Am
namespace Go.Proofs
set_option maxRecDepth 20000
structure Gq (c : Conf) (n : Int) (r : Nat) (s : St) : Prop where
 gd : Gd c n r 0 s
 rings : s.rings = (Qs c).rings
 works : s.works = (Qs c).works
 serial : s.serial = 0
variable {c : Conf} {n : Int} {r e : Nat}
theorem Gq.weak {n' : Int} {r' : Nat} {s : St} (h : Gq c n r s) (h1 : n ≤ n') (h2 : r ≤ r') : Gq c n' r' s := ⟨h.gd.weak h1 h2 (Nat.le_refl _), h.rings, h.works, h.serial⟩
theorem Qs8 {c : Conf} (h : QB c = 0) : Gq c 1 0 (Qs c) := ⟨QsK h, rfl, rfl, rfl⟩
theorem Gq.small {s : St} (h : Gq c n r s) (hr : r ≤ 1000000) : s.small := h.gd.small hr (Nat.zero_le _)
theorem Gq.bump {s : St} (h : Gq c n r s) (hn : n ≤ 1000000) : Gq c (n + 1) r s.bump := ⟨h.gd.bump hn, h.rings, h.works, h.serial⟩
theorem Gq.add {s : St} (h : Gq c n r s) (z : Int) {x : Rec} (hx : x.block < c.blocks) : Gq c n r (s.add z x) := by
 have hv := h.gd.add z (x := x) hx
 obtain ⟨d, l, m, q⟩ := Qk9 s z x
 rw [q] at hv ⊢
 exact ⟨hv, h.rings, h.works, h.serial⟩
theorem Gq.addF {p : DS} (h : Gq c n r p.2) (hn : n ≤ 1000000) (z : Int) : Gq c (n + 1) r (addF z p).2 := by
 have hb := Qcf h.gd.conf
 exact (h.bump hn).add z (by rw [h.gd.cfg]; exact (Qf8 _ hb.1 hb.2).2)
theorem Gq.addTo {p : DS} (h : Gq c n r p.2) (z : Int) : ∀ k : Nat, n + k ≤ 1000000 → Gq c (n + k) r (addTo z p k).2
 | 0, _ => h.weak (by omega) (Nat.le_refl _)
 | k + 1, hk => ((Gq.addTo h z k (by omega)).addF (by omega) z).weak (by omega) (Nat.le_refl _)
theorem Gq.put {s : St} (h : Gq c n r s) (z : Int) (x : Rec) : Gq c n r (s.put z x) := ⟨h.gd.put z x, h.rings, h.works, h.serial⟩
theorem Gq.pool {s : St} (h : Gq c n r s) {f : List Int} {a b : Int} (h1 : PoolOk c f a b) : Gq c n r { s with free := f, host := a, lane := b } := ⟨h.gd.pool h1, h.rings, h.works, h.serial⟩
theorem Gq.unfree {s : St} (h : Gq c n r s) (z : Int) : Gq c n r (s.unfree z) := h.pool (h.gd.poolOk.without z)
theorem Gq.fullF {p : DS} (h : Gq c n r p.2) (z : Int) (hn : n + c.size ≤ 1000000) : Gq c (n + c.size) r (fullF z p).2 := by
 have hr := confR_iff.1 (QR h.gd.conf).1
 have h1 := h.addTo z (p.2.cfg.size - 1).toNat (by rw [h.gd.cfg]; omega)
 exact (h1.put z _).weak (by rw [h.gd.cfg]; omega) (Nat.le_refl _)
theorem Gq.setHost {s : St} (h : Gq c n r s) (hf : 0 < s.free.length) : Gq c n r { (s.unfree (s.free.getD 0 default)) with host := s.free.getD 0 default } := h.pool (h.gd.poolOk.setHost (free0 hf))
theorem Gq.setLane {s : St} (h : Gq c n r s) (hf : 0 < s.free.length) : Gq c n r { (s.unfree (s.free.getD 0 default)) with lane := s.free.getD 0 default } := h.pool (h.gd.poolOk.setLane (free0 hf))
theorem Gq.copied {s : St} (h : Gq c n r s) (x : Ent) (z : Int) : Gq c n r (s.copied x z) := by
 have hv := h.gd.copied x z
 obtain ⟨d, l, m, q⟩ := Qer s x z
 rw [q] at hv ⊢
 exact ⟨hv, h.rings, h.works, h.serial⟩
theorem Gq.retire {s : St} (h : Gq c n r s) (i : Int) : Gq c n (r + 1) { s with rets := (Qas s.glob s.pins s.rets i).1 } := by
 refine ⟨⟨h.gd.val.withEpochs (Qnm h.gd.val.parts.epochs i) rfl, h.gd.cfg, h.gd.next, ?_, h.gd.evs, h.gd.sav⟩, h.rings, h.works, h.serial⟩
 show (Qas s.glob s.pins s.rets i).1.length ≤ _
 have := h.gd.rets
 unfold Qas
 split
 ·simp; omega
 ·show s.rets.length ≤ _
  omega
theorem Gq.adv {s : St} (h : Gq c n r s) : Gq c n r { s with glob := (advM s.glob s.pins s.rets).1 } :=
 ⟨⟨h.gd.val.withEpochs (QqS h.gd.val.parts.epochs) rfl, h.gd.cfg, h.gd.next, h.gd.rets, h.gd.evs, h.gd.sav⟩, h.rings, h.works, h.serial⟩
theorem Gq.flags {s : St} (h : Gq c n r s) (a b : Bool) : Gq c n r { s with want := a, closed := b } :=
 ⟨⟨⟨{ h.gd.val.parts with }, h.gd.val.queues, h.gd.val.evs⟩, h.gd.cfg, h.gd.next, h.gd.rets, h.gd.evs, h.gd.sav⟩, h.rings, h.works, h.serial⟩
theorem Gq.sync {s : St} (h : Gq c n r s) : Gq c n r { s with dev := Qbo s.dev } := ⟨⟨h.gd.val.sync, h.gd.cfg, h.gd.next, h.gd.rets, h.gd.evs, h.gd.sav⟩, h.rings, h.works, h.serial⟩
def Und (s : St) : Prop := ∀ i, i < s.works.length → Qid (s.works.getD i default) = true → (s.works.getD i default).ent.version ≤ s.next
def Inc (l : List Evt) : Prop := ∀ i j, i < j → j < l.length → (l.getD i default).ret = false → (l.getD j default).ret = false → (l.getD i default).serial < (l.getD j default).serial
structure Gs (c : Conf) (n : Int) (e : Nat) (s : St) : Prop where
 gd : Gd c n 32 e s
 hist : Hist s
 und : Und s
 serial : s.serial ≤ e
 inc : Inc s.evs
theorem Gs.weak {n' : Int} {e' : Nat} {s : St} (h : Gs c n e s) (h1 : n ≤ n') (h2 : e ≤ e') : Gs c n' e' s := ⟨h.gd.weak h1 (Nat.le_refl _) h2, h.hist, h.und, by have := h.serial; omega, h.inc⟩
theorem Gs.small {s : St} (h : Gs c n e s) (he : e ≤ 1000000) : s.small := h.gd.small (by decide) he
theorem Gs.len {s : St} (h : Gs c n e s) : s.rings.length = s.works.length ∧ s.rings.length ≤ 4 ∧ (s.works.length : Int) = c.queues := by
 have h1 := h.gd.val.parts.rings
 have h2 := h.gd.val.parts.works
 have h3 := confR_iff.1 (QR h.gd.conf).1
 rw [h.gd.cfg] at h1 h2
 omega
theorem Up.keep {s t : St} {k : Nat} (h : Up s t k) : t.next = s.next ∧ t.rets = s.rets ∧ t.sav = s.sav ∧ t.cfg = s.cfg := by
 obtain ⟨_, _, _, _, _, q⟩ := h.eq
 rw [q]
 exact ⟨rfl, rfl, rfl, rfl⟩
end Go.Proofs
end

section
open Go Go.Am
namespace Go.Proofs
set_option maxRecDepth 20000
theorem Fw.ints {H : List O} {id e n t : Nat} {x : Bool} {g : Nat → Nat → C} {l : List Int} (hid : getL H id = some (.arr e 1 n g)) (ht : t = n) (hn : n = l.length) (hg : ∀ i, i < n → ∀ j, j < 1 → g i j = QaK .i64 l i j) : Fw H (.sl id 1 t t x) (Qh l) := by
 subst ht
 exact Fw.slP hid rfl hn hg (fun _ _ => rfl)
theorem Qiw (a b : List Int) (z : Int) (ha : a.length ≤ 1000000) (hb : b.length ≤ 1000000) : PS 133 [.a [Qh a, Qh b], .c (.int .i64 z)] (.c (.bool (hasC a b z))) := by
 refine PSpec.rm ?_
 refine ov0 hΓ Tryz.func133 18 0 [.tmp 4] Tryz.ntmps133 Tryz.results133 ?_
 refine CallN.pureA QbK (QbD a b ha hb ) (Go0 ?_)
 refine RM.immW rfl (WS.c (WC.bool ?_))
 rw [Bool.eq_iff_iff, hasC_iff]
 simp
 grind
theorem Qju : HB 133 := hB Tryz.func133
theorem QdF (l : List Int) (i n : Int) (hl : l.length ≤ 1000000) (h0 : 0 ≤ i) (h1 : i < l.length) (hw : IntKind.i64.wrap (l.getD i.toNat default + n) = l.getD i.toNat default + n) : PS 261 [.c (Qh l), .c (.int .i64 i), .c (.int .i64 n)] (.c (Qh (QbR l i n))) := by
 have hi : i.toNat < l.length := by omega
 refine PSpec.rm ?_
 refine ov0 hΓ Tryz.func261 21 0 [.tmp 6] Tryz.ntmps261 Tryz.results261 ?_
 refine Frc.mk (.c (.int .i64 (l.getD i.toNat default))) rfl (Go0 ?_)
 refine RM.allC (Fw.ints rfl rfl (by simp) ?_)
 intro a _ b hb
 refine (Qnd hi a b hb).trans ?_
 unfold QbR
 rw [hw]
theorem QdA : HB 261 := hB Tryz.func261
set_option maxHeartbeats 4000000 in
theorem Qge (a b : List Int) (o f : Ent) (had is : Bool) (ha : a.length ≤ 1000000) (hb : b.length ≤ 1000000) : PS 204 [.a [Qh a, Qh b], .a o.cells, .a f.cells, .c (.bool had), .c (.bool is)] (.t [.inr [Qh (Qar a b o.zone f.zone had is).1, Qh b], .inl (.bool (Qar a b o.zone f.zone had is).2)]) := by
 refine PSpec.rm ?_
 refine ov0 hΓ Tryz.func204 61 0 [.cell 10 34, .tmp 11] Tryz.ntmps204 Tryz.results204 ?_
 refine CallN.pureA QbK (QbD a b ha hb ) (Go0 ?_)
 refine CallG.auto Qju (fun _ => Qiw a b o.zone ha hb ) (Go0 ?_)
 refine CallG.auto Qju (fun _ => Qiw a b f.zone ha hb ) (Go0 ?_)
 refine Need.mk (fun h => by rw [h]; rfl) (Go0 ?_)
 by_cases c : Qr a b = true ∧ (had = true → hasC a b o.zone = true) ∧ (is = true → hasC a b f.zone = true)
 ·have c2 := countsOk_iff2.1 c.1
  refine Br.no (by cases had <;> cases is <;> simp_all) ?_
  refine Go0 ?_
  cases had <;> cases is
  ·refine Br.no rfl (Go0 ?_)
   refine Br.no rfl (Go0 ?_)
   refine CallN.pureA QbK (QbD a b ha hb ) (Go0 ?_)
   by_cases hv : Qr (Qc9 a o.zone f.zone false false) b = true
   ·refine Br.no (congrArg not hv) (Go0 ?_)
    rw [show Qar a b o.zone f.zone false false = (Qc9 a o.zone f.zone false false, true) from if_pos ⟨c.1, c.2.1, c.2.2, hv⟩]
    exact RM.i0
   ·refine Br.yes (congrArg not (Qq hv)) (Go0 ?_)
    rw [show Qar a b o.zone f.zone false false = (a, false) from if_neg (fun k => hv k.2.2.2)]
    exact RM.i0
  ·have c4 := hasC_iff.1 (c.2.2 rfl)
   have c5 := c2.2 f.zone.toNat (by omega)
   refine Br.no rfl (Go0 ?_)
   refine Br.yes rfl (Go0 ?_)
   refine CallN.pureA QdA (QdF a f.zone 1 ha c4.2.1 c4.2.2 (Qa _ (by omega) (by omega)) ) (Go0 ?_)
   refine CallN.pureA QbK (QbD (QbR a f.zone 1) b (by simpa using ha) hb ) (Go0 ?_)
   by_cases hv : Qr (Qc9 a o.zone f.zone false true) b = true
   ·refine Br.no (congrArg not hv) (Go0 ?_)
    rw [show Qar a b o.zone f.zone false true = (Qc9 a o.zone f.zone false true, true) from if_pos ⟨c.1, c.2.1, c.2.2, hv⟩]
    exact RM.i0
   ·refine Br.yes (congrArg not (Qq hv)) (Go0 ?_)
    rw [show Qar a b o.zone f.zone false true = (a, false) from if_neg (fun k => hv k.2.2.2)]
    exact RM.i0
  ·have c4 := hasC_iff.1 (c.2.1 rfl)
   have c5 := c2.2 o.zone.toNat (by omega)
   refine Br.yes rfl (Go0 ?_)
   refine CallN.pureA QdA (QdF a o.zone (-1) ha c4.2.1 c4.2.2 (Qa _ (by omega) (by omega)) ) (Go0 ?_)
   refine Br.no rfl (Go0 ?_)
   refine CallN.pureA QbK (QbD (QbR a o.zone (-1)) b (by simpa using ha) hb ) (Go0 ?_)
   by_cases hv : Qr (Qc9 a o.zone f.zone true false) b = true
   ·refine Br.no (congrArg not hv) (Go0 ?_)
    rw [show Qar a b o.zone f.zone true false = (Qc9 a o.zone f.zone true false, true) from if_pos ⟨c.1, c.2.1, c.2.2, hv⟩]
    exact RM.i0
   ·refine Br.yes (congrArg not (Qq hv)) (Go0 ?_)
    rw [show Qar a b o.zone f.zone true false = (a, false) from if_neg (fun k => hv k.2.2.2)]
    exact RM.i0
  ·have c4 := hasC_iff.1 (c.2.1 rfl)
   have c5 := c2.2 o.zone.toNat (by omega)
   have c6 := hasC_iff.1 (c.2.2 rfl)
   have c7 := c2.2 f.zone.toNat (by omega)
   have c8 := Qpg (n := -1) c4.2.1 c4.2.2 f.zone.toNat
   have c9 : -1 ≤ (QbR a o.zone (-1)).getD f.zone.toNat default ∧ (QbR a o.zone (-1)).getD f.zone.toNat default ≤ 1099511627776 := by
    rw [c8]; split <;> omega
   refine Br.yes rfl (Go0 ?_)
   refine CallN.pureA QdA (QdF a o.zone (-1) ha c4.2.1 c4.2.2 (Qa _ (by omega) (by omega)) ) (Go0 ?_)
   refine Br.yes rfl (Go0 ?_)
   refine CallN.pureA QdA (QdF (QbR a o.zone (-1)) f.zone 1 (by simpa using ha) c6.2.1 (by simpa using c6.2.2) (Qa _ (by omega) (by omega)) ) (Go0 ?_)
   refine CallN.pureA QbK (QbD (QbR (QbR a o.zone (-1)) f.zone 1) b (by simpa using ha) hb ) (Go0 ?_)
   by_cases hv : Qr (Qc9 a o.zone f.zone true true) b = true
   ·refine Br.no (congrArg not hv) (Go0 ?_)
    rw [show Qar a b o.zone f.zone true true = (Qc9 a o.zone f.zone true true, true) from if_pos ⟨c.1, c.2.1, c.2.2, hv⟩]
    exact RM.i0
   ·refine Br.yes (congrArg not (Qq hv)) (Go0 ?_)
    rw [show Qar a b o.zone f.zone true true = (a, false) from if_neg (fun k => hv k.2.2.2)]
    exact RM.i0
 ·refine Br.yes (by
   refine Decidable.byContradiction fun e => c ?_
   cases had <;> cases is <;> simp_all) ?_
  refine Go0 ?_
  rw [show Qar a b o.zone f.zone had is = (a, false) from if_neg (fun k => c ⟨k.1, k.2.1, k.2.2.1⟩)]
  exact RM.i0
theorem Qgd : HB 204 := hB Tryz.func204
theorem Qq7 (n : Int) (hn : 0 ≤ n ∧ n < 256) : PS 187 [.c (.int .i64 n), .c (.int .i64 1)] (.t [.inl (.str (putS n 1)), .inl (.int .i64 0)]) := by
 refine PSpec.rm ?_
 refine ov0 hΓ Tryz.func187 44 0 [.tmp 4, .tmp 5] Tryz.ntmps187 Tryz.results187 ?_
 have e : IntKind.i64.wrap (1 * 2 ^ min (IntKind.u64.wrap (IntKind.i64.wrap (8 * 1))).toNat IntKind.i64.bits) = 256 := by decide
 refine Br.no (by rw [e]; simp; omega) (Go0 ?_)
 refine Lp.mk hΓ (ι := Nat) (fun k => [(7, .c (.int .i64 k)), (6, .c (.sl 0 1 1 1 true)), (0, .c (.int .i64 n)), (1, .c (.int .i64 1))]) (fun k => [.arr 5 1 1 (putG n k)]) (fun k => k ≤ 1) (fun k => 1 - k) 0 (Nat.zero_le _) ?_ ?_
 ·exact Mv.mk' 1 rfl ⟨O.wk.arr rfl (fun i hi j hj => by
   have hj : j < 1 := hj
   have : j = 0 := by omega
   subst this
   exact wkC.imm rfl), trivial⟩ ⟨wkS.imm rfl, wkS.c (wkC.sl (by decide) rfl rfl (fun _ => rfl)), wkS.imm rfl, wkS.imm rfl, trivial⟩ (Nat.zero_le _)
 ·intro k hk
  refine Go0 ?_
  refine Br.of (fun h=>Go0 ?_) (fun h=>Go0 ?_)
  ·refine Need.mk (by rw [IntKind.wrap_u64]; omega) (Go0 ?_)
   have w0 := Qa (↑k + 1) (by omega) (by omega)
   refine ⟨k + 1, by omega, by omega, Mv.mk' 1 rfl ⟨O.wk.arr rfl (fun i hi j hj => wkC.of_eq (Qik _ _ _ _) ?_), trivial⟩ ⟨wkS.c (wkC.int (by rw [w0]; rfl)), wkS.c (wkC.sl (by decide) rfl rfl (fun e => e)), wkS.imm rfl, wkS.imm rfl, trivial⟩ (Nat.zero_le _)⟩
   have hj : j = 0 := by omega
   subst hj
   rw [QX]
   simp only [putG, putB, Int.toNat_natCast]
   by_cases c : i = k
   ·subst c
    simp
   ·rw [if_neg (by simp [c])]
    by_cases c2 : i < k
    ·rw [if_pos c2, if_pos (by omega)]
    ·rw [if_neg c2, if_neg (by omega)]
  ·have : k = 1 := by omega
   subst this
   refine Need.mk (fun i hi => ⟨putB n i, by simp only [putG]; rw [if_pos hi]⟩) (Go0 ?_)
   exact RM.imm rfl (wkS.t ⟨wkC.str (Qip n 1), wkC.imm rfl, trivial⟩)
theorem QkB (n : Int) (hn : 0 ≤ n ∧ n < 4294967296) : PS 187 [.c (.int .i64 n), .c (.int .i64 4)] (.t [.inl (.str (putS n 4)), .inl (.int .i64 0)]) := by
 refine PSpec.rm ?_
 refine ov0 hΓ Tryz.func187 44 0 [.tmp 4, .tmp 5] Tryz.ntmps187 Tryz.results187 ?_
 have e : IntKind.i64.wrap (1 * 2 ^ min (IntKind.u64.wrap (IntKind.i64.wrap (8 * 4))).toNat IntKind.i64.bits) = 4294967296 := by decide
 refine Br.no (by rw [e]; simp; omega) (Go0 ?_)
 refine Lp.mk hΓ (ι := Nat) (fun k => [(7, .c (.int .i64 k)), (6, .c (.sl 0 1 4 4 true)), (0, .c (.int .i64 n)), (1, .c (.int .i64 4))]) (fun k => [.arr 5 1 4 (putG n k)]) (fun k => k ≤ 4) (fun k => 4 - k) 0 (Nat.zero_le _) ?_ ?_
 ·exact Mv.mk' 1 rfl ⟨O.wk.arr rfl (fun i hi j hj => by
   have hj : j < 1 := hj
   have : j = 0 := by omega
   subst this
   exact wkC.imm rfl), trivial⟩ ⟨wkS.imm rfl, wkS.c (wkC.sl (by decide) rfl rfl (fun _ => rfl)), wkS.imm rfl, wkS.imm rfl, trivial⟩ (Nat.zero_le _)
 ·intro k hk
  refine Go0 ?_
  refine Br.of (fun h=>Go0 ?_) (fun h=>Go0 ?_)
  ·refine Need.mk (by rw [IntKind.wrap_u64]; omega) (Go0 ?_)
   have w0 := Qa (↑k + 1) (by omega) (by omega)
   refine ⟨k + 1, by omega, by omega, Mv.mk' 1 rfl ⟨O.wk.arr rfl (fun i hi j hj => wkC.of_eq (Qik _ _ _ _) ?_), trivial⟩ ⟨wkS.c (wkC.int (by rw [w0]; rfl)), wkS.c (wkC.sl (by decide) rfl rfl (fun e => e)), wkS.imm rfl, wkS.imm rfl, trivial⟩ (Nat.zero_le _)⟩
   have hj : j = 0 := by omega
   subst hj
   rw [QX]
   simp only [putG, putB, Int.toNat_natCast]
   by_cases c : i = k
   ·subst c
    simp
   ·rw [if_neg (by simp [c])]
    by_cases c2 : i < k
    ·rw [if_pos c2, if_pos (by omega)]
    ·rw [if_neg c2, if_neg (by omega)]
  ·have : k = 4 := by omega
   subst this
   refine Need.mk (fun i hi => ⟨putB n i, by simp only [putG]; rw [if_pos hi]⟩) (Go0 ?_)
   exact RM.imm rfl (wkS.t ⟨wkC.str (Qip n 4), wkC.imm rfl, trivial⟩)
theorem QkW (n : Int) (hn : 0 ≤ n ∧ n < 281474976710656) : PS 187 [.c (.int .i64 n), .c (.int .i64 6)] (.t [.inl (.str (putS n 6)), .inl (.int .i64 0)]) := by
 refine PSpec.rm ?_
 refine ov0 hΓ Tryz.func187 44 0 [.tmp 4, .tmp 5] Tryz.ntmps187 Tryz.results187 ?_
 have e : IntKind.i64.wrap (1 * 2 ^ min (IntKind.u64.wrap (IntKind.i64.wrap (8 * 6))).toNat IntKind.i64.bits) = 281474976710656 := by decide
 refine Br.no (by rw [e]; simp; omega) (Go0 ?_)
 refine Lp.mk hΓ (ι := Nat) (fun k => [(7, .c (.int .i64 k)), (6, .c (.sl 0 1 6 6 true)), (0, .c (.int .i64 n)), (1, .c (.int .i64 6))]) (fun k => [.arr 5 1 6 (putG n k)]) (fun k => k ≤ 6) (fun k => 6 - k) 0 (Nat.zero_le _) ?_ ?_
 ·exact Mv.mk' 1 rfl ⟨O.wk.arr rfl (fun i hi j hj => by
   have hj : j < 1 := hj
   have : j = 0 := by omega
   subst this
   exact wkC.imm rfl), trivial⟩ ⟨wkS.imm rfl, wkS.c (wkC.sl (by decide) rfl rfl (fun _ => rfl)), wkS.imm rfl, wkS.imm rfl, trivial⟩ (Nat.zero_le _)
 ·intro k hk
  refine Go0 ?_
  refine Br.of (fun h=>Go0 ?_) (fun h=>Go0 ?_)
  ·refine Need.mk (by rw [IntKind.wrap_u64]; omega) (Go0 ?_)
   have w0 := Qa (↑k + 1) (by omega) (by omega)
   refine ⟨k + 1, by omega, by omega, Mv.mk' 1 rfl ⟨O.wk.arr rfl (fun i hi j hj => wkC.of_eq (Qik _ _ _ _) ?_), trivial⟩ ⟨wkS.c (wkC.int (by rw [w0]; rfl)), wkS.c (wkC.sl (by decide) rfl rfl (fun e => e)), wkS.imm rfl, wkS.imm rfl, trivial⟩ (Nat.zero_le _)⟩
   have hj : j = 0 := by omega
   subst hj
   rw [QX]
   simp only [putG, putB, Int.toNat_natCast]
   by_cases c : i = k
   ·subst c
    simp
   ·rw [if_neg (by simp [c])]
    by_cases c2 : i < k
    ·rw [if_pos c2, if_pos (by omega)]
    ·rw [if_neg c2, if_neg (by omega)]
  ·have : k = 6 := by omega
   subst this
   refine Need.mk (fun i hi => ⟨putB n i, by simp only [putG]; rw [if_pos hi]⟩) (Go0 ?_)
   exact RM.imm rfl (wkS.t ⟨wkC.str (Qip n 6), wkC.imm rfl, trivial⟩)
theorem QgK : HB 187 := hB Tryz.func187
theorem Qkv : HB 187 := QgK
theorem Qkn : HB 187 := QgK
theorem Qeq (n : Int) (hn : 0 ≤ n ∧ n < 256) : PS 253 [.c (.int .i64 n), .c (.int .i64 1)] (.c (.str (putS n 1))) := by
 refine ov hΓ Tryz.func253 14 0 [.tmp 4] Tryz.ntmps253 Tryz.results253 ?_
 conv=>whnf
 refine CallN.pure QgK (Qq7 n hn ) (leA.refl rfl) rfl ?_
 ((conv=>whnf);(repeat' ((first|refine Nd ?_|refine Hv fun _h=>?_);conv=>whnf)))
theorem Qew : HB 253 := hB Tryz.func253
theorem Qhf (n : Int) (hn : 0 ≤ n ∧ n < 4294967296) : PS 253 [.c (.int .i64 n), .c (.int .i64 4)] (.c (.str (putS n 4))) := by
 refine ov hΓ Tryz.func253 14 0 [.tmp 4] Tryz.ntmps253 Tryz.results253 ?_
 conv=>whnf
 refine CallN.pure Qkv (QkB n hn ) (leA.refl rfl) rfl ?_
 ((conv=>whnf);(repeat' ((first|refine Nd ?_|refine Hv fun _h=>?_);conv=>whnf)))
theorem Qgk : HB 253 := hB Tryz.func253
theorem Qmx (n : Int) (hn : 0 ≤ n ∧ n < 281474976710656) : PS 253 [.c (.int .i64 n), .c (.int .i64 6)] (.c (.str (putS n 6))) := by
 refine ov hΓ Tryz.func253 14 0 [.tmp 4] Tryz.ntmps253 Tryz.results253 ?_
 conv=>whnf
 refine CallN.pure Qkn (QkW n hn ) (leA.refl rfl) rfl ?_
 ((conv=>whnf);(repeat' ((first|refine Nd ?_|refine Hv fun _h=>?_);conv=>whnf)))
theorem QmG : HB 253 := hB Tryz.func253
theorem Qs7 (sum : Int) (b : ByteArray) (hb : b.size ≤ 10000000) : PS 251 [.c (.int .u32 sum), .c (.str b)] (.c (.int .u32 (addU sum b))) := by
 refine ov0 hΓ Tryz.func251 37 0 [.tmp 4] Tryz.ntmps251 Tryz.results251 ?_
 refine Lp.mk hΓ (ι := Nat) (fun k => [(6, .c (.int .i64 k)), (5, .c (.int .u32 (Q1 sum b k))), (1, .c (.str b))]) (fun _ => []) (fun k => k ≤ b.size) (fun k => b.size - k) 0 (Nat.zero_le _) ?_ ?_
 ·exact Mv.mk' 0 rfl trivial ⟨wkS.imm rfl, wkS.imm rfl, wkS.imm rfl, trivial⟩ (Nat.zero_le _)
 ·intro k hk
  refine Go1 fun _h=>?_
  refine Br.of (fun h=>Go0 ?_) (fun h=>Go0 ?_)
  ·refine Lp.mk hΓ (ι := Nat) (fun j => [(7, .c (.int .i64 j)), (5, .c (.int .u32 (QaX QaL j (xorU (Q1 sum b k) (Qav b k))))), (6, .c (.int .i64 k)), (1, .c (.str b))]) (fun _ => []) (fun j => j ≤ 8) (fun j => 8 - j) 0 (Nat.zero_le _) ?_ ?_
   ·exact Mv.mk' 0 rfl trivial ⟨wkS.imm rfl, wkS.imm rfl, wkS.imm rfl, wkS.imm rfl, trivial⟩ (Nat.zero_le _)
   ·intro j hj
    refine Go0 ?_
    have w1 := Qa (↑j + 1) (by omega) (by omega)
    refine Br.of (fun h2=>Go0 ?_) (fun h2=>Go0 ?_)
    ·refine Br.of (fun h3=>Go0 ?_) (fun h3=>Go0 ?_)
     ·exact ⟨j + 1, by omega, by omega, Mv.mk' 0 rfl trivial ⟨wkS.c (wkC.int (by rw [w1]; rfl)), wkS.c (wkC.int (by simp only [QaX]; exact (if_pos h3).symm)), wkS.imm rfl, wkS.imm rfl, trivial⟩ (Nat.zero_le _)⟩
     ·exact ⟨j + 1, by omega, by omega, Mv.mk' 0 rfl trivial ⟨wkS.c (wkC.int (by rw [w1]; rfl)), wkS.c (wkC.int (by simp only [QaX]; exact (if_neg h3).symm)), wkS.imm rfl, wkS.imm rfl, trivial⟩ (Nat.zero_le _)⟩
    ·have : j = 8 := by omega
     subst this
     have w0 := Qa (↑k + 1) (by omega) (by omega)
     exact ⟨k + 1, by omega, by omega, Mv.mk' 0 rfl trivial ⟨wkS.c (wkC.int (by rw [w0]; rfl)), wkS.imm rfl, wkS.imm rfl, trivial⟩ (Nat.zero_le _)⟩
  ·have : k = b.size := by omega
   subst this
   rfl
theorem QsZ : HB 251 := hB Tryz.func251
theorem Qh9 (b : ByteArray) (hb : b.size ≤ 10000000) : PS 188 [.c (.str b)] (.c (.int .u32 (addU 0 b))) := by
 refine ov hΓ Tryz.func188 5 0 [.tmp 2] Tryz.ntmps188 Tryz.results188 ?_
 conv=>whnf
 refine CallN.pure QsZ (Qs7 0 b hb ) (leA.refl rfl) rfl ?_
 ((conv=>whnf);(repeat' ((first|refine Nd ?_|refine Hv fun _h=>?_);conv=>whnf)))
theorem Qh0 : HB 188 := hB Tryz.func188
theorem Qsb (b : ByteArray) (hb : b.size ≤ 10000000) : PS 255 [.c (.str b)] (.c (.str (b ++ putS (IntKind.i64.wrap (addU 0 b)) 4))) := by
 refine ov hΓ Tryz.func255 9 0 [.tmp 2] Tryz.ntmps255 Tryz.results255 ?_
 conv=>whnf
 refine CallN.pure Qh0 (Qh9 b hb ) (leA.refl rfl) rfl ?_
 conv=>whnf
 have hl := Qfq 0 b
 refine CallN.pure Qgk (Qhf _ (by rw [Qa _ (by omega) (by omega)]; exact hl) ) (leA.refl rfl) rfl ?_
 conv=>whnf
 refine Need.mk (by rw [QI]; omega) ?_
 ((conv=>whnf);(repeat' ((first|refine Nd ?_|refine Hv fun _h=>?_);conv=>whnf)))
theorem Qq0 : HB 255 := hB Tryz.func255
theorem Qtg (b : ByteArray) (hb : b.size ≤ 20) : PS 254 [.c (.str b), .c (.int .i64 20)] (.c (.str (padS b))) := by
 refine PSpec.rm ?_
 refine ov hΓ Tryz.func254 18 0 [.tmp 4] Tryz.ntmps254 Tryz.results254 ?_
 refine Go1 fun _h=>?_
 refine Br.of (fun h=>Go0 ?_) (fun h=>Go1 fun _h=>?_)
 ·have : b.size = 20 := by omega
  exact RM.imm rfl (wkS.c (wkC.str (by simp [padS, this])))
 ·have w0 := Qa (20 - (b.size : Int)) (by omega) (by omega)
  have n0 : ((20 : Int) - (b.size : Int)).toNat = 20 - b.size := by omega
  rw [w0]
  refine Go0 ?_
  rw [n0]
  refine Need.mk (fun i hi => ⟨0, rfl⟩) ?_
  conv=>whnf
  refine Need.mk (by rw [Qa0]; omega) (Go0 ?_)
  refine RM.imm rfl (wkS.c (wkC.str ?_))
  simp only [padS]
  rw [if_pos (by omega)]
  rfl
theorem Qsw : HB 254 := hB Tryz.func254
theorem QhU (r : Rec) : PS 252 [r.s] (.c (.int .i64 (Qm r))) := by
 refine ov0 hΓ Tryz.func252 67 0 [.tmp 2] Tryz.ntmps252 Tryz.results252 ?_
 (first|refine Br.od (fun h1=>?_) (fun h1=>?_)|refine Br.mk (fun h1=>?_) (fun h1=>?_)<;>simp [-List.length_eq_zero_iff,-List.getD_eq_getElem?_getD] at h1)<;>(try simp only [Int.toNat_natCast] at h1)<;>(conv=>whnf)
 ·refine Go0 ?_
  have : decide (1 ≤ r.kind ∧ r.kind ≤ 6) = false := by simp only [decide_eq_false_iff_not]; omega
  simp only [Qm, this]; rfl
 ·refine Go0 ?_
  have e1 : decide (1 ≤ r.kind ∧ r.kind ≤ 6) = true := by simp only [decide_eq_true_eq]; omega
  (first|refine Br.od (fun h2=>?_) (fun h2=>?_)|refine Br.mk (fun h2=>?_) (fun h2=>?_)<;>simp [-List.length_eq_zero_iff,-List.getD_eq_getElem?_getD] at h2)<;>(try simp only [Int.toNat_natCast] at h2)<;>(conv=>whnf)
  ·refine Go0 ?_
   have : decide (0 ≤ r.block ∧ r.block ≤ 4294967295 ∧ 0 ≤ r.version ∧ r.version ≤ 1099511627776 ∧ 0 ≤ r.move ∧ r.move ≤ 255) = false := by simp only [decide_eq_false_iff_not]; omega
   simp only [Qm, e1, this]; rfl
  ·refine Go1 fun _h=>?_
   have e2 : decide (0 ≤ r.block ∧ r.block ≤ 4294967295 ∧ 0 ≤ r.version ∧ r.version ≤ 1099511627776 ∧ 0 ≤ r.move ∧ r.move ≤ 255) = true := by simp only [decide_eq_true_eq]; omega
   have hz : r.payload = ⟨#[]⟩ ↔ r.payload.size = 0 := ⟨fun h => by rw [h]; rfl, QuA⟩
   refine Br.of (fun h3=>Go0 ?_) (fun h3=>Go0 ?_)
   ·have : decide (r.payload.size ≤ 20 ∧ (r.kind = 1 → r.payload.size = 16) ∧ (r.kind = 2 → r.payload.size = 0)) = false := by
     simp [Bool.cond_eq_ite] at h3
     simp only [decide_eq_false_iff_not]
     rw [hz] at h3
     omega
    simp only [Qm, e1, e2, this]; rfl
   ·have : decide (r.payload.size ≤ 20 ∧ (r.kind = 1 → r.payload.size = 16) ∧ (r.kind = 2 → r.payload.size = 0)) = true := by
     simp [Bool.cond_eq_ite] at h3
     simp only [decide_eq_true_eq]
     rw [hz] at h3
     omega
    simp only [Qm, e1, e2, this]; rfl
theorem QhB : HB 252 := hB Tryz.func252
theorem QhM (r : Rec) : PS 189 [r.s] (.t [.inl (.str (encR r)), .inl (.int .i64 (Qm r))]) := by
 refine PSpec.rm ?_
 refine ov hΓ Tryz.func189 39 0 [.tmp 2, .tmp 3] Tryz.ntmps189 Tryz.results189 ?_
 conv=>whnf
 refine CallN.pure QhB (QhU r ) (leA.refl rfl) rfl (Go0 ?_)
 refine Br.of (fun h1=>Go0 ?_) (fun h1=>Go0 ?_)
 ·exact RM.imm rfl (wkS.t ⟨wkC.str (by rw [encR, if_neg h1]; rfl), wkC.imm rfl, trivial⟩)
 ·obtain ⟨hk, hr, hp⟩ := QaY h1
  refine Dr.mk hΓ hMix (by kernel_rfl) (Go0 ?_)
  have lit2 : ({ data := #[90, 65] } : ByteArray).size = 2 := rfl
  have lit1 : ({ data := #[0] } : ByteArray).size = 1 := rfl
  refine CallP.mk Qew (Qeq r.kind (by omega) ) (leA.refl rfl) rfl ?_
  conv=>whnf
  refine Need.mk (by simp only [ByteArray.size_append, QI, QaZ _ hp, lit2, lit1]; omega) (Go0 ?_)
  refine CallP.mk Qew (Qeq r.payload.size (by omega) ) (leA.refl rfl) rfl ?_
  conv=>whnf
  refine Need.mk (by simp only [ByteArray.size_append, QI, QaZ _ hp, lit2, lit1]; omega) (Go0 ?_)
  refine CallP.mk Qgk (Qhf r.block (by omega) ) (leA.refl rfl) rfl ?_
  conv=>whnf
  refine Need.mk (by simp only [ByteArray.size_append, QI, QaZ _ hp, lit2, lit1]; omega) (Go0 ?_)
  refine CallP.mk QmG (Qmx r.version (by omega) ) (leA.refl rfl) rfl ?_
  conv=>whnf
  refine Need.mk (by simp only [ByteArray.size_append, QI, QaZ _ hp, lit2, lit1]; omega) (Go0 ?_)
  refine CallP.mk Qew (Qeq r.move (by omega) ) (leA.refl rfl) rfl ?_
  conv=>whnf
  refine Need.mk (by simp only [ByteArray.size_append, QI, QaZ _ hp, lit2, lit1]; omega) (Go0 ?_)
  refine Need.mk (by simp only [ByteArray.size_append, QI, QaZ _ hp, lit2, lit1]; omega) (Go0 ?_)
  refine CallP.mk Qsw (Qtg r.payload hp ) (leA.refl rfl) rfl ?_
  conv=>whnf
  refine Need.mk (by simp only [ByteArray.size_append, QI, QaZ _ hp, lit2, lit1]; omega) (Go0 ?_)
  have hb := Qd7 hp
  refine CallN.pure Qq0 (Qsb (QV r) (by omega) ) (leA.refl rfl) rfl (Go0 ?_)
  exact RM.imm rfl (wkS.t ⟨wkC.str (by rw [encR, if_pos h1]), wkC.int h1.symm, trivial⟩)
theorem QhD : HB 189 := hB Tryz.func189
theorem QdK (r : Rec) : PS 111 [r.s] (.c (.str (encR r))) := by
 refine ov hΓ Tryz.func111 11 0 [.tmp 2] Tryz.ntmps111 Tryz.results111 ?_
 conv=>whnf
 refine CallN.pure QhD (QhM r ) (leA.refl rfl) rfl ?_
 ((conv=>whnf);(repeat' ((first|refine Nd ?_|refine Hv fun _h=>?_);conv=>whnf)))
theorem Qdr : HB 111 := hB Tryz.func111
theorem QjY (d : Dev) (zone : Int) : PS 134 [d.s, .c (.int .i64 zone)] (.c (.int .i64 (QG d zone))) := by
 refine PSpec.rm ?_
 refine ov hΓ Tryz.func134 27 0 [.tmp 4] Tryz.ntmps134 Tryz.results134 ?_
 conv=>whnf
 refine CallN.pure Qcq (Qcr d ) (leA.refl rfl) rfl (Go0 ?_)
 refine Br.of (fun h1=>Go0 ?_) (fun h1=>Go0 ?_)
 ·exact RM.imm rfl (wkS.c (wkC.int (by simp only [QG, if_neg h1])))
 ·(first|refine Br.od (fun h2=>?_) (fun h2=>?_)|refine Br.mk (fun h2=>?_) (fun h2=>?_)<;>simp [-List.length_eq_zero_iff,-List.getD_eq_getElem?_getD] at h2)<;>(try simp only [Int.toNat_natCast] at h2)<;>(conv=>whnf)
  ·refine Go0 ?_
   have : decide (0 ≤ zone ∧ zone < d.zones.length) = false := by simp only [decide_eq_false_iff_not]; omega
   exact RM.imm rfl (wkS.c (wkC.int (by simp only [QG, if_pos h1, this]; rfl)))
  ·refine Go0 ?_
   have hr : decide (0 ≤ zone ∧ zone < d.zones.length) = true := by simp only [decide_eq_true_eq]; omega
   refine Br.of (fun h3=>Go0 ?_) (fun h3=>Go0 ?_)
   ·exact RM.imm rfl (wkS.c (wkC.int (by simp only [QG, if_pos h1, hr, if_pos, if_pos h3])))
   ·exact RM.imm rfl (wkS.c (wkC.int (by simp only [QG, if_pos h1, hr, if_pos, if_neg h3])))
theorem Qkd : HB 134 := hB Tryz.func134
theorem Qlw (z : Zone) : PS 265 [z.s] ((QaM z).s) := by
 refine PSpec.rm ?_
 refine ov hΓ Tryz.func265 10 0 [.cell 2 76] Tryz.ntmps265 Tryz.results265 ?_
 refine Go1 fun _h=>?_
 refine Br.of (fun h=>Go0 ?_) (fun h=>Go0 ?_)
 ·have : QaM z = ⟨0, z.durable, z.sectors⟩ := by simp only [QaM]; rw [if_pos (by omega)]
  rw [this]
  exact RM.imm rfl (wkS.imm rfl)
 ·have : QaM z = ⟨3, z.durable, z.sectors⟩ := by simp only [QaM]; rw [if_neg (by omega)]
  rw [this]
  exact RM.imm rfl (wkS.imm rfl)
theorem QlJ : HB 265 := hB Tryz.func265
theorem QdR (d : Dev) (hd : d.zones.length ≤ 10000000) (zone : Int) (hz : 0 ≤ zone ∧ zone < d.zones.length) (z : Zone) : PS 135 [d.s, .c (.int .i64 zone), z.s] (({ d with zones := d.zones.set zone.toNat z } : Dev).s) := by
 refine PSpec.rm ?_
 refine ov0 hΓ Tryz.func135 18 0 [.cell 6 29] Tryz.ntmps135 Tryz.results135 ?_
 have hk : zone.toNat < d.zones.length := by omega
 refine RM.devS 3 rfl (fun i hi j hj => ?_) rfl (by simp) (fun i hi j hj => ?_)
 ·exact (congrArg C.imm (QkQ hk rfl i j hj)).trans (Qbv _ _ _)
 ·exact leF.of_eq (QkQ hk rfl i j hj)
theorem QdO : HB 135 := hB Tryz.func135
theorem Qle (d : Dev) (hd : d.zones.length ≤ 10000000) (zone : Nat) (hz : zone < d.zones.length) (hno : QF (d.zones.getD zone default).state = false) : PS 217 [d.s, .c (.int .i64 zone)] (Dev.out (QbU d zone) (Qe d zone).1) := by
 refine PSpec.rm ?_
 refine ov hΓ Tryz.func217 74 0 [.cell 4 29, .tmp 5] Tryz.ntmps217 Tryz.results217 ?_
 have hst : (d.zones.getD zone default).state ≠ 1 ∧ (d.zones.getD zone default).state ≠ 2 := by
  simp only [QF, decide_eq_false_iff_not] at hno
  omega
 conv=>whnf
 refine CallN.pure Qb2 (Qb3 d ) (leA.refl rfl) rfl (Go0 ?_)
 refine Br.of (fun h1=>Go0 ?_) (fun h1=>Go0 ?_)
 ·refine Lp.mk hΓ (ι := Nat) (fun k => [(9, .c (.int .i64 k)), (2, .c (.ptr 0 0)), (4, .c (.ptr 1 0)), (6, .c (.ptr 2 0)), (1, .c (.int .i64 zone))])
   (fun _ => [.vr d.cells, .vr [.int .i64 0, .int .i64 0, .int .i64 0, .nils], .vr d.cells]) (fun k => k ≤ d.zones.length ∧ ∀ i, i < k → (d.zones.getD i default).state ≠ 1) (fun k => d.zones.length - k) 0 ⟨Nat.zero_le _, fun i hi => by omega⟩ ?_ ?_
  ·exact Mv.mk' 3 rfl ⟨O.wk.vr (Qv rfl), O.wk.vr (Qv rfl), O.wk.vr (Qv rfl), trivial⟩ ⟨wkS.imm rfl, wkS.c (wkC.ptr (by decide)), wkS.c (wkC.ptr (by decide)), wkS.c (wkC.ptr (by decide)), wkS.imm rfl, trivial⟩ (Nat.zero_le _)
  ·rintro k ⟨hk, hka⟩
   refine Go1 fun _h=>?_
   (first|refine Br.od (fun h=>?_) (fun h=>?_)|refine Br.mk (fun h=>?_) (fun h=>?_)<;>simp [-List.length_eq_zero_iff,-List.getD_eq_getElem?_getD] at h)<;>(try simp only [Int.toNat_natCast] at h)<;>(conv=>whnf)
   ·refine Go0 ?_
    have w0 := Qa (↑k + 1) (by omega) (by omega)
    refine ⟨k + 1, ⟨by omega, fun i hi => ?_⟩, by omega, Mv.mk' 3 rfl ⟨O.wk.vr (Qv rfl), O.wk.vr (Qv rfl), O.wk.vr (Qv rfl), trivial⟩ ⟨wkS.c (wkC.int (by rw [w0]; rfl)), wkS.c (wkC.ptr (by decide)), wkS.c (wkC.ptr (by decide)), wkS.c (wkC.ptr (by decide)), wkS.imm rfl, trivial⟩ (Nat.zero_le _)⟩
    by_cases c : i = k
    ·subst c; simpa using h.2
    ·exact hka i (by omega)
   ·refine Go1 fun _h=>?_
    refine Br.of (fun h3=>Go0 ?_) (fun h3=>Go0 ?_)
    ·have : k = d.zones.length := by omega
     subst this
     have hr : Qe d zone = (8, d.zones) := by
      simp only [Qe]
      rw [if_pos (by omega), if_neg (by rw [Qdk _ hka]; omega)]
     rw [show QbU d zone = d by simp only [QbU, hr]; rfl, hr]
     exact RM.imm rfl (wkS.imm rfl)
    ·have hlt : k < d.zones.length := by omega
     have hk1 : (d.zones.getD k default).state = 1 := by simpa using h (by omega)
     have hfo : Ql d.zones = k := Qdc _ _ hlt hka hk1
     have hr0 : Qe d zone = if ((QD d.zones k).getD zone default).state ≠ 3 ∧ d.maxActive ≤ Qi (QD d.zones k) then (9, QD d.zones k) else (0, QD d.zones k) := by
      simp only [Qe]
      rw [if_pos (by omega), if_pos (by omega), hfo]
     rw [Qmk _ _ _ hz hk1 hno] at hr0
     refine Dr.mk hΓ hMix (by kernel_rfl) (Go0 ?_)
     refine CallP.mk QlJ (Qlw (d.zones.getD k default) ) (leA.refl rfl) rfl (Go0 ?_)
     refine CallP.mk QdO (QdR d hd k (by omega) (QaM (d.zones.getD k default)) ) (leA.refl rfl) rfl (Go0 ?_)
     refine CallN.pure Qb2 (Qb3 ({ d with zones := (QD d.zones k) } : Dev) ) (leA.refl rfl) rfl (Go0 ?_)
     refine CallN.pure Qb1 (Qb6 _ ) (leA.refl rfl) rfl (Go0 ?_)
     (first|refine Br.od (fun h5=>?_) (fun h5=>?_)|refine Br.mk (fun h5=>?_) (fun h5=>?_)<;>simp [-List.length_eq_zero_iff,-List.getD_eq_getElem?_getD] at h5)<;>(try simp only [Int.toNat_natCast] at h5)<;>(conv=>whnf)
     ·refine Go0 ?_
      have hr : Qe d zone = (9, (QD d.zones k)) := by
       rw [hr0]
       refine if_pos ?_
       have := hst
       simp only [QP, decide_eq_false_iff_not] at h5
       omega
      rw [show QbU d zone = d by simp only [QbU, hr]; rfl, hr]
      exact RM.imm rfl (wkS.imm rfl)
     ·refine Go0 ?_
      have hr : Qe d zone = (0, (QD d.zones k)) := by
       rw [hr0]
       refine if_neg ?_
       simp only [QP, decide_eq_false_iff_not] at h5
       have := hst
       omega
      rw [show QbU d zone = { d with zones := (QD d.zones k) } by simp only [QbU, hr]; rfl, hr]
      exact RM.imm rfl (wkS.imm rfl)
 ·have hr0 : Qe d zone = if (d.zones.getD zone default).state ≠ 3 ∧ d.maxActive ≤ Qi d.zones then (9, d.zones) else (0, d.zones) := by
   simp only [Qe]
   rw [if_neg (by omega)]
  refine CallN.pure Qb2 (Qb3 ({ d with zones := d.zones } : Dev) ) (leA.refl rfl) rfl (Go0 ?_)
  refine CallN.pure Qb1 (Qb6 _ ) (leA.refl rfl) rfl (Go0 ?_)
  (first|refine Br.od (fun h5=>?_) (fun h5=>?_)|refine Br.mk (fun h5=>?_) (fun h5=>?_)<;>simp [-List.length_eq_zero_iff,-List.getD_eq_getElem?_getD] at h5)<;>(try simp only [Int.toNat_natCast] at h5)<;>(conv=>whnf)
  ·refine Go0 ?_
   have hr : Qe d zone = (9, d.zones) := by
    rw [hr0]
    refine if_pos ?_
    have := hst
    simp only [QP, decide_eq_false_iff_not] at h5
    omega
   rw [show QbU d zone = d by simp only [QbU, hr]; rfl, hr]
   exact RM.imm rfl (wkS.imm rfl)
  ·refine Go0 ?_
   have hr : Qe d zone = (0, d.zones) := by
    rw [hr0]
    refine if_neg ?_
    simp only [QP, decide_eq_false_iff_not] at h5
    have := hst
    omega
   rw [show QbU d zone = { d with zones := d.zones } by simp only [QbU, hr]; rfl, hr]
   exact RM.imm rfl (wkS.imm rfl)
theorem Qlm : HB 217 := hB Tryz.func217
end Go.Proofs
end
