/- Contracts, lemmas; no condition. -/
import Derived.Test.YtmollgldghpbkaaGreatNEV
set_option linter.all false
open Go Go.Am
namespace Go.Proofs
set_option maxRecDepth 20000
theorem Qn1 {s : St} (h : Val s) : ((allS s.map).length : Int) ≤ s.cfg.blocks := by
 have hp := h.parts
 have hc := confR_iff.1 (Qv hp.cfg).1
 obtain ⟨h1, h2⟩ := QbO hp.map
 unfold allS
 rw [if_pos hp.map]
 have hm : ∀ e ∈ allM s.map, 0 ≤ e.block ∧ e.block < s.cfg.blocks := fun e he => by
  have he2 := h2.mem_iff.1 he
  obtain ⟨l, hl, hel⟩ := List.mem_flatten.1 he2
  obtain ⟨i, hi, rfl⟩ := List.getElem_of_mem hl
  have hg := Qb7 hp.map hi
  have hx := Qc1 hg.1 (e := e) (by rw [Qp _ _ hi]; exact hel)
  unfold Qbl at hx
  rw [decide_eq_true_eq] at hx
  exact ⟨hx.2.2.2.2.2.1, blocksIn_iff.1 hp.blocks i hi e (by rw [Qp _ _ hi]; exact hel)⟩
 have := Qks (l := (allM s.map).map Ent.block) (List.pairwise_map.2 h1) (fun x hx => by
  obtain ⟨e, he, rfl⟩ := List.mem_map.1 hx
  exact (hm e he).1) (n := s.cfg.blocks) (fun x hx => by
  obtain ⟨e, he, rfl⟩ := List.mem_map.1 hx
  exact (hm e he).2)
 rw [List.length_map] at this
 omega
theorem QsK {c : Conf} (h : Qw c = 0) : c.blocks + 2 ≤ Qo c * c.size := by
 have hc := confR_iff.1 (Qv h).1
 unfold Qo
 rw [Int.tdiv_eq_ediv_of_nonneg om]
 have h1 := Int.mul_ediv_add_emod (c.blocks + 2 + c.size - 1) c.size
 have h2 := Int.emod_lt_of_pos (c.blocks + 2 + c.size - 1) (show 0 < c.size by omega)
 rw [Int.mul_comm] at h1
 omega
theorem Qso (seq next cut : Int) (l : List Ent) : (Qet seq next cut l).length ≤ l.length + 2 := by
 unfold Qet Qfc
 split <;> simp
theorem Qlg (l : List Ent) : (QbM l).length ≤ l.length := List.length_filter_le _ _
theorem savR {c : Conf} {n : Int} {e : Nat} {s : St} (h : Gs c n e s) (seq next cut : Int) : (QbM (allS s.map)).length ≤ 500 ∧ ((Qet seq next cut (QbM (allS s.map))).length : Int) ≤ Qo c * c.size ∧ (Qet seq next cut (QbM (allS s.map))).length ≤ 1000 := by
 have h1 := Qn1 h.gd.val
 have h2 := Qlg (allS s.map)
 have h3 := Qso seq next cut (QbM (allS s.map))
 have h4 := QsK h.gd.conf
 have h5 := confR_iff.1 (Qv h.gd.conf).1
 rw [h.gd.cfg] at h1
 omega
theorem DiceM.next_le (d : DiceM) {n : Int} (h0 : 0 ≤ n) (h : n ≤ 1000000) : 0 ≤ d.next n ∧ d.next n ≤ n := by
 by_cases c : 1 ≤ n
 ·have := d.next_range c om
  omega
 ·have : n = 0 := by omega
  subst this
  unfold DiceM.next modI
  split
  ·omega
  ·rw [if_pos om]; omega
theorem QtD {l : List Ent} {x : Ent} {t : List C} {n i j : Nat} (hn : n = l.length) (hi : i < l.length + 1) (hj : j < 6) : appG (entG l) n (QaC 6 (C.int .i64 x.block :: C.int .i64 x.kind :: C.int .i64 x.version :: C.int .i64 x.move :: C.int .i64 x.zone :: C.int .i64 x.offset :: t)) i j = entG (l ++ [x]) i j :=
 Qb8 (f := Ent.cell) hn (fun j hj => by
  match j, hj with
  | 0, _ => rfl
  | 1, _ => rfl
  | 2, _ => rfl
  | 3, _ => rfl
  | 4, _ => rfl
  | 5, _ => rfl) hi hj
theorem Qqf {l : List Ent} {k : Nat} (hk : k < l.length) : QbM (l.take (k + 1)) = if (l.getD k default).kind = 1 then QbM (l.take k) ++ [l.getD k default] else QbM (l.take k) := by
 unfold QbM
 rw [QaJ l hk, List.filter_append, List.filter_cons, List.filter_nil]
 split <;> simp_all
set_option maxHeartbeats 8000000 in
theorem Qr3 (c : Conf) (n : Int) (e : Nat) (d : DiceM) (hd : d.ok) (s : St) (h : Gs c n e s) (hn : n ≤ 90000) (he : e ≤ 100) : CS 41 [.c (.ptr 0 0), .a s.cells] [.vr d.cells] fun y H => ∃ i : DS, (i.1.ok ∧ Gz i.2) ∧ y = .a i.2.cells ∧ H = [.vr i.1.cells] := by
 have hsm := h.small om
 have hc : Qw s.cfg = 0 := by rw [h.gd.cfg]; exact h.gd.conf
 have hcf := confR_iff.1 (Qv hc).1
 have w2 := Qa (s.cfg.queues + 2) om om
 refine CSpec.rm ?_
 refine ov0 hΓ Tryz.func41 172 1 [.cell 4 58] Tryz.ntmps41 Tryz.results41 ?_
 refine CallN.autoQ [0] Ql (Qm d hd 9) (Go0 ?_)
 refine CallN.autoQ [0] Ql (Qm d.step hd.step 2) (Go0 ?_)
 have hk := d.next_range (n := 9) om om
 have hsl := d.step.next_range (n := 2) om om
 have hd2 := hd.step.step
 generalize d.next 9 = k at *
 generalize d.step.next 2 = slot at *
 generalize d.step.step = d2 at *
 by_cases c1 : k = 1 ∨ k = 2
 ·refine Br.yes (by simpa using c1) (Go0 ?_)
  rw [w2]
  have ws := Qa (s.cfg.shards - 1) om om
  refine Lp.mkK hΓ (ι := (DS × Nat) × Nat) [0, 3, 4, 5, 6, 7] (fun i => [(8, .c (.int .i64 i.2))]) (fun i => [.vr i.1.1.1.cells, .vr i.1.1.2.cells, .vr (default : St).cells, .vr [.int .i64 1, .int .i64 i.1.2, .int .i64 slot, .int .i64 0, .int .i64 0, .int .i64 0, .nils, .nils]]) (fun i => i.2 ≤ 10 ∧ i.1.2 ≤ i.2 ∧ i.1.1.1.ok ∧ Gs c n e i.1.1.2) (fun i => 10 - i.2) (((d2, s), 0), 0) ⟨Nat.zero_le _, Nat.zero_le _, hd2, h⟩ ?_ ?_
  ·exact Mv.k0
  ·rintro ⟨⟨⟨d3, s3⟩, dn⟩, i⟩ ⟨hi, hdn, hd3, h3⟩
   have hi : i ≤ 10 := hi
   have hdn : dn ≤ i := hdn
   have hd3 : d3.ok := hd3
   have h3 : Gs c n e s3 := h3
   have hc3 : s3.cfg = s.cfg := by rw [h3.gd.cfg, h.gd.cfg]
   have hcs : s3.cfg.shards = s.cfg.shards := by rw [hc3]
   have hsm3 := h3.small om
   refine Go0 ?_
   have hi2 : (i : Int) < s.cfg.shards - 1 → i + 1 ≤ 10 := by omega
   refine CallG.autoQ [0] Ql (Qm d3 hd3 2) (fun hg => ?_) (fun hg => ?_) <;> (conv=>whnf)
   ·refine Go0 ?_
    rw [hg]
    have hi3 : (i : Int) < IntKind.i64.wrap (s3.cfg.shards - 1) := by
     by_cases q : (i : Int) < IntKind.i64.wrap (s3.cfg.shards - 1)
     ·exact q
     ·have hg2 : (bif decide ((i : Int) < IntKind.i64.wrap (s3.cfg.shards - 1)) then ((dn : Int) == i) else false) = true := hg
      rw [decide_eq_false q] at hg2
      cases hg2
    rw [hcs, ws] at hi3
    by_cases c5 : d3.next 2 = 0
    ·refine Br.yes (by rw [c5]; rfl) (Go0 ?_)
     have wi := Qa (↑i + 1) om om
     have wd := Qa (↑dn + 1) om om
     refine CallN.pureA Qd0 (QdZ s3.owner i (s.cfg.queues + 2) hsm3.owner ) (Go0 ?_)
     refine Br.mk (fun hb => ?_) (fun hb => ?_) <;> (conv=>whnf)
     ·refine Go0 ?_
      refine ⟨(((d3.step, { s3 with owner := (Qbm s3.owner i (s.cfg.queues + 2)).1 }), dn + 1), i + 1), ⟨hi2 hi3, by show dn + 1 ≤ i + 1; omega, hd3.step, h3.take _ _⟩, by show 10 - (i + 1) < 10 - i; omega, ?_⟩
      exact Mv.k0
     ·refine Go0 ?_
      refine ⟨(((d3.step, s3), dn), i + 1), ⟨hi2 hi3, by show dn ≤ i + 1; omega, hd3.step, h3⟩, by show 10 - (i + 1) < 10 - i; omega, ?_⟩
      exact Mv.k0
    ·refine Br.no (by simpa using c5) (Go0 ?_)
     have hz := h3.sav om he ⟨1, dn, slot, 0, 0, 0, [], []⟩ (Nat.zero_le _) (Nat.zero_le _)
     have hd4 := hd3.step
     refine Qbg (q := fun p => p.1.ok ∧ Gz p.2) (p := (d3.step, _)) ⟨hd4, hz⟩ ?_
     exact RM.w0
   ·refine Go0 ?_
    rw [hg]
    refine Br.no rfl (Go0 ?_)
    have hz := h3.sav om he ⟨1, dn, slot, 0, 0, 0, [], []⟩ (Nat.zero_le _) (Nat.zero_le _)
    refine Qbg (q := fun p => p.1.ok ∧ Gz p.2) (p := (d3, _)) ⟨hd3, hz⟩ ?_
    exact RM.w0
 ·refine Br.no (Bool.eq_false_iff.2 fun z => c1 (by simpa using z)) (Go0 ?_)
  by_cases c3 : k = 3
  ·refine Br.yes (by rw [c3]; rfl) (Go0 ?_)
   have hz := h.sav om he ⟨2, s.cfg.shards, slot, 0, 0, 0, [], []⟩ (Nat.zero_le _) (Nat.zero_le _)
   refine Qbg (q := fun p => p.1.ok ∧ Gz p.2) (p := (d2, _)) ⟨hd2, hz⟩ ?_
   exact RM.w0
  ·refine Br.no (by simpa using c3) (Go0 ?_)
   by_cases c4 : 3 < k ∧ k < 8
   ·refine Br.yes (by simpa using c4) (Go0 ?_)
    refine CallN.pureA Qg2 (QgZ s.dev hsm.dev ) (Go0 ?_)
    have h1 : Gs c n e { s with dev := Qbn s.dev } := h.sync
    have hsm1 := h1.small om
    refine Dr.mk hΓ hMix (by kernel_rfl) (Go0 ?_)
    refine CallP.auto Qq2 (QqM { s with dev := Qbn s.dev } hsm1 ) (Go0 ?_)
    generalize hct : cutS { s with dev := Qbn s.dev } = ct at *
    refine CallN.pureA Qeg (Qd7 s.map hsm.shard hsm.map ) (Go0 ?_)
    obtain ⟨r1, r2, r3⟩ := savR h (IntKind.i64.wrap (s.seq + 1)) s.next ct
    have hal := Qld h.gd.val
    generalize hL : allS s.map = L at *
    have hdl : ∀ k, (QbM (L.take k)).length ≤ L.length := fun k => Nat.le_trans (Qlg _) (by rw [List.length_take]; omega)
    refine Lp.mkK hΓ (ι := Nat) [0, 3, 4, 5, 7, 11, 12] (fun k => [(13, .c (.int .i64 k))]) (fun k => [.vr d2.cells, .vr (St.cells { s with dev := Qbn s.dev }), .vr (default : St).cells, .vr [.int .i64 0, .int .i64 0, .int .i64 slot, .int .i64 0, .int .i64 0, .int .i64 0, .nils, .nils], .vr [.int .i64 (IntKind.i64.wrap (s.seq + 1)), .int .i64 s.next, .int .i64 ct, .sl 5 6 (QbM (L.take k)).length (QbM (L.take k)).length false], .arr 47 6 (QbM (L.take k)).length (entG (QbM (L.take k)))]) (fun k => k ≤ L.length) (fun k => L.length - k) 0 (Nat.zero_le _) ?_ ?_
    ·refine (Mv.reserveO 4 3 47 6 (entG []) rfl rfl rfl rfl).trans ?_
     exact Mv.k0
    ·intro j hj
     have hdj := hdl j
     refine Go1 fun _h=>?_
     refine Br.of (fun h5=>Go0 ?_) (fun h5=>Go0 ?_)
     ·have w0 := Qa (↑j + 1) om om
      have ht := Qqf (l := L) (k := j) om
      by_cases c5 : (L.getD j default).kind = 1
      ·rw [if_pos c5] at ht
       refine Br.yes (by simpa [-List.getD_eq_getElem?_getD] using c5) ?_
       refine Go0 ?_
       refine Dr.mkE hΓ hMix [4294967296] [] (by kernel_rfl) (Go0 ?_)
       refine ⟨j + 1, om, om, ?_⟩
       rw [ht]
       refine Mv.k1 ?_
       exact fun i hi j hj => WC.eq (QtD rfl (by simpa using hi) hj) (Qao _ _)
      ·rw [if_neg c5] at ht
       refine Br.no (by simpa [-List.getD_eq_getElem?_getD] using c5) ?_
       refine Go0 ?_
       refine ⟨j + 1, om, om, ?_⟩
       rw [ht]
       exact Mv.k0
     ·have : j = L.length := by omega
      subst this
      rw [List.take_length]
      generalize hD : QbM L = D at *
      generalize hsq : IntKind.i64.wrap (s.seq + 1) = sq at *
      refine CallN.fzK 5 [0, 3, 4, 5, 7, 11] [] [.vr d2.cells, .vr (St.cells { s with dev := Qbn s.dev }), .vr (default : St).cells, .vr [.int .i64 0, .int .i64 0, .int .i64 slot, .int .i64 sq, .int .i64 s.next, .int .i64 ct, Qaw D, .nils], .vr (Qh8 sq s.next ct D), .dead] [.a (Qh8 sq s.next ct D)] rfl leN (fun i _ j _ => Qao _ _) wb0 wb0 wb0 leN ?_
      refine CallN.pureA Qmb (QlS sq s.next ct D om ) (Go0 ?_)
      generalize hR : Qet sq s.next ct D = R at *
      have wk : IntKind.i64.wrap (IntKind.i64.wrap (3 + k) - 4) = 3 + k - 4 := by rw [Qa (3 + k) om om]; exact Qa _ om om
      rw [wk]
      have hss : s.cfg.shards = c.shards := by rw [h.gd.cfg]
      obtain c6 | c6 | c6 | c6 : k = 4 ∨ k = 5 ∨ k = 6 ∨ k = 7 := by omega
      ·subst c6
       refine Br.yes rfl (Go0 ?_)
       refine CallN.pureA QiB (Qiy s.cfg 0 ) (Go1 fun _h=>?_)
       refine CallN.autoQ [0] Ql (Qm d2 hd2 (Qdy s.cfg 0).length) (Go0 ?_)
       refine Br.no rfl (Go0 ?_)
       refine Br.no rfl (Go0 ?_)
       refine Br.no rfl (Go0 ?_)
       have hd3 := hd2.step
       have hz := h1.sav om he ⟨3 + 4 - 4, d2.next (Qdy s.cfg 0).length, slot, sq, s.next, ct, D, R⟩ (by show D.length ≤ 100000; omega) (by show R.length ≤ 100000; omega)
       refine Qbg (q := fun p => p.1.ok ∧ Gz p.2) (p := (d2.step, _)) ⟨hd3, hz⟩ ?_
       exact RM.w0
      ·subst c6
       refine Br.no rfl (Go0 ?_)
       refine Br.yes rfl (Go1 fun _h=>?_)
       refine CallN.autoQ [0] Ql (Qm d2 hd2 R.length) (Go0 ?_)
       have hx := Go.Proofs.DiceM.next_le d2 (n := R.length) om om
       refine CallN.exI [] QhQ (Qg7 c n e { s with dev := Qbn s.dev } h1 hn he ⟨3 + 5 - 4, d2.next R.length, slot, sq, s.next, ct, D, R⟩ (by show 0 ≤ slot; omega) (by show slot ≤ 1; omega) (by show d2.next R.length ≤ R.length; omega) r2 (by show R.length ≤ 100000; omega)) (fun _ => plh) (fun t ht => ?_); conv=>whnf
       refine Go0 ?_
       refine Br.no rfl (Go0 ?_)
       refine Br.no rfl (Go0 ?_)
       have hd3 := hd2.step
       have hz := Gs.sav ht om he ⟨3 + 5 - 4, d2.next R.length, slot, sq, s.next, ct, D, R⟩ (by show D.length ≤ 100000; omega) (by show R.length ≤ 100000; omega)
       refine Qbg (q := fun p => p.1.ok ∧ Gz p.2) (p := (d2.step, _)) ⟨hd3, hz⟩ ?_
       exact RM.w0
      ·subst c6
       refine Br.no rfl (Go0 ?_)
       refine Br.no rfl (Go0 ?_)
       refine Br.yes rfl (Go1 fun _h=>?_)
       refine CallN.exI [] QhQ (Qg7 c n e { s with dev := Qbn s.dev } h1 hn he ⟨3 + 6 - 4, R.length, slot, sq, s.next, ct, D, R⟩ (by show 0 ≤ slot; omega) (by show slot ≤ 1; omega) (by show (R.length : Int) ≤ R.length; omega) r2 (by show R.length ≤ 100000; omega)) (fun _ => plh) (fun t ht => ?_); conv=>whnf
       refine Go0 ?_
       refine Br.no rfl (Go0 ?_)
       have hz := Gs.sav ht om he ⟨3 + 6 - 4, R.length, slot, sq, s.next, ct, D, R⟩ (by show D.length ≤ 100000; omega) (by show R.length ≤ 100000; omega)
       refine Qbg (q := fun p => p.1.ok ∧ Gz p.2) (p := (d2, _)) ⟨hd2, hz⟩ ?_
       exact RM.w0
      ·subst c6
       refine Br.no rfl (Go0 ?_)
       refine Br.no rfl (Go0 ?_)
       refine Br.no rfl (Go0 ?_)
       refine Br.yes rfl (Go0 ?_)
       refine CallN.autoQ [0] Ql (Qm d2 hd2 s.cfg.shards) (Go0 ?_)
       have hd3 := hd2.step
       have hz := h1.sav om he ⟨3 + 7 - 4, d2.next s.cfg.shards, slot, sq, s.next, ct, D, R⟩ (by show D.length ≤ 100000; omega) (by show R.length ≤ 100000; omega)
       refine Qbg (q := fun p => p.1.ok ∧ Gz p.2) (p := (d2.step, _)) ⟨hd3, hz⟩ ?_
       exact RM.w0
   ·refine Br.no (Bool.eq_false_iff.2 fun z => c4 (by simpa using z)) (Go0 ?_)
    have hz := h.gz om he
    refine Qbg (q := fun p => p.1.ok ∧ Gz p.2) (p := (d2, _)) ⟨hd2, hz⟩ ?_
    exact RM.w0
theorem QsR : HB 41 := hB Tryz.func41
end Go.Proofs
