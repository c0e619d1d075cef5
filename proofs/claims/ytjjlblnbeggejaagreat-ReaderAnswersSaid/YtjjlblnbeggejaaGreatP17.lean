/- Contracts, lemmas; no condition. -/
import Derived.Test.YtjjlblnbeggejaaGreatP10
import Derived.Test.YtjjlblnbeggejaaGreatEnv
import Derived.Test.YtjjlblnbeggejaaGreatP15
import Derived.Test.YtjjlblnbeggejaaGreatP16
set_option linter.all false
section
open Go Go.Am
namespace Go.Proofs
set_option maxRecDepth 20000
variable {n i j k : Nat} {z t : List C} {α : Type} {l : List Req}
theorem Qbn (n : Int) : PS 216 [.c (.int .i64 n)] (.c (.bool (QF n))) := by
 refine ov0 hΓ Tryz.func216 9 0 [.tmp 2] Tryz.ntmps216 Tryz.results216 ?_
 simp only [S.c.injEq, C.bool.injEq, QF]
 rw [QxW]
 simp
theorem Qbm : HB 216 := hB Tryz.func216
theorem Qb6 (n : Int) : PS 264 [.c (.int .i64 n)] (.c (.bool (QP n))) := by
 refine ov hΓ Tryz.func264 9 0 [.tmp 2] Tryz.ntmps264 Tryz.results264 ?_
 conv=>whnf
 refine CallN.pure Qbm (Qbn _ ) (leA.refl rfl) rfl (Go0 ?_)
 simp only [S.c.injEq, C.bool.injEq, QF, QP]
 rw [QxW]
 simp [or_assoc]
theorem Qb1 : HB 264 := hB Tryz.func264
theorem Qb3 (d : Dev) : PS 210 [d.s] (.t [.inl (.int .i64 (QH d.zones)), .inl (.int .i64 (Qi d.zones))]) := by
 refine ov0 hΓ Tryz.func210 34 0 [.tmp 2, .tmp 3] Tryz.ntmps210 Tryz.results210 ?_
 refine Lp.mk hΓ (ι := Nat) (fun k => [(6, .c (.int .i64 k)), (4, .c (.int .i64 (QH (d.zones.take k)))), (5, .c (.int .i64 (Qi (d.zones.take k)))), (1, .c (.ptr 0 0))])
  (fun _ => [.vr [.int .i64 d.size, .int .i64 d.maxOpen, .int .i64 d.maxActive, Qca d.zones]]) (fun k => k ≤ d.zones.length) (fun k => d.zones.length - k) 0 (Qxx _) ?_ ?_
 ·exact Mv.mk' 1 rfl ⟨O.wk.vr (Qv rfl), trivial⟩ ⟨wkS.imm rfl, wkS.imm rfl, wkS.imm rfl, wkS.c (wkC.ptr (by decide)), trivial⟩ (Qxx _)
 ·intro k hk
  refine Go1 fun _h=>?_
  refine Br.of (fun h=>Go0 ?_) (fun h=>Go0 ?_)
  ·refine CallN.pure Qbm (Qbn _ ) (leA.refl rfl) rfl (Go0 ?_)
   have hlt : k < d.zones.length := by omega
   have e1 := QgH d.zones k hlt
   have e2 := Qft d.zones k hlt
   have l1 := Qjx (d.zones.take (k + 1))
   have l2 := Qgq (d.zones.take (k + 1))
   have l3 : (d.zones.take (k + 1)).length ≤ d.zones.length := by simp; omega
   have w0 := Qa (↑k + 1) om om
   refine Br.of (fun ho=>Go0 ?_) (fun ho=>Go0 ?_)
   ·refine CallN.pure Qb1 (Qb6 _ ) (leA.refl rfl) rfl (Go0 ?_)
    try simp only [Qxy] at ho
    rw [ho] at e1
    have w1 := Qa (↑(QH (d.zones.take k)) + 1) om (by simp at e1; omega)
    refine Br.of (fun ha=>Go0 ?_) (fun ha=>Go0 ?_)
    ·try simp only [Qxy] at ha
     rw [ha] at e2
     have w2 := Qa (↑(Qi (d.zones.take k)) + 1) om (by simp at e2; omega)
     refine ⟨k + 1, om, om, Mv.mk' 1 rfl ⟨O.wk.vr (Qv rfl), trivial⟩ ⟨wkS.c (wkC.int (by rw [w0]; rfl)), wkS.c (wkC.int (by rw [w1, e1]; rfl)), wkS.c (wkC.int (by rw [w2, e2]; rfl)), wkS.c (wkC.ptr (by decide)), trivial⟩ (Qxx _)⟩
    ·try simp only [Qxy] at ha
     rw [ha] at e2
     refine ⟨k + 1, om, om, Mv.mk' 1 rfl ⟨O.wk.vr (Qv rfl), trivial⟩ ⟨wkS.c (wkC.int (by rw [w0]; rfl)), wkS.c (wkC.int (by rw [w1, e1]; rfl)), wkS.c (wkC.int (by rw [e2]; rfl)), wkS.c (wkC.ptr (by decide)), trivial⟩ (Qxx _)⟩
   ·refine CallN.pure Qb1 (Qb6 _ ) (leA.refl rfl) rfl (Go0 ?_)
    try simp only [Qxy] at ho
    rw [ho] at e1
    refine Br.of (fun ha=>Go0 ?_) (fun ha=>Go0 ?_)
    ·try simp only [Qxy] at ha
     rw [ha] at e2
     have w2 := Qa (↑(Qi (d.zones.take k)) + 1) om (by simp at e2; omega)
     refine ⟨k + 1, om, om, Mv.mk' 1 rfl ⟨O.wk.vr (Qv rfl), trivial⟩ ⟨wkS.c (wkC.int (by rw [w0]; rfl)), wkS.c (wkC.int (by rw [e1]; rfl)), wkS.c (wkC.int (by rw [w2, e2]; rfl)), wkS.c (wkC.ptr (by decide)), trivial⟩ (Qxx _)⟩
    ·try simp only [Qxy] at ha
     rw [ha] at e2
     refine ⟨k + 1, om, om, Mv.mk' 1 rfl ⟨O.wk.vr (Qv rfl), trivial⟩ ⟨wkS.c (wkC.int (by rw [w0]; rfl)), wkS.c (wkC.int (by rw [e1]; rfl)), wkS.c (wkC.int (by rw [e2]; rfl)), wkS.c (wkC.ptr (by decide)), trivial⟩ (Qxx _)⟩
  ·have : k = d.zones.length := by omega
   subst this
   simp
theorem Qb2 : HB 210 := hB Tryz.func210
theorem QjL (z : Zone) (size : Int) : PS 209 [z.s, .c (.int .i64 size)] (.c (.bool (Am.right z size))) := by
 have F : ∀ (b : Bool), Am.right z size = b → (S.c (C.bool b) = S.c (.bool (Am.right z size))) := fun b h => by rw [h]
 refine ov hΓ Tryz.func209 62 0 [.tmp 4] Tryz.ntmps209 Tryz.results209 ?_
 refine Go1 fun _h=>?_
 (first|refine Qu9 (fun h1=>?_) (fun h1=>?_)|refine Br.mk (fun h1=>?_) (fun h1=>?_)<;>simp [-List.length_eq_zero_iff,-List.getD_eq_getElem?_getD] at h1)<;>(try simp only [Qxy] at h1)<;>(conv=>whnf)
 ·refine Go0 ?_
  refine F _ ?_
  simp only [Am.right, QyX, QxM]; left; omega
 ·refine Go0 ?_
  refine Lp.mk hΓ (ι := Nat) (fun k => [(6, .c (.int .i64 k)), (5, .c (.int .i64 z.sectors.length)), (2, .c (.ptr 0 0)), (1, .c (.int .i64 size))]) (fun _ => [.vr [.int .i64 z.state, .int .i64 z.durable, Qay z.sectors]]) (fun k => k ≤ z.sectors.length ∧ QbX (z.sectors.take k) = true) (fun k => z.sectors.length - k) 0 ⟨Qxx _, rfl⟩ ?_ ?_
  ·exact Mv.mk' 1 rfl ⟨O.wk.vr (Qv rfl), trivial⟩ ⟨wkS.imm rfl, wkS.imm rfl, wkS.c (wkC.ptr (by decide)), wkS.imm rfl, trivial⟩ (Qxx _)
  ·rintro k ⟨hk, hk2⟩
   refine Go0 ?_
   refine Br.of (fun h=>Go1 fun _h=>?_) (fun h=>Go0 ?_)
   ·have hlt : k < z.sectors.length := by omega
    refine Br.of (fun h6=>Go0 ?_) (fun h6=>Go0 ?_)
    ·refine F _ ?_
     rw [Am.right, Qiu _ k hlt (by simp at h6 ⊢; omega), Qyq]
    ·have w0 := Qa (↑k + 1) om om
     refine ⟨k + 1, ⟨om, ?_⟩, om, Mv.mk' 1 rfl ⟨O.wk.vr (Qv rfl), trivial⟩ ⟨wkS.c (wkC.int (by rw [w0]; rfl)), wkS.imm rfl, wkS.c (wkC.ptr (by decide)), wkS.imm rfl, trivial⟩ (Qxx _)⟩
     rw [QhO _ _ hlt, hk2]
     simp at h6 ⊢; omega
   ·have : k = z.sectors.length := by omega
    subst this
    have hs : QbX z.sectors = true := by simpa using hk2
    have G : ∀ (b : Bool) (p : Prop) [Decidable p], b = decide p → ((0 ≤ z.state ∧ z.state ≤ 5 ∧ (z.sectors.length : Int) ≤ size ∧ 0 ≤ z.durable ∧ z.durable ≤ z.sectors.length ∧ (z.state = 0 ∨ z.state = 5 → z.sectors.length = 0) ∧ (z.state = 4 → z.durable = z.sectors.length) ∧
  (z.state ≠ 0 → z.state ≠ 4 → z.state ≠ 5 → (z.sectors.length : Int) < size)) ↔ p) → (S.c (C.bool b) = S.c (.bool (Am.right z size))) := by
     intro b p _ hb hp
     rw [hb]
     simp only [S.c.injEq, C.bool.injEq, Am.right, hs, Bool.and_true, hp]
    refine Br.of (fun h2=>Go0 ?_) (fun h2=>Go0 ?_)
    ·refine Br.of (fun h3=>Go0 ?_) (fun h3=>Go0 ?_)
     ·refine G _ ((z.sectors.length : Int) = 0) (by rw [QxW]; simp) om
     ·exact absurd h2 h3
    ·refine Br.of (fun h3=>Go0 ?_) (fun h3=>Go0 ?_)
     ·refine G _ ((z.sectors.length : Int) = 0) (by rw [QxW]; simp) om
     ·refine Br.of (fun h4=>Go0 ?_) (fun h4=>Go0 ?_)
      ·refine G _ (z.durable = (z.sectors.length : Int)) (by rw [QxW]; simp) om
      ·refine G _ ((z.sectors.length : Int) < size) rfl om
theorem Qj0 : HB 209 := hB Tryz.func209
theorem Qcr (d : Dev) : PS 126 [d.s] (.c (.int .i64 (check d))) := by
 refine ov hΓ Tryz.func126 82 0 [.tmp 2] Tryz.ntmps126 Tryz.results126 ?_
 refine Go1 fun _h=>?_
 (first|refine Qu9 (fun h1=>?_) (fun h1=>?_)|refine Br.mk (fun h1=>?_) (fun h1=>?_)<;>simp [-List.length_eq_zero_iff,-List.getD_eq_getElem?_getD] at h1)<;>(try simp only [Qxy] at h1)<;>(conv=>whnf)
 ·refine Go0 ?_
  have : Qbg d = false := by simp only [Qbg, QxM]; omega
  simp only [check, this]; rfl
 ·refine Go0 ?_
  have hc : Qbg d = true := by simp only [Qbg, Qxw]; omega
  refine Lp.mk hΓ (ι := Nat) (fun k => [(3, .c (.int .i64 k)), (1, .c (.ptr 0 0))])
   (fun _ => [.vr [.int .i64 d.size, .int .i64 d.maxOpen, .int .i64 d.maxActive, Qca d.zones]]) (fun k => k ≤ d.zones.length ∧ (d.zones.take k).all (fun z => Am.right z d.size) = true) (fun k => d.zones.length - k) 0 ⟨Qxx _, rfl⟩ ?_ ?_
  ·exact Mv.mk' 1 rfl ⟨O.wk.vr (Qv rfl), trivial⟩ ⟨wkS.imm rfl, wkS.c (wkC.ptr (by decide)), trivial⟩ (Qxx _)
  ·rintro k ⟨hk, hk2⟩
   refine Go1 fun _h=>?_
   refine Br.of (fun h=>Go0 ?_) (fun h=>Go0 ?_)
   ·have hlt : k < d.zones.length := by omega
    refine Dr.mk hΓ hMix (by kernel_rfl) (Go0 ?_)
    refine CallP.mk Qj0 (QjL (d.zones.getD k default) d.size ) (leA.refl rfl) rfl (Go0 ?_)
    refine Br.of (fun h2=>Go0 ?_) (fun h2=>Go0 ?_)
    ·have : d.zones.all (fun z => Am.right z d.size) = false := Qgc _ _ k hlt h2
     simp only [check, hc, this]; rfl
    ·have w0 := Qa (↑k + 1) om om
     refine ⟨k + 1, ⟨om, ?_⟩, om, Mv.mk' 1 rfl ⟨O.wk.vr (Qv rfl), trivial⟩ ⟨wkS.c (wkC.int (by rw [w0]; rfl)), wkS.c (wkC.ptr (by decide)), trivial⟩ (Qxx _)⟩
     rw [Qmd _ _ k hlt, hk2, h2]; rfl
   ·have : k = d.zones.length := by omega
    subst this
    have hall : d.zones.all (fun z => Am.right z d.size) = true := by simpa using hk2
    refine CallN.pure Qb2 (Qb3 d ) (leA.refl rfl) rfl (Go0 ?_)
    (first|refine Qu9 (fun h3=>?_) (fun h3=>?_)|refine Br.mk (fun h3=>?_) (fun h3=>?_)<;>simp [-List.length_eq_zero_iff,-List.getD_eq_getElem?_getD] at h3)<;>(try simp only [Qxy] at h3)<;>(conv=>whnf)
    ·refine Go0 ?_
     have : decide ((QH d.zones : Int) ≤ d.maxOpen ∧ (Qi d.zones : Int) ≤ d.maxActive) = false := by simp only [QxM]; omega
     simp only [check, hc, hall, this]; rfl
    ·refine Go0 ?_
     have : decide ((QH d.zones : Int) ≤ d.maxOpen ∧ (Qi d.zones : Int) ≤ d.maxActive) = true := by simp only [Qxw]; omega
     simp only [check, hc, hall, this]; rfl
theorem Qcq : HB 126 := hB Tryz.func126
theorem QgG (zones size open_ act : Int) (hz : -9223372036854775808 ≤ zones ∧ zones ≤ 9223372036854775807) : PS 138 [.c (.int .i64 zones), .c (.int .i64 size), .c (.int .i64 open_), .c (.int .i64 act)] (.t [.inr (newD zones size open_ act).cells, .inl (.int .i64 (newE zones size open_ act))]) := by
 refine PSpec.rm ?_
 refine ov0 hΓ Tryz.func138 32 0 [.cell 8 29, .tmp 9] Tryz.ntmps138 Tryz.results138 ?_
 (first|refine Qu9 (fun h1=>?_) (fun h1=>?_)|refine Br.mk (fun h1=>?_) (fun h1=>?_)<;>simp [-List.length_eq_zero_iff,-List.getD_eq_getElem?_getD] at h1)<;>(try simp only [Qxy] at h1)<;>(conv=>whnf)
 ·refine Go0 ?_
  have he : newE zones size open_ act = 11 := by
   have : decide (1 ≤ zones ∧ zones ≤ 32) = false := by simp only [QxM]; omega
   simp only [newE, this]; rfl
  have hd : newD zones size open_ act = dev0 := by simp only [newD, he]; rfl
  rw [he, hd]
  exact RM.imm rfl (wkS.t ⟨⟨wkC.imm rfl, wkC.imm rfl, wkC.imm rfl, wkC.nil rfl, trivial⟩, wkC.imm rfl, trivial⟩)
 ·refine Go0 ?_
  have hh : decide (1 ≤ zones ∧ zones ≤ 32) = true := by simp only [Qxw]; omega
  have hlen : zones.toNat = (List.replicate zones.toNat QbP).length := by simp
  have hfz : ∀ (x : Bool), leF (.isl 3 zones.toNat (Qbx [.int .i64 0, .int .i64 0, .nils]) x) (Qca (List.replicate zones.toNat QbP)) := fun x => leF.isl hlen (fun i hi j hj => QhT _ rfl _ i j hi hj) (fun e => by cases e)
  have hcells := fun i hi j hj => QhT _ rfl zones.toNat i j hi hj
  refine QwF 1 rfl (Qxx _) (Qrx _ rfl _) (ts' := [(8, .c (.ptr 0 0)), (10, .c (.ptr 2 0))]) (args' := [(newX zones size open_ act).s]) (H' := [.vr [.int .i64 0, .int .i64 0, .int .i64 0, .nils], .dead, .vr (newX zones size open_ act).cells]) 3 rfl
   ⟨O.wk.vr (Qv rfl), trivial, O.wk.vr ⟨wkC.imm rfl, wkC.imm rfl, wkC.imm rfl, wkC.fz rfl hlen hcells (fun e => by cases e), trivial⟩, trivial⟩
   ⟨wkS.c (wkC.ptr (by decide)), wkS.c (wkC.ptr (by decide)), trivial⟩
   ⟨wkS.a ⟨wkC.imm rfl, wkC.imm rfl, wkC.imm rfl, wkC.fz rfl hlen hcells (fun e => by cases e), trivial⟩, trivial⟩ (Qxx _) ?_
  refine CallN.pure Qcq (Qcr (newX zones size open_ act) ) (leA.refl rfl) rfl (Go0 ?_)
  refine Br.of (fun h2=>Go0 ?_) (fun h2=>Go0 ?_)
  ·have he : newE zones size open_ act = check (newX zones size open_ act) := by simp only [newE, hh]; rfl
   have hd : newD zones size open_ act = dev0 := by simp only [newD, he]; rw [Qxu h2]
   rw [he, hd]
   exact RM.imm rfl (wkS.t ⟨⟨wkC.imm rfl, wkC.imm rfl, wkC.imm rfl, wkC.nil rfl, trivial⟩, wkC.imm rfl, trivial⟩)
  ·have he : newE zones size open_ act = 0 := by simp only [newE, hh]; exact h2
   have hd : newD zones size open_ act = newX zones size open_ act := by simp only [newD, he]; rfl
   rw [he, hd]
   exact RM.imm rfl (wkS.imm rfl)
theorem Qgt : HB 138 := hB Tryz.func138
theorem Qo0 (v : Int) (n : Nat) (i : Nat) (hi : i < n) (j : Nat) : QaK .i64 (List.replicate n v) i j = .int .i64 v := by
 simp [QaK, rowG, intC, List.getD, hi]
theorem Qni (hi : i < n) (hj : j < 1) (hz : z = [.int .i64 0]) : Qbx z i j = QaK .i64 (List.replicate n 0) i j := by
 rw [Qo0 0 n i hi j]
 subst hz
 have : j = 0 := by omega
 subst this
 rfl
theorem Qg9 (x : α) (n : Int) : n.toNat = (List.replicate n.toNat x).length := by simp
theorem Qt5 : ((List.replicate n ([] : List Ent)).getD i default).length = 0 := by
 by_cases h : i < n
 ·simp [List.getD, h]
 ·simp [List.getD, h, QyB h]; rfl
theorem Qkx (n : Int) (h1 : 1 ≤ n) (h2 : n ≤ 8) : PS 211 [.c (.int .i64 n)] (.t [.inr [QC (List.replicate n.toNat [])], .inl (.int .i64 0)]) := by
 refine PSpec.rm ?_
 refine ov0 hΓ Tryz.func211 14 0 [.cell 2 32, .tmp 3] Tryz.ntmps211 Tryz.results211 ?_
 (first|refine Qu9 (fun h=>?_) (fun h=>?_)|refine Br.mk (fun h=>?_) (fun h=>?_)<;>simp [-List.length_eq_zero_iff,-List.getD_eq_getElem?_getD] at h)<;>(try simp only [Qxy] at h)<;>(conv=>whnf)
 ·omega
 ·refine Go0 ?_
  refine RM.fz 1 rfl (Qxx _) (fun i _ j hj => ?_) ?_
  ·have hj' : j < 1 := hj
   have : j = 0 := by omega
   subst this
   rfl
  refine QvG ?_ ?_ (Qxx _)
  ·exact WH.nil
  ·refine WS.t (WTL.consL (WL.cons (WC.fz rfl (Qg9 _ _) (fun i _ j hj => ?_) (fun e => by cases e)) WL.nil) (WTL.consC (WC.imm rfl) WTL.nil))
   have hj' : j < 1 := hj
   have : j = 0 := by omega
   subst this
   exact leF.nil Qt5
theorem Qky : HB 211 := hB Tryz.func211
theorem Qi9 (n : Int) (h1 : 1 ≤ n) (h2 : n ≤ 32) : PS 212 [.c (.int .i64 n)] (.t [.inr [Qh (List.replicate n.toNat 0), Qh (List.replicate n.toNat 0)], .inl (.int .i64 0)]) := by
 refine PSpec.rm ?_
 refine ov0 hΓ Tryz.func212 16 0 [.cell 2 34, .tmp 3] Tryz.ntmps212 Tryz.results212 ?_
 (first|refine Qu9 (fun h=>?_) (fun h=>?_)|refine Br.mk (fun h=>?_) (fun h=>?_)<;>simp [-List.length_eq_zero_iff,-List.getD_eq_getElem?_getD] at h)<;>(try simp only [Qxy] at h)<;>(conv=>whnf)
 ·omega
 ·refine Go0 ?_
  refine Qvd hΓ hMix [4294967296] [] (by kernel_rfl) (Go0 ?_)
  refine Qvj rfl ?_
  refine WS.t (WTL.consL (WL.cons (WC.leF rfl (leF.isl (Qg9 _ _) (fun i hi j hj => leF.of_eq (Qni hi hj rfl)) (fun e => by cases e))) (WL.cons (WC.leF rfl (leF.isl (Qg9 _ _) (fun i hi j hj => leF.of_eq (Qni hi hj rfl)) (fun e => by cases e))) WL.nil)) (WTL.consC (WC.imm rfl) WTL.nil))
theorem QiQ : HB 212 := hB Tryz.func212
def minG (k : Nat) : Nat → Nat → C := fun i _ => .int .i64 (if i < k then -1 else 0)
theorem QmR (hz : z = [.int .i64 0]) (hj : j < 1) : Qbx z i j = minG 0 i j := by
 subst hz
 have : j = 0 := by omega
 subst this
 rfl
theorem Qoz (hj : j < 1) : updG (minG k) k 0 [.int .i64 (-1)] i j = minG (k + 1) i j := by
 rw [QX]
 unfold minG
 by_cases c : i = k
 ·subst c
  rw [Qxt ⟨rfl, om⟩, Qxt om]
 ·rw [Qxu (fun e => c e.1)]
  by_cases h : i < k
  ·rw [Qxt h, Qxt om]
  ·rw [Qxu h, Qxu om]
theorem QoY (hi : i < n) : minG n i j = QaK .i64 (List.replicate n (-1)) i j := by
 rw [Qo0 (-1) n i hi j]
 unfold minG
 rw [Qxt hi]
theorem Qji (n : Int) (h1 : 1 ≤ n) (h2 : n ≤ 8) : PS 213 [.c (.int .i64 n)] (.t [.inr [Qh (List.replicate n.toNat (-1))], .inl (.int .i64 0)]) := by
 refine PSpec.rm ?_
 refine ov0 hΓ Tryz.func213 26 0 [.cell 2 36, .tmp 3] Tryz.ntmps213 Tryz.results213 ?_
 (first|refine Qu9 (fun h=>?_) (fun h=>?_)|refine Br.mk (fun h=>?_) (fun h=>?_)<;>simp [-List.length_eq_zero_iff,-List.getD_eq_getElem?_getD] at h)<;>(try simp only [Qxy] at h)<;>(conv=>whnf)
 ·omega
 ·refine Go0 ?_
  refine QuY hΓ (ι := Nat) [0, 2, 4] (fun i => [(5, .c (.int .i64 i))]) (fun k => [.vr [.nils], .arr 3 1 n.toNat (minG k), .vr [.sl 1 1 n.toNat n.toNat true]]) (fun i => i ≤ n.toNat) (fun i => n.toNat - i) 0 (Qxx _) ?_ ?_
  ·refine Qvm ?_
   exact fun i _ j hj => WC.eq (QmR rfl hj) rfl
  ·intro k hk
   refine Go0 ?_
   refine Br.of (fun h3=>Go0 ?_) (fun h3=>Go0 ?_)
   ·have w0 := Qa (↑k + 1) om om
    refine ⟨k + 1, om, om, ?_⟩
    refine Qvm ?_
    exact fun i _ j hj => WC.eq (Qoz hj) rfl
   ·have : k = n.toNat := by omega
    subst this
    refine RM.rg 1 (g' := QaK .i64 (List.replicate n.toNat (-1))) rfl (fun i hi j hj => QoY hi) rfl ?_
    refine RM.fz 1 rfl (Qxx _) (fun _ _ _ _ => rfl) ?_
    refine QvG ?_ ?_ (Qxx _)
    ·exact WH.nil
    ·refine WS.t (WTL.consL (WL.cons (WC.fz rfl (Qg9 _ _) (fun i hi j hj => leF.refl) (fun e => by cases e)) WL.nil) (WTL.consC (WC.imm rfl) WTL.nil))
theorem QiY : HB 213 := hB Tryz.func213
theorem QiR (n : Int) (h1 : 1 ≤ n) (h2 : n ≤ 4) : PS 214 [.c (.int .i64 n)] (.t [.inr [.int .i64 0, Qh (List.replicate n.toNat (-1)), retC []], .inl (.int .i64 0)]) := by
 refine PSpec.rm ?_
 refine ov0 hΓ Tryz.func214 26 0 [.cell 2 39, .tmp 3] Tryz.ntmps214 Tryz.results214 ?_
 (first|refine Qu9 (fun h=>?_) (fun h=>?_)|refine Br.mk (fun h=>?_) (fun h=>?_)<;>simp [-List.length_eq_zero_iff,-List.getD_eq_getElem?_getD] at h)<;>(try simp only [Qxy] at h)<;>(conv=>whnf)
 ·omega
 ·refine Go0 ?_
  refine QuY hΓ (ι := Nat) [0, 2, 4] (fun i => [(5, .c (.int .i64 i))]) (fun k => [.vr [.int .i64 0, .nils, .nils], .arr 3 1 n.toNat (minG k), .vr [.int .i64 0, .sl 1 1 n.toNat n.toNat true, .nils]]) (fun i => i ≤ n.toNat) (fun i => n.toNat - i) 0 (Qxx _) ?_ ?_
  ·refine Qvm ?_
   exact fun i _ j hj => WC.eq (QmR rfl hj) rfl
  ·intro k hk
   refine Go0 ?_
   refine Br.of (fun h3=>Go0 ?_) (fun h3=>Go0 ?_)
   ·have w0 := Qa (↑k + 1) om om
    refine ⟨k + 1, om, om, ?_⟩
    refine Qvm ?_
    exact fun i _ j hj => WC.eq (Qoz hj) rfl
   ·have : k = n.toNat := by omega
    subst this
    refine RM.rg 1 (g' := QaK .i64 (List.replicate n.toNat (-1))) rfl (fun i hi j hj => QoY hi) rfl ?_
    refine RM.fz 1 rfl (Qxx _) (fun _ _ _ _ => rfl) ?_
    refine QvG ?_ ?_ (Qxx _)
    ·exact WH.nil
    ·refine WS.t (WTL.consL (WL.cons (WC.imm rfl) (WL.cons (WC.fz rfl (Qg9 _ _) (fun i hi j hj => leF.refl) (fun e => by cases e)) (WL.cons (WC.nil rfl) WL.nil))) (WTL.consC (WC.imm rfl) WTL.nil))
theorem QjB : HB 214 := hB Tryz.func214
theorem Qh3 {l : List Int} {x : Int} (hn : n = l.length) (hi : i < l.length + 1) (hj : j < 1) : appG (QaK .i64 l) n (QaE 1 (C.int .i64 x :: t)) i j = QaK .i64 (l ++ [x]) i j :=
 QeY (f := intC .i64) hn (fun j hj => by
  have : j = 0 := by omega
  subst this; rfl) hi hj
theorem Qjz (n : Int) (h1 : 1 ≤ n) (h2 : n ≤ 8) : PS 215 [.c (.int .i64 n)] (.t [.inr [.int .i64 n, reqC []], .inl (.int .i64 0)]) := by
 refine PSpec.rm ?_
 refine ov0 hΓ Tryz.func215 13 0 [.cell 2 164, .tmp 3] Tryz.ntmps215 Tryz.results215 ?_
 (first|refine Qu9 (fun h=>?_) (fun h=>?_)|refine Br.mk (fun h=>?_) (fun h=>?_)<;>simp [-List.length_eq_zero_iff,-List.getD_eq_getElem?_getD] at h)<;>(try simp only [Qxy] at h)<;>(conv=>whnf)
 ·omega
 ·refine Go0 ?_
  exact QuV
theorem Qi3 : HB 215 := hB Tryz.func215
def QcU (l : List Req) (k : Nat) : Prop := ∀ i, i < k → 0 ≤ (l.getD i default).serial ∧ (0 < i → (l.getD (i - 1) default).serial < (l.getD i default).serial)
def QfJ (l : List Req) (k : Nat) : Int := if k = 0 then -1 else (l.getD (k - 1) default).serial
theorem ringOk_iff {r : Rng} : QbH r = true ↔ (1 ≤ r.depth ∧ r.depth ≤ 8 ∧ (r.items.length : Int) ≤ r.depth) ∧ QcU r.items r.items.length := by
 unfold QbH QcU
 rw [QxA, Qxw, Qxw]
theorem Qq {b : Bool} (h : ¬ b = true) : b = false := by cases b; rfl; exact absurd rfl h
theorem QsM (h : QcU l k) : -1 ≤ QfJ l k := by
 unfold QfJ
 split
 ·omega
 ·have := (h (k - 1) om).1; omega
theorem Qoa (h : QcU l k) (hk : QfJ l k < (l.getD k default).serial) : QcU l (k + 1) := by
 refine Q0 h ⟨?_, fun h0 => ?_⟩
 ·have := QsM h; omega
 ·unfold QfJ at hk
  rw [Qxu om] at hk
  exact hk
theorem QrD (hk : k < l.length) (h : (l.getD k default).serial ≤ QfJ l k) : ¬ QcU l l.length := fun e => by
 have := e k hk
 unfold QfJ at h
 split at h
 ·omega
 ·have := this.2 om; omega
theorem QjZ (r : Rng) (hr : r.items.length ≤ 1000000) : PS 221 [.a r.cells] (.c (.bool (QbH r))) := by
 refine PSpec.rm ?_
 refine ov0 hΓ Tryz.func221 36 0 [.tmp 2] Tryz.ntmps221 Tryz.results221 ?_
 (first|refine Qu9 (fun h=>?_) (fun h=>?_)|refine Br.mk (fun h=>?_) (fun h=>?_)<;>simp [-List.length_eq_zero_iff,-List.getD_eq_getElem?_getD] at h)<;>(try simp only [Qxy] at h)<;>(conv=>whnf)
 ·rw [Qq (fun e => by have := (ringOk_iff.1 e).1; omega : ¬ QbH r = true)]
  exact QuV
 ·refine Go1 fun _h=>?_
  refine QuY hΓ (ι := Nat) [23, 24] (fun k => [(25, .c (.int .i64 k)), (3, .c (.int .i64 (QfJ r.items k)))]) (fun _ => [.vr r.cells]) (fun k => k ≤ r.items.length ∧ QcU r.items k) (fun k => r.items.length - k) 0 ⟨Qxx _, fun i hi => absurd hi (QxN _)⟩ ?_ ?_
  ·exact QuW
  ·rintro k ⟨hk, hk2⟩
   refine Go0 ?_
   refine Br.of (fun h2=>?_) (fun h2=>?_)<;>(try simp only [Qxy] at h2)<;>refine Go0 ?_
   ·refine Br.of (fun h3=>?_) (fun h3=>?_)<;>(try simp only [Qxy] at h3)<;>refine Go0 ?_
    ·rw [Qq (fun e => QrD om h3 (ringOk_iff.1 e).2 : ¬ QbH r = true)]
     exact QuV
    ·have w0 := Qa (↑k + 1) om om
     refine ⟨k + 1, ⟨om, Qoa hk2 om⟩, om, ?_⟩
     exact QuW
   ·have : k = r.items.length := by omega
    subst this
    rw [ringOk_iff.2 ⟨om, hk2⟩]
    exact QuV
theorem Qj4 : HB 221 := hB Tryz.func221
def QbC (c : Conf) (k : Nat) : List Int := (List.range k).map fun i => 2 * Qz c + (i : Nat)
theorem QbT (c : Conf) (k : Nat) : (QbC c k).length = k := by simp [QbC]
theorem Qhw (c : Conf) (k : Nat) : QbC c (k + 1) = QbC c k ++ [2 * Qz c + (k : Nat)] := by simp [QbC, List.range_succ]
def Qs (c : Conf) : St := ⟨c, newD c.zones c.size 3 3, List.replicate c.shards.toNat [], List.replicate c.zones.toNat 0, List.replicate c.zones.toNat 0, List.replicate c.shards.toNat (-1), 0, List.replicate c.queues.toNat (-1), [], QbC c (Qp c).toNat, -1, -1,
 List.replicate c.queues.toNat ⟨c.depth, []⟩, List.replicate c.queues.toNat default, default, default, 1, 0, 0, -1, false, false, []⟩
theorem Qhk {c : Conf} (h : QB c = 0) : newE c.zones c.size 3 3 = 0 := by
 obtain ⟨hr, hd, _⟩ := QR h
 have hs := Qak hr
 rw [confR_iff] at hr
 unfold Qp at hd
 unfold newE
 rw [Qxt (by simp; omega)]
 refine check_ok.2 ⟨?_, ?_, ?_, ?_⟩
 ·simp only [Qbg, newX, Qxw, Qx6]
  omega
 ·intro z hz
  simp only [newX, List.mem_replicate] at hz
  rw [hz.2]
  simp only [right, newX, QbP, QbX, QxA, Qxw]
  refine ⟨?_, rfl⟩
  simp
  omega
 ·have : QH (newX c.zones c.size 3 3).zones = 0 := by simp [QH, newX, QbP, QF]
  rw [this]; simp [newX]
 ·have : Qi (newX c.zones c.size 3 3).zones = 0 := by simp [Qi, newX, QbP, QP]
  rw [this]; simp [newX]
theorem Qs5 (n i : Nat) (d : α) : (List.replicate n d).getD i d = d := by
 by_cases h : i < n
 ·simp [List.getD, h]
 ·simp [List.getD, h, QyB h]
theorem QoN (hz : z = (default : Wrk).cells) (hj : j < 12) : Qbx z i j = wrkG (List.replicate n default) i j := by
 subst hz
 simp only [wrkG, rowG, Qs5, Qbx]
 match j, hj with
 | 0, _ => rfl
 | 1, _ => rfl
 | 2, _ => rfl
 | 3, _ => rfl
 | 4, _ => rfl
 | 5, _ => rfl
 | 6, _ => rfl
 | 7, _ => rfl
 | 8, _ => rfl
 | 9, _ => rfl
 | 10, _ => rfl
 | 11, _ => rfl
theorem QsR {ρ : Nat → Nat} {m : Nat} {t : Bool} (hz : z = (default : Wrk).cells) : WC ρ m (.isl 12 n (Qbx z) t) (wrkC (List.replicate n default)) :=
 WC.leF rfl (leF.isl (by simp) (fun i _ j hj => leF.of_eq (QoN hz hj)) (fun e => by cases e))
theorem Qot {l : List Rng} {x : Rng} (hn : n = l.length) (hi : i < l.length + 1) (hj : j < 2) : appG (rngG l) n (QaE 2 (C.int .i64 x.depth :: reqC x.items :: t)) i j = rngG (l ++ [x]) i j :=
 QeY (f := Rng.cell) hn (fun j hj => by
  match j, hj with
  | 0, _ => rfl
  | 1, _ => rfl) hi hj
def Qcl (c : Conf) (d : Dev) : St := { Qs c with dev := d }
set_option maxHeartbeats 4000000 in
theorem QqQ (c : Conf) (d : Dev) (h : QB c = 0) : PS 139 [.a c.cells, .a d.cells] (.a (Qcl c d).cells) := by
 refine PSpec.rm ?_
 have hr := (QR h).1
 have hq := confR_iff.1 hr
 have hs := Qak hr
 have hd := Qct hr
 have hd2 := (QR h).2.1
 have hdz : Qp c = c.zones - 2 * Qz c := rfl
 refine ov0 hΓ Tryz.func139 95 0 [.cell 4 58] Tryz.ntmps139 Tryz.results139 ?_
 refine QuU QfZ (QfS c h ) (Go0 ?_)
 refine QuU Qky (Qkx c.shards om om ) (Go0 ?_)
 refine QuU QiQ (Qi9 c.zones om om ) (Go0 ?_)
 refine QuU QiY (Qji c.shards om om ) (Go0 ?_)
 refine QuU QjB (QiR c.queues om om ) (Go0 ?_)
 refine Qvd hΓ hMix [4294967296] [] (by kernel_rfl) (Go0 ?_)
 refine QuY hΓ (ι := Nat) [2, 4, 5, 15] (fun k => [(16, .c (.int .i64 k))]) (fun k => [.vr c.cells, .vr d.cells, .vr (default : St).cells, .vr (Lay.cells c), .vr [QC (Qs c).map], .vr [Qh (Qs c).live, Qh (Qs c).pend], .vr [Qh (Qs c).owner], .vr [.int .i64 0, Qh (Qs c).pins, retC []], .vr ((Qcl c d).cellsZ .nils (QC (Qs c).map) (.sl 9 2 k k false) (wrkC (Qs c).works) (evC [])), .arr 164 2 k (rngG (List.replicate k ⟨c.depth, []⟩))]) (fun k => k ≤ c.queues.toNat) (fun k => c.queues.toNat - k) 0 (Qxx _) ?_ ?_
 ·refine (Qv7 8 20 164 2 (rngG []) rfl rfl rfl rfl).trans ?_
  refine Qwy ?_ ?_
  ·exact QsR rfl
  ·intro i hi; omega
 ·intro q hq2
  refine Go0 ?_
  refine Br.of (fun h4=>Go0 ?_) (fun h4=>Go0 ?_)
  ·refine QuU Qi3 (Qjz c.depth om om ) (Go0 ?_)
   have w0 := Qa (↑q + 1) om om
   refine ⟨q + 1, om, om, ?_⟩
   refine Qvm ?_
   ·intro i hi j hj
    exact WC.eq ((Qot (x := ⟨c.depth, []⟩) (by simp) (by simpa using hi) hj).trans (by rw [List.replicate_succ'])) (Qau _ _)
  ·have : q = c.queues.toNat := by omega
   subst this
   refine QuY hΓ (ι := Nat) [2, 4, 15] (fun k => [(19, .c (.int .i64 (2 * Qz c + (k : Nat))))]) (fun k => [.vr c.cells, .vr d.cells, .vr (default : St).cells, .vr (Lay.cells c), .vr [QC (Qs c).map], .vr [Qh (Qs c).live, Qh (Qs c).pend], .vr [Qh (Qs c).owner], .vr [.int .i64 0, Qh (Qs c).pins, retC []], .vr ((Qcl c d).cellsZ (.sl 10 1 k k false) (QC (Qs c).map) (.sl 9 2 c.queues.toNat c.queues.toNat false) (wrkC (Qs c).works) (evC [])), .arr 164 2 c.queues.toNat (rngG (List.replicate c.queues.toNat ⟨c.depth, []⟩)), .arr 3 1 k (QaK .i64 (QbC c k))]) (fun k => k ≤ (Qp c).toNat) (fun k => (Qp c).toNat - k) 0 (Qxx _) ?_ ?_
   ·refine (Qv7 8 17 3 1 (QaK .i64 []) rfl rfl rfl rfl).trans ?_
    refine Qwy ?_ ?_
    ·exact fun i _ j _ => WC.imm (Qau _ _)
    ·intro i hi; omega
   ·intro k hk
    refine Go0 ?_
    refine Br.of (fun h3=>Go0 ?_) (fun h3=>Go0 ?_)
    ·have w1 : IntKind.i64.wrap (2 * Qz c + ↑k + 1) = 2 * Qz c + ↑(k + 1) := by
      rw [Qa _ om om]; omega
     refine ⟨k + 1, om, om, ?_⟩
     refine Qwy ?_ ?_
     ·exact fun i _ j _ => WC.imm (Qau _ _)
     ·intro i hi j hj
      rw [Qhw]
      exact WC.eq (Qh3 (QbT c k).symm (by rw [QbT]; exact hi) hj) rfl
    ·have : k = (Qp c).toNat := by omega
     subst this
     refine RM.fz 9 rfl (Qxx _) (fun _ _ _ _ => Qau _ _) ?_
     refine RM.fz 10 rfl (Qxx _) (fun _ _ _ _ => QwH rfl) ?_
     refine Qxs ?_ ?_
     ·exact QwZ rfl rfl (QbT _ _).symm (fun _ _ _ _ => leF.fzI rfl)
     ·exact QwX rfl (by simp [Qcl, Qs]) (fun _ _ _ _ => leF.refl)
theorem Qrf : HB 139 := hB Tryz.func139
theorem Qna (c : Conf) (h : QB c = 0) : PS 55 [.a c.cells] (.t [.inr (Qs c).cells, .inl (.int .i64 0)]) := by
 refine PSpec.rm ?_
 have hr := (QR h).1
 have hq := confR_iff.1 hr
 refine ov0 hΓ Tryz.func55 28 0 [.cell 2 58, .tmp 3] Tryz.ntmps55 Tryz.results55 ?_
 refine QuU Qfg (Qfj c ) (Go0 ?_)
 refine Br.no (by simpa using h) (Go0 ?_)
 refine QuU Qgt (QgG c.zones c.size 3 3 om ) (Go0 ?_)
 refine Br.no (by simpa using Qhk h) (Go0 ?_)
 refine QuU Qrf (QqQ c (newD c.zones c.size 3 3) h ) (Go0 ?_)
 exact QuV
theorem Qm6 : HB 55 := hB Tryz.func55
end Go.Proofs
end
