/- Contracts, lemmas; no condition. -/
import Derived.Test.YtmollgldghpbkaaGreatCtAV
import Derived.Test.YtmollgldghpbkaaGreatZRV
set_option linter.all false
section
open Go Go.Am
namespace Go.Proofs
set_option maxRecDepth 20000
theorem Qpm (v : Int) (n : Nat) (i : Nat) (hi : i < n) (j : Nat) : Qam .i64 (List.replicate n v) i j = .int .i64 v := by
 simp [Qam, rowG, intC, List.getD, hi]
theorem QgJ {n : Nat} {i : Nat} (hi : i < n) {j : Nat} (hj : j < 1) {z : List C} (hz : z = [.int .i64 0]) : Qbo z i j = Qam .i64 (List.replicate n 0) i j := by
 rw [Qpm 0 n i hi j]
 subst hz
 have : j = 0 := by omega
 subst this
 rfl
theorem Qc5 {α : Type} (x : α) (n : Int) : n.toNat = (List.replicate n.toNat x).length := by simp
theorem QsW {n : Nat} {i : Nat} : ((List.replicate n ([] : List Ent)).getD i default).length = 0 := by
 by_cases h : i < n
 ·simp [List.getD, h]
 ·simp [List.getD, h, Nat.le_of_not_lt h]; rfl
theorem Qts (n : Int) (h1 : 1 ≤ n) (h2 : n ≤ 8) : PS 153 [.c (.int .i64 n)] (.t [.inr [QH (List.replicate n.toNat [])], .inl (.int .i64 0)]) := by
 refine PSpec.rm ?_
 refine ov0 hΓ Tryz.func153 14 0 [.cell 2 32, .tmp 3] Tryz.ntmps153 Tryz.results153 ?_
 (first|refine Br.od (fun h=>?_) (fun h=>?_)|refine Br.mk (fun h=>?_) (fun h=>?_)<;>simp [-List.length_eq_zero_iff,-List.getD_eq_getElem?_getD] at h)<;>(try simp only [Int.toNat_natCast] at h)<;>(conv=>whnf)
 ·omega
 ·refine Go0 ?_
  refine RM.fz 1 rfl (Nat.zero_le _) (fun i _ j hj => ?_) ?_
  ·have hj' : j < 1 := hj
   have : j = 0 := by omega
   subst this
   rfl
  refine RM.wkW ?_ ?_ (Nat.zero_le _)
  ·exact WH.nil
  ·refine WS.t (WTL.consL (WL.cons (WC.fz rfl (Qc5 _ _) (fun i _ j hj => ?_) (fun e => by cases e)) WL.nil) (WTL.consC (WC.imm rfl) WTL.nil))
   have hj' : j < 1 := hj
   have : j = 0 := by omega
   subst this
   exact leF.nil QsW
theorem QsD : HB 153 := hB Tryz.func153
theorem Qrg (n : Int) (h1 : 1 ≤ n) (h2 : n ≤ 32) : PS 154 [.c (.int .i64 n)] (.t [.inr [Qi (List.replicate n.toNat 0), Qi (List.replicate n.toNat 0)], .inl (.int .i64 0)]) := by
 refine PSpec.rm ?_
 refine ov0 hΓ Tryz.func154 16 0 [.cell 2 34, .tmp 3] Tryz.ntmps154 Tryz.results154 ?_
 (first|refine Br.od (fun h=>?_) (fun h=>?_)|refine Br.mk (fun h=>?_) (fun h=>?_)<;>simp [-List.length_eq_zero_iff,-List.getD_eq_getElem?_getD] at h)<;>(try simp only [Int.toNat_natCast] at h)<;>(conv=>whnf)
 ·omega
 ·refine Go0 ?_
  refine Dr.mkE hΓ hMix [4294967296] [] (by kernel_rfl) (Go0 ?_)
  refine RM.immW rfl ?_
  refine WS.t (WTL.consL (WL.cons (WC.leF rfl (leF.isl (Qc5 _ _) (fun i hi j hj => leF.of_eq (QgJ hi hj rfl)) (fun e => by cases e))) (WL.cons (WC.leF rfl (leF.isl (Qc5 _ _) (fun i hi j hj => leF.of_eq (QgJ hi hj rfl)) (fun e => by cases e))) WL.nil)) (WTL.consC (WC.imm rfl) WTL.nil))
theorem QqF : HB 154 := hB Tryz.func154
def minG (k : Nat) : Nat → Nat → C := fun i _ => .int .i64 (if i < k then -1 else 0)
theorem QiL {i j : Nat} {z : List C} (hz : z = [.int .i64 0]) (hj : j < 1) : Qbo z i j = minG 0 i j := by
 subst hz
 have : j = 0 := by omega
 subst this
 rfl
theorem QkT {k : Nat} {i j : Nat} (hj : j < 1) : updG (minG k) k 0 [.int .i64 (-1)] i j = minG (k + 1) i j := by
 rw [Qcb]
 unfold minG
 by_cases c : i = k
 ·subst c
  rw [if_pos ⟨rfl, om⟩, if_pos om]
 ·rw [if_neg (fun e => c e.1)]
  by_cases h : i < k
  ·rw [if_pos h, if_pos om]
  ·rw [if_neg h, if_neg om]
theorem QkF {n : Nat} {i j : Nat} (hi : i < n) : minG n i j = Qam .i64 (List.replicate n (-1)) i j := by
 rw [Qpm (-1) n i hi j]
 unfold minG
 rw [if_pos hi]
theorem QqA (n : Int) (h1 : 1 ≤ n) (h2 : n ≤ 8) : PS 155 [.c (.int .i64 n)] (.t [.inr [Qi (List.replicate n.toNat (-1))], .inl (.int .i64 0)]) := by
 refine PSpec.rm ?_
 refine ov0 hΓ Tryz.func155 26 0 [.cell 2 36, .tmp 3] Tryz.ntmps155 Tryz.results155 ?_
 (first|refine Br.od (fun h=>?_) (fun h=>?_)|refine Br.mk (fun h=>?_) (fun h=>?_)<;>simp [-List.length_eq_zero_iff,-List.getD_eq_getElem?_getD] at h)<;>(try simp only [Int.toNat_natCast] at h)<;>(conv=>whnf)
 ·omega
 ·refine Go0 ?_
  refine Lp.mkK hΓ (ι := Nat) [0, 2, 4] (fun i => [(5, .c (.int .i64 i))]) (fun k => [.vr [.nils], .arr 3 1 n.toNat (minG k), .vr [.sl 1 1 n.toNat n.toNat true]]) (fun i => i ≤ n.toNat) (fun i => n.toNat - i) 0 (Nat.zero_le _) ?_ ?_
  ·refine Mv.k1 ?_
   exact fun i _ j hj => WC.eq (QiL rfl hj) rfl
  ·intro k hk
   refine Go0 ?_
   refine Br.of (fun h3=>Go0 ?_) (fun h3=>Go0 ?_)
   ·have w0 := Qa (↑k + 1) om om
    refine ⟨k + 1, om, om, ?_⟩
    refine Mv.k1 ?_
    exact fun i _ j hj => WC.eq (QkT hj) rfl
   ·have : k = n.toNat := by omega
    subst this
    refine RM.rg 1 (g' := Qam .i64 (List.replicate n.toNat (-1))) rfl (fun i hi j hj => QkF hi) rfl ?_
    refine RM.fz 1 rfl (Nat.zero_le _) (fun _ _ _ _ => rfl) ?_
    refine RM.wkW ?_ ?_ (Nat.zero_le _)
    ·exact WH.nil
    ·refine WS.t (WTL.consL (WL.cons (WC.fz rfl (Qc5 _ _) (fun i hi j hj => leF.refl) (fun e => by cases e)) WL.nil) (WTL.consC (WC.imm rfl) WTL.nil))
theorem Qrj : HB 155 := hB Tryz.func155
theorem Qqu (n : Int) (h1 : 1 ≤ n) (h2 : n ≤ 4) : PS 156 [.c (.int .i64 n)] (.t [.inr [.int .i64 0, Qi (List.replicate n.toNat (-1)), retC []], .inl (.int .i64 0)]) := by
 refine PSpec.rm ?_
 refine ov0 hΓ Tryz.func156 26 0 [.cell 2 39, .tmp 3] Tryz.ntmps156 Tryz.results156 ?_
 (first|refine Br.od (fun h=>?_) (fun h=>?_)|refine Br.mk (fun h=>?_) (fun h=>?_)<;>simp [-List.length_eq_zero_iff,-List.getD_eq_getElem?_getD] at h)<;>(try simp only [Int.toNat_natCast] at h)<;>(conv=>whnf)
 ·omega
 ·refine Go0 ?_
  refine Lp.mkK hΓ (ι := Nat) [0, 2, 4] (fun i => [(5, .c (.int .i64 i))]) (fun k => [.vr [.int .i64 0, .nils, .nils], .arr 3 1 n.toNat (minG k), .vr [.int .i64 0, .sl 1 1 n.toNat n.toNat true, .nils]]) (fun i => i ≤ n.toNat) (fun i => n.toNat - i) 0 (Nat.zero_le _) ?_ ?_
  ·refine Mv.k1 ?_
   exact fun i _ j hj => WC.eq (QiL rfl hj) rfl
  ·intro k hk
   refine Go0 ?_
   refine Br.of (fun h3=>Go0 ?_) (fun h3=>Go0 ?_)
   ·have w0 := Qa (↑k + 1) om om
    refine ⟨k + 1, om, om, ?_⟩
    refine Mv.k1 ?_
    exact fun i _ j hj => WC.eq (QkT hj) rfl
   ·have : k = n.toNat := by omega
    subst this
    refine RM.rg 1 (g' := Qam .i64 (List.replicate n.toNat (-1))) rfl (fun i hi j hj => QkF hi) rfl ?_
    refine RM.fz 1 rfl (Nat.zero_le _) (fun _ _ _ _ => rfl) ?_
    refine RM.wkW ?_ ?_ (Nat.zero_le _)
    ·exact WH.nil
    ·refine WS.t (WTL.consL (WL.cons (WC.imm rfl) (WL.cons (WC.fz rfl (Qc5 _ _) (fun i hi j hj => leF.refl) (fun e => by cases e)) (WL.cons (WC.nil rfl) WL.nil))) (WTL.consC (WC.imm rfl) WTL.nil))
theorem Qq3 : HB 156 := hB Tryz.func156
theorem Qdg {l : List Int} {x : Int} {t : List C} {n i j : Nat} (hn : n = l.length) (hi : i < l.length + 1) (hj : j < 1) : appG (Qam .i64 l) n (QaC 1 (C.int .i64 x :: t)) i j = Qam .i64 (l ++ [x]) i j :=
 Qb8 (f := intC .i64) hn (fun j hj => by
  have : j = 0 := by omega
  subst this; rfl) hi hj
theorem Qqb (n : Int) (h1 : 1 ≤ n) (h2 : n ≤ 8) : PS 157 [.c (.int .i64 n)] (.t [.inr [.int .i64 n, reqC []], .inl (.int .i64 0)]) := by
 refine PSpec.rm ?_
 refine ov0 hΓ Tryz.func157 13 0 [.cell 2 98, .tmp 3] Tryz.ntmps157 Tryz.results157 ?_
 (first|refine Br.od (fun h=>?_) (fun h=>?_)|refine Br.mk (fun h=>?_) (fun h=>?_)<;>simp [-List.length_eq_zero_iff,-List.getD_eq_getElem?_getD] at h)<;>(try simp only [Int.toNat_natCast] at h)<;>(conv=>whnf)
 ·omega
 ·refine Go0 ?_
  exact RM.i0
theorem Qp1 : HB 157 := hB Tryz.func157
def Qdx (l : List Req) (k : Nat) : Prop := ∀ i, i < k → 0 ≤ (l.getD i default).serial ∧ (0 < i → (l.getD (i - 1) default).serial < (l.getD i default).serial)
def Qgu (l : List Req) (k : Nat) : Int := if k = 0 then -1 else (l.getD (k - 1) default).serial
theorem ringOk_iff {r : Rng} : QX r = true ↔ (1 ≤ r.depth ∧ r.depth ≤ 8 ∧ (r.items.length : Int) ≤ r.depth) ∧ Qdx r.items r.items.length := by
 unfold QX Qdx
 rw [Bool.and_eq_true, decide_eq_true_eq, decide_eq_true_eq]
theorem Qg {b : Bool} (h : ¬ b = true) : b = false := by cases b; rfl; exact absurd rfl h
theorem Qun {l : List Req} {k : Nat} (h : Qdx l k) : -1 ≤ Qgu l k := by
 unfold Qgu
 split
 ·omega
 ·have := (h (k - 1) om).1; omega
theorem Qog {l : List Req} {k : Nat} (h : Qdx l k) (hk : Qgu l k < (l.getD k default).serial) : Qdx l (k + 1) := by
 refine QD h ⟨?_, fun h0 => ?_⟩
 ·have := Qun h; omega
 ·unfold Qgu at hk
  rw [if_neg om] at hk
  exact hk
theorem Qtp {l : List Req} {k : Nat} (hk : k < l.length) (h : (l.getD k default).serial ≤ Qgu l k) : ¬ Qdx l l.length := fun e => by
 have := e k hk
 unfold Qgu at h
 split at h
 ·omega
 ·have := this.2 om; omega
theorem QcY (r : Rng) (hr : r.items.length ≤ 1000000) : PS 137 [.a r.cells] (.c (.bool (QX r))) := by
 refine PSpec.rm ?_
 refine ov0 hΓ Tryz.func137 36 0 [.tmp 2] Tryz.ntmps137 Tryz.results137 ?_
 (first|refine Br.od (fun h=>?_) (fun h=>?_)|refine Br.mk (fun h=>?_) (fun h=>?_)<;>simp [-List.length_eq_zero_iff,-List.getD_eq_getElem?_getD] at h)<;>(try simp only [Int.toNat_natCast] at h)<;>(conv=>whnf)
 ·rw [Qg (fun e => by have := (ringOk_iff.1 e).1; omega : ¬ QX r = true)]
  exact RM.i0
 ·refine Go1 fun _h=>?_
  refine Lp.mkK hΓ (ι := Nat) [23, 24] (fun k => [(25, .c (.int .i64 k)), (3, .c (.int .i64 (Qgu r.items k)))]) (fun _ => [.vr r.cells]) (fun k => k ≤ r.items.length ∧ Qdx r.items k) (fun k => r.items.length - k) 0 ⟨Nat.zero_le _, fun i hi => absurd hi (Nat.not_lt_zero _)⟩ ?_ ?_
  ·exact Mv.k0
  ·rintro k ⟨hk, hk2⟩
   refine Go0 ?_
   refine Br.of (fun h2=>?_) (fun h2=>?_)<;>(try simp only [Int.toNat_natCast] at h2)<;>refine Go0 ?_
   ·refine Br.of (fun h3=>?_) (fun h3=>?_)<;>(try simp only [Int.toNat_natCast] at h3)<;>refine Go0 ?_
    ·rw [Qg (fun e => Qtp om h3 (ringOk_iff.1 e).2 : ¬ QX r = true)]
     exact RM.i0
    ·have w0 := Qa (↑k + 1) om om
     refine ⟨k + 1, ⟨om, Qog hk2 om⟩, om, ?_⟩
     exact Mv.k0
   ·have : k = r.items.length := by omega
    subst this
    rw [ringOk_iff.2 ⟨om, hk2⟩]
    exact RM.i0
theorem QcQ : HB 137 := hB Tryz.func137
def QbH (c : Conf) (k : Nat) : List Int := (List.range k).map fun i => 2 * Qo c + (i : Nat)
theorem Qce (c : Conf) (k : Nat) : (QbH c k).length = k := by simp [QbH]
theorem Qis (c : Conf) (k : Nat) : QbH c (k + 1) = QbH c k ++ [2 * Qo c + (k : Nat)] := by simp [QbH, List.range_succ]
def QE (c : Conf) : St := ⟨c, newD c.zones c.size 3 3, List.replicate c.shards.toNat [], List.replicate c.zones.toNat 0, List.replicate c.zones.toNat 0, List.replicate c.shards.toNat (-1), 0, List.replicate c.queues.toNat (-1), [], QbH c (Qq c).toNat, -1, -1,
 List.replicate c.queues.toNat ⟨c.depth, []⟩, List.replicate c.queues.toNat default, default, default, 1, 0, 0, -1, false, false, []⟩
def newSE (c : Conf) : St := if Qw c = 0 then QE c else default
theorem Qph {c : Conf} (h : Qw c = 0) : newE c.zones c.size 3 3 = 0 := by
 obtain ⟨hr, hd, _⟩ := Qv h
 have hs := Qae hr
 rw [confR_iff] at hr
 unfold Qq at hd
 unfold newE
 rw [if_pos (by simp; omega)]
 refine check_ok.2 ⟨?_, ?_, ?_, ?_⟩
 ·simp only [Qbu, newX, decide_eq_true_eq, List.length_replicate]
  omega
 ·intro z hz
  simp only [newX, List.mem_replicate] at hz
  rw [hz.2]
  simp only [right, newX, zone0, Qco, Bool.and_eq_true, decide_eq_true_eq]
  refine ⟨?_, rfl⟩
  simp
  omega
 ·have : QP (newX c.zones c.size 3 3).zones = 0 := by simp [QP, newX, zone0, QK]
  rw [this]; simp [newX]
 ·have : Qt (newX c.zones c.size 3 3).zones = 0 := by simp [Qt, newX, zone0, QR]
  rw [this]; simp [newX]
theorem QtP {α : Type} (n i : Nat) (d : α) : (List.replicate n d).getD i d = d := by
 by_cases h : i < n
 ·simp [List.getD, h]
 ·simp [List.getD, h, Nat.le_of_not_lt h]
theorem QpC {n : Nat} {z : List C} (hz : z = (default : Wrk).cells) {i j : Nat} (hj : j < 12) : Qbo z i j = wrkG (List.replicate n default) i j := by
 subst hz
 simp only [wrkG, rowG, QtP, Qbo]
 match j, hj with
 | 0, _ => rfl
 | 1, _ => rfl
 | 2, _ => rfl
 | 3, _ => rfl
 | 4, _ => rfl
 | 5, _ => rfl
 | 6, _ => rfl
 | 7, _ => rfl
 | 8, _ => rfl
 | 9, _ => rfl
 | 10, _ => rfl
 | 11, _ => rfl
theorem QtB {ρ : Nat → Nat} {m : Nat} {n : Nat} {z : List C} {t : Bool} (hz : z = (default : Wrk).cells) : WC ρ m (.isl 12 n (Qbo z) t) (wrkC (List.replicate n default)) :=
 WC.leF rfl (leF.isl (by simp) (fun i _ j hj => leF.of_eq (QpC hz hj)) (fun e => by cases e))
theorem QpD {l : List Rng} {x : Rng} {t : List C} {n i j : Nat} (hn : n = l.length) (hi : i < l.length + 1) (hj : j < 2) : appG (rngG l) n (QaC 2 (C.int .i64 x.depth :: reqC x.items :: t)) i j = rngG (l ++ [x]) i j :=
 Qb8 (f := Rng.cell) hn (fun j hj => by
  match j, hj with
  | 0, _ => rfl
  | 1, _ => rfl) hi hj
def QeL (c : Conf) (d : Dev) : St := { QE c with dev := d }
set_option maxHeartbeats 4000000 in
theorem Qxf (c : Conf) (d : Dev) (h : Qw c = 0) : PS 84 [.a c.cells, .a d.cells] (.a (QeL c d).cells) := by
 refine PSpec.rm ?_
 have hr := (Qv h).1
 have hq := confR_iff.1 hr
 have hs := Qae hr
 have hd := QcP hr
 have hd2 := (Qv h).2.1
 have hdz : Qq c = c.zones - 2 * Qo c := rfl
 refine ov0 hΓ Tryz.func84 95 0 [.cell 4 58] Tryz.ntmps84 Tryz.results84 ?_
 refine CallN.pureA QjY (Qkb c h ) (Go0 ?_)
 refine CallN.pureA QsD (Qts c.shards om om ) (Go0 ?_)
 refine CallN.pureA QqF (Qrg c.zones om om ) (Go0 ?_)
 refine CallN.pureA Qrj (QqA c.shards om om ) (Go0 ?_)
 refine CallN.pureA Qq3 (Qqu c.queues om om ) (Go0 ?_)
 refine Dr.mkE hΓ hMix [4294967296] [] (by kernel_rfl) (Go0 ?_)
 refine Lp.mkK hΓ (ι := Nat) [2, 4, 5, 15] (fun k => [(16, .c (.int .i64 k))]) (fun k => [.vr c.cells, .vr d.cells, .vr (default : St).cells, .vr (Lay.cells c), .vr [QH (QE c).map], .vr [Qi (QE c).live, Qi (QE c).pend], .vr [Qi (QE c).owner], .vr [.int .i64 0, Qi (QE c).pins, retC []], .vr ((QeL c d).cellsZ .nils (QH (QE c).map) (.sl 9 2 k k false) (wrkC (QE c).works) (evC [])), .arr 98 2 k (rngG (List.replicate k ⟨c.depth, []⟩))]) (fun k => k ≤ c.queues.toNat) (fun k => c.queues.toNat - k) 0 (Nat.zero_le _) ?_ ?_
 ·refine (Mv.reserveO 8 20 98 2 (rngG []) rfl rfl rfl rfl).trans ?_
  refine Mv.k2 ?_ ?_
  ·exact QtB rfl
  ·intro i hi; omega
 ·intro q hq2
  refine Go0 ?_
  refine Br.of (fun h4=>Go0 ?_) (fun h4=>Go0 ?_)
  ·refine CallN.pureA Qp1 (Qqb c.depth om om ) (Go0 ?_)
   have w0 := Qa (↑q + 1) om om
   refine ⟨q + 1, om, om, ?_⟩
   refine Mv.k1 ?_
   ·intro i hi j hj
    exact WC.eq ((QpD (x := ⟨c.depth, []⟩) (by simp) (by simpa using hi) hj).trans (by rw [List.replicate_succ'])) (QB _ _)
  ·have : q = c.queues.toNat := by omega
   subst this
   refine Lp.mkK hΓ (ι := Nat) [2, 4, 15] (fun k => [(19, .c (.int .i64 (2 * Qo c + (k : Nat))))]) (fun k => [.vr c.cells, .vr d.cells, .vr (default : St).cells, .vr (Lay.cells c), .vr [QH (QE c).map], .vr [Qi (QE c).live, Qi (QE c).pend], .vr [Qi (QE c).owner], .vr [.int .i64 0, Qi (QE c).pins, retC []], .vr ((QeL c d).cellsZ (.sl 10 1 k k false) (QH (QE c).map) (.sl 9 2 c.queues.toNat c.queues.toNat false) (wrkC (QE c).works) (evC [])), .arr 98 2 c.queues.toNat (rngG (List.replicate c.queues.toNat ⟨c.depth, []⟩)), .arr 3 1 k (Qam .i64 (QbH c k))]) (fun k => k ≤ (Qq c).toNat) (fun k => (Qq c).toNat - k) 0 (Nat.zero_le _) ?_ ?_
   ·refine (Mv.reserveO 8 17 3 1 (Qam .i64 []) rfl rfl rfl rfl).trans ?_
    refine Mv.k2 ?_ ?_
    ·exact fun i _ j _ => WC.imm (QB _ _)
    ·intro i hi; omega
   ·intro k hk
    refine Go0 ?_
    refine Br.of (fun h3=>Go0 ?_) (fun h3=>Go0 ?_)
    ·have w1 : IntKind.i64.wrap (2 * Qo c + ↑k + 1) = 2 * Qo c + ↑(k + 1) := by
      rw [Qa _ om om]; omega
     refine ⟨k + 1, om, om, ?_⟩
     refine Mv.k2 ?_ ?_
     ·exact fun i _ j _ => WC.imm (QB _ _)
     ·intro i hi j hj
      rw [Qis]
      exact WC.eq (Qdg (Qce c k).symm (by rw [Qce]; exact hi) hj) rfl
    ·have : k = (Qq c).toNat := by omega
     subst this
     refine RM.fz 9 rfl (Nat.zero_le _) (fun _ _ _ _ => QB _ _) ?_
     refine RM.fz 10 rfl (Nat.zero_le _) (fun _ _ _ _ => WC.fzI_imm rfl) ?_
     refine RM.w2 ?_ ?_
     ·exact WC.fz2b rfl rfl (Qce _ _).symm (fun _ _ _ _ => leF.fzI rfl)
     ·exact WC.fz2a rfl (by simp [QeL, QE]) (fun _ _ _ _ => leF.refl)
theorem Qxg : HB 84 := hB Tryz.func84
theorem QwH (c : Conf) (h : Qw c = 0) : PS 34 [.a c.cells] (.t [.inr (QE c).cells, .inl (.int .i64 0)]) := by
 refine PSpec.rm ?_
 have hr := (Qv h).1
 have hq := confR_iff.1 hr
 refine ov0 hΓ Tryz.func34 28 0 [.cell 2 58, .tmp 3] Tryz.ntmps34 Tryz.results34 ?_
 refine CallN.pureA Qcs (Qcq c ) (Go0 ?_)
 refine Br.no (by simpa using h) (Go0 ?_)
 refine CallN.pureA Qm5 (QmE c.zones c.size 3 3 om ) (Go0 ?_)
 refine Br.no (by simpa using Qph h) (Go0 ?_)
 refine CallN.pureA Qxg (Qxf c (newD c.zones c.size 3 3) h ) (Go0 ?_)
 exact RM.i0
theorem QwI : HB 34 := hB Tryz.func34
end Go.Proofs
end
