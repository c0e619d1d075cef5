/- Contracts, lemmas; no condition. -/
import Derived.Test.YtjjlblnbeggejaaGreatP16
import Derived.Test.YtjjlblnbeggejaaGreatP22
import Derived.Test.YtjjlblnbeggejaaGreatP21
import Derived.Test.YtjjlblnbeggejaaGreatP17
set_option linter.all false
section
open Go Go.Am
namespace Go.Proofs
set_option maxRecDepth 20000
abbrev DS := DiceM × St
def QlU (s : St) (z : Int) : List ByteArray := (s.dev.zones.getD z.toNat default).sectors
def St.install (s : St) (e : Ent) : St :=
 if (Qax s.map e).2.2 = true then { s with live := (Qar s.live s.pend (Qax s.map e).2.1.zone e.zone (decide ((Qax s.map e).2.1.kind ≠ 0)) true).1, map := (Qax s.map e).1 } else s
def recE (r : Rec) (zone at_ : Int) : Ent := ⟨r.block, r.kind, r.version, r.move, zone, at_⟩
def St.put (s : St) (zone : Int) (r : Rec) : St := { s with dev := Qf s.dev zone (encR r) }
def St.add (s : St) (zone : Int) (r : Rec) : St :=
 if Qj s.dev zone (encR r) = 0 then (s.put zone r).install (recE r zone (QA s.dev zone (encR r))) else s
def St.bump (s : St) : St := { s with next := s.next + 1 }
def addF (zone : Int) (p : DS) : DS := (recD p.1, p.2.bump.add zone (recR p.1 p.2.cfg.blocks p.2.next))
def addTo (zone : Int) (p : DS) : Nat → DS
 | 0 => p
 | k + 1 => addF zone (addTo zone p k)
def St.seal (s : St) (zone : Int) : St := s.put zone (QU (QlU s zone))
def fullF (zone : Int) (p : DS) : DS := ((addTo zone p (p.2.cfg.size - 1).toNat).1, (addTo zone p (p.2.cfg.size - 1).toNat).2.seal zone)
def Qah (l : List Int) (n : Int) : List Int := l.filter fun x => decide (x ≠ n)
def St.unfree (s : St) (z : Int) : St := { s with free := Qah s.free z }
def St.copied (s : St) (e : Ent) (zone : Int) : St :=
 if QdD s.dev e.zone e.offset = 0 ∧ (QaA (Q5 s.dev e.zone e.offset)).2 = true ∧ (QbV (QaA (Q5 s.dev e.zone e.offset)).1).2 = true ∧ Qj s.dev zone (encR (QbV (QaA (Q5 s.dev e.zone e.offset)).1).1) = 0 then
  let r := (QbV (QaA (Q5 s.dev e.zone e.offset)).1).1
  let at_ := QA s.dev zone (encR r)
  { s with dev := Qf s.dev zone (encR r), map := (relM s.map e.block e.version e.zone e.offset zone at_ r.move).1, live := (Qar s.live s.pend e.zone zone true true).1 }
 else s
theorem mapOk_iff {m : List (List Ent)} : Qx m = true ↔ (1 ≤ m.length ∧ m.length ≤ 8) ∧ ∀ i, i < m.length → QM (m.getD i default) = true ∧ Qan (m.getD i default) m.length i = true := by
 unfold Qx; rw [Bool.and_eq_true, decide_eq_true_eq, decide_eq_true_eq]
theorem inStripe_iff {l : List Ent} {n i : Nat} : Qan l n i = true ↔ ∀ k, k < l.length → (l.getD k default).block.tmod n = i := by
 unfold Qan; rw [decide_eq_true_eq]
set_option maxHeartbeats 4000000 in
theorem Qe4 (m : List (List Ent)) (hm : m.length ≤ 1000000) (hs : ∀ i, (m.getD i default).length ≤ 1000000) : PS 96 [.a [QC m]] (.c (.bool (Qx m))) := by
 refine PSpec.rm ?_
 refine ov hΓ Tryz.func96 50 0 [.tmp 2] Tryz.ntmps96 Tryz.results96 ?_
 refine Go1 fun _h=>?_
 have no : ¬ Qx m = true → Qx m = false := Qq
 by_cases h0 : 1 ≤ m.length ∧ m.length ≤ 8
 ·refine Br.no (Bool.eq_false_iff.2 fun e => by simp at e; omega) (Go0 ?_)
  refine Lp.mkK hΓ (ι := Nat) [1, 3] (fun i => [(4, .c (.int .i64 i))]) (fun _ => [.vr [QC m]]) (fun k => k ≤ m.length ∧ ∀ i, i < k → QM (m.getD i default) = true ∧ Qan (m.getD i default) m.length i = true) (fun i => m.length - i) 0 ⟨Nat.zero_le _, fun j hj => absurd hj (Nat.not_lt_zero _)⟩ ?_ ?_
  ·exact Mv.k0
  ·rintro k ⟨hk, hk2⟩
   have hsk := hs k
   refine Go0 ?_
   refine Br.of (fun h1=>?_) (fun h1=>?_)<;>(try simp only [Int.toNat_natCast] at h1)<;>refine Go0 ?_
   ·refine CallN.pureA Qdq (Qdp (m.getD k default) hsk ) (Go0 ?_)
    by_cases h2 : QM (m.getD k default) = true
    ·refine Br.no (by rw [h2]; rfl) (Go0 ?_)
     refine Lp.mkK hΓ (ι := Nat) [1, 3, 4] (fun i => [(5, .c (.int .i64 i))]) (fun _ => [.vr [QC m]]) (fun q => q ≤ (m.getD k default).length ∧ ∀ i, i < q → ((m.getD k default).getD i default).block.tmod m.length = k) (fun i => (m.getD k default).length - i) 0 ⟨Nat.zero_le _, fun j hj => absurd hj (Nat.not_lt_zero _)⟩ ?_ ?_
     ·exact Mv.k0
     ·rintro q ⟨hq, hq2⟩
      refine Go1 fun _h=>?_
      have e0 : (k : Int).toNat = k := rfl
      refine Br.of (fun h3=>?_) (fun h3=>?_)<;>(try simp only [Int.toNat_natCast] at h3)<;>refine Go0 ?_
      ·have w0 := Qa (↑q + 1) (by omega) (by omega)
       by_cases c : ((m.getD k default).getD q default).block.tmod m.length = k
       ·refine Br.no ((neI).trans (by simp only [Int.toNat_natCast]; rw [decide_eq_true c]; rfl)) (Go0 ?_)
        refine ⟨q + 1, ⟨by omega, Q0 hq2 c⟩, by omega, ?_⟩
        exact Mv.k0
       ·refine Br.yes ((neI).trans (by simp only [Int.toNat_natCast]; rw [decide_eq_false c]; rfl)) (Go0 ?_)
        rw [no (fun z => c (inStripe_iff.1 ((mapOk_iff.1 z).2 k (by omega)).2 q (by omega)))]
        exact RM.i0
      ·have w0 := Qa (↑k + 1) (by omega) (by omega)
       refine ⟨k + 1, ⟨by omega, Q0 hk2 ⟨h2, inStripe_iff.2 fun i hi => hq2 i (by omega)⟩⟩, by omega, ?_⟩
       exact Mv.k0
    ·refine Br.yes (by rw [Qq h2]; rfl) (Go0 ?_)
     rw [no (fun e => h2 ((mapOk_iff.1 e).2 k (by omega)).1)]
     exact RM.i0
   ·rw [mapOk_iff.2 ⟨h0, fun i hi => hk2 i (by omega)⟩]
    exact RM.i0
 ·refine Br.yes (by simp; omega) (Go0 ?_)
  rw [no (fun e => h0 (mapOk_iff.1 e).1)]
  exact RM.i0
theorem Qff : HB 96 := hB Tryz.func96
theorem QgO (m : List (List Ent)) (b : Int) (hm : m.length ≤ 1000000) : PS 98 [.a [QC m], .c (.int .i64 b)] (.c (.int .i64 (Qaj m b))) := by
 refine PSpec.rm ?_
 refine ov0 hΓ Tryz.func98 18 0 [.tmp 4] Tryz.ntmps98 Tryz.results98 ?_
 by_cases h : b < 0 ∨ m.length = 0
 ·refine Br.yes (by rcases h with h | h <;> simp [h]) ?_
  refine Go0 ?_
  rw [show Qaj m b = -1 from if_pos h]
  exact RM.i0
 ·have h1 : ¬ b < 0 := by omega
  have h2 : ¬ (m.length : Int) = 0 := by omega
  refine Br.no (by rw [decide_eq_false h1]; exact decide_eq_false h2) (Go1 fun _h=>?_)
  rw [show Qaj m b = b.tmod m.length from if_neg h]
  exact RM.i0
theorem Qgr : HB 98 := hB Tryz.func98
theorem countsOk_iff2 {a b : List Int} : Qr a b = true ↔ (a.length = b.length ∧ 1 ≤ a.length ∧ a.length ≤ 32) ∧ ∀ i, i < a.length → 0 ≤ a.getD i default ∧ a.getD i default ≤ 1099511627776 ∧ 0 ≤ b.getD i default ∧ b.getD i default ≤ 1099511627776 := by
 unfold Qr
 rw [Bool.and_eq_true, decide_eq_true_eq, decide_eq_true_eq]
theorem QbD (a b : List Int) (ha : a.length ≤ 1000000) (hb : b.length ≤ 1000000) : PS 127 [.a [Qh a, Qh b]] (.c (.bool (Qr a b))) := by
 refine PSpec.rm ?_
 refine ov hΓ Tryz.func127 60 0 [.tmp 2] Tryz.ntmps127 Tryz.results127 ?_
 refine Go2 fun _h _h=>?_
 have no : ¬ Qr a b = true → Qr a b = false := Qq
 by_cases h0 : a.length = b.length ∧ 1 ≤ a.length ∧ a.length ≤ 32
 ·refine Br.no (Bool.eq_false_iff.2 fun ebye => by simp [-List.getD_eq_getElem?_getD, -Int.default_eq_zero, h0.1] at ebye <;> grind) ?_; conv=>whnf
  refine Go0 ?_
  have h01 := h0.1
  refine Lp.mkK hΓ (ι := Nat) [1] (fun i => [(3, .c (.int .i64 i))]) (fun _ => [.vr [Qh a, Qh b]]) (fun k => k ≤ a.length ∧ ∀ i, i < k → 0 ≤ a.getD i default ∧ a.getD i default ≤ 1099511627776 ∧ 0 ≤ b.getD i default ∧ b.getD i default ≤ 1099511627776) (fun i => a.length - i) 0 ⟨Nat.zero_le _, fun j hj => absurd hj (Nat.not_lt_zero _)⟩ ?_ ?_
  ·exact Mv.k0
  ·rintro k ⟨hk, hk2⟩
   refine Go1 fun _h=>?_
   refine Br.of (fun h1=>?_) (fun h1=>?_)<;>(try simp only [Int.toNat_natCast] at h1)<;>refine Go0 ?_
   ·have w0 := Qa (↑k + 1) (by omega) (by omega)
    by_cases c : 0 ≤ a.getD k default ∧ a.getD k default ≤ 1099511627776 ∧ 0 ≤ b.getD k default ∧ b.getD k default ≤ 1099511627776
    ·refine Br.no (Bool.eq_false_iff.2 fun ebye => by simp [-List.getD_eq_getElem?_getD, -Int.default_eq_zero, c] at ebye <;> grind) ?_; conv=>whnf
     refine Go0 ?_
     refine ⟨k + 1, ⟨by omega, Q0 hk2 c⟩, by omega, ?_⟩
     exact Mv.k0
    ·refine Br.yes (Decidable.byContradiction fun ebye => c (by simp [-List.getD_eq_getElem?_getD, -Int.default_eq_zero] at ebye <;> grind)) ?_; conv=>whnf
     refine Go0 ?_
     rw [no (fun z => c ((countsOk_iff2.1 z).2 k (by omega)))]
     exact RM.i0
   ·rw [countsOk_iff2.2 ⟨h0, fun i hi => hk2 i (by omega)⟩]
    exact RM.i0
 ·refine Br.yes (Decidable.byContradiction fun ebye => h0 (by simp [-List.getD_eq_getElem?_getD, -Int.default_eq_zero] at ebye <;> grind)) ?_; conv=>whnf
  refine Go0 ?_
  rw [no (fun z => h0 (countsOk_iff2.1 z).1)]
  exact RM.i0
theorem QbK : HB 127 := hB Tryz.func127
theorem locksOk_iff2 {a : List Int} : QbI a = true ↔ (1 ≤ a.length ∧ a.length ≤ 8) ∧ ∀ i, i < a.length → -1 ≤ a.getD i default := by
 unfold QbI
 rw [Bool.and_eq_true, decide_eq_true_eq, decide_eq_true_eq]
theorem Qg3 (g : Int) (p : List Int) (r : List Ret) (z : Int) (n : Nat) (hr : r.length ≤ 1000000) (hn : n ≤ r.length) : PS 72 [.a [.int .i64 g, Qh p, retC r], .c (.int .i64 z), .c (.int .i64 n)] (.c (.bool (QbO (r.take n) z))) := by
 refine PSpec.rm ?_
 refine ov0 hΓ Tryz.func72 21 0 [.tmp 6] Tryz.ntmps72 Tryz.results72 ?_
 refine Lp.mkK hΓ (ι := Nat) [1, 2, 3] (fun i => [(7, .c (.int .i64 i))]) (fun _ => [.vr [.int .i64 g, Qh p, retC r]]) (fun k => k ≤ n ∧ QbO (r.take k) z = false) (fun i => n - i) 0 ⟨Nat.zero_le _, rfl⟩ ?_ ?_
 ·exact Mv.k0
 ·rintro k ⟨hk, hk2⟩
  refine Go0 ?_
  refine Br.of (fun h1=>?_) (fun h1=>?_)<;>(try simp only [Int.toNat_natCast] at h1)<;>refine Go0 ?_
  ·have w0 := Qa (↑k + 1) (by omega) (by omega)
   refine Br.of (fun h2=>?_) (fun h2=>?_)<;>(try simp only [Int.toNat_natCast] at h2)<;>refine Go0 ?_
   ·rw [show QbO (r.take n) z = true by
     have : QbO (r.take (k + 1)) z = true := by rw [Qgj (by omega), decide_eq_true h2, Bool.or_true]
     unfold QbO at this ⊢
     rw [List.any_eq_true] at this ⊢
     obtain ⟨x, hx, hp⟩ := this
     exact ⟨x, (List.take_subset_take_left r (show k + 1 ≤ n by omega)) hx, hp⟩]
    exact RM.i0
   ·refine ⟨k + 1, ⟨by omega, by rw [Qgj (by omega), hk2, decide_eq_false h2]; rfl⟩, by omega, ?_⟩
    exact Mv.k0
  ·rw [show n = k by omega, hk2]
   exact RM.i0
theorem Qgx : HB 72 := hB Tryz.func72
theorem QgB (g : Int) (p : List Int) (r : List Ret) (hp : p.length ≤ 1000000) (hr : r.length ≤ 1000000) : PS 61 [.a [.int .i64 g, Qh p, retC r]] (.c (.bool (QL g p r))) := by
 refine PSpec.rm ?_
 refine ov hΓ Tryz.func61 102 0 [.tmp 2] Tryz.ntmps61 Tryz.results61 ?_
 refine Go1 fun _h=>?_
 have no : ¬ QL g p r = true → QL g p r = false := Qq
 by_cases h0 : 1 ≤ p.length ∧ p.length ≤ 4 ∧ 0 ≤ g ∧ g ≤ 1099511627776
 ·refine Br.no (Bool.eq_false_iff.2 fun ebye => by simp [-List.getD_eq_getElem?_getD, -Int.default_eq_zero, h0] at ebye <;> grind) ?_; conv=>whnf
  refine Go0 ?_
  have wg : IntKind.i64.wrap (g - 1) = g - 1 := Qa _ (by omega) (by omega)
  refine Lp.mkK hΓ (ι := Nat) [1] (fun i => [(3, .c (.int .i64 i))]) (fun _ => [.vr [.int .i64 g, Qh p, retC r]]) (fun k => k ≤ p.length ∧ ∀ i, i < k → p.getD i default = -1 ∨ 0 ≤ p.getD i default ∧ (p.getD i default = g ∨ p.getD i default = g - 1)) (fun i => p.length - i) 0 ⟨Nat.zero_le _, fun j hj => absurd hj (Nat.not_lt_zero _)⟩ ?_ ?_
  ·exact Mv.k0
  ·rintro k ⟨hk, hk2⟩
   refine Go1 fun _h=>?_
   refine Br.of (fun h2=>?_) (fun h2=>?_)<;>(try simp only [Int.toNat_natCast] at h2)<;>refine Go0 ?_
   ·have w0 := Qa (↑k + 1) (by omega) (by omega)
    by_cases e : p.getD k default = -1 ∨ 0 ≤ p.getD k default ∧ (p.getD k default = g ∨ p.getD k default = g - 1)
    ·refine Br.no ((pinB (x := p.getD k default) wg).trans (by rw [decide_eq_true e]; rfl)) (Go0 ?_)
     refine ⟨k + 1, ⟨by omega, Q0 hk2 e⟩, by omega, ?_⟩
     exact Mv.k0
    ·refine Br.yes ((pinB (x := p.getD k default) wg).trans (by rw [decide_eq_false e]; rfl)) (Go0 ?_)
     rw [no (fun q => e ((epochsOk_iff.1 q).2.1 k (by omega)))]
     exact RM.i0
   ·have hpins : ∀ i, i < p.length → p.getD i default = -1 ∨ 0 ≤ p.getD i default ∧ (p.getD i default = g ∨ p.getD i default = g - 1) := fun i hi => hk2 i (by omega)
    clear hk hk2 h2
    refine Lp.mkK hΓ (ι := Nat) [1] (fun i => [(5, .c (.int .i64 i))]) (fun _ => [.vr [.int .i64 g, Qh p, retC r]]) (fun k => k ≤ r.length ∧ ∀ i, i < k → 0 ≤ (r.getD i default).zone ∧ 0 ≤ (r.getD i default).epoch ∧ (r.getD i default).epoch ≤ g ∧ ∀ j, j < i → (r.getD j default).zone ≠ (r.getD i default).zone) (fun i => r.length - i) 0 ⟨Nat.zero_le _, fun j hj => absurd hj (Nat.not_lt_zero _)⟩ ?_ ?_
    ·exact Mv.k0
    ·rintro q ⟨hq, hq2⟩
     refine Go1 fun _h=>?_
     refine Br.of (fun h3=>?_) (fun h3=>?_)<;>(try simp only [Int.toNat_natCast] at h3)<;>refine Go0 ?_
     ·refine Dr.mk hΓ hMix (by kernel_rfl) (Go0 ?_)
      refine CallP.autoG Qgx (fun _ => Qg3 g p r (r.getD q default).zone q hr hq ) (Go0 ?_)
      have w0 := Qa (↑q + 1) (by omega) (by omega)
      have hmem : QbO (r.take q) (r.getD q default).zone = true ↔ ¬ ∀ j, j < q → (r.getD j default).zone ≠ (r.getD q default).zone := by
       have := Qe3 (r := r) (k := q) (by omega) (n := (r.getD q default).zone)
       unfold QbO
       rw [List.any_eq_true]
       unfold Qcx at this
       rw [List.mem_map] at this
       constructor
       ·rintro ⟨x, hx, h2⟩ h3
        obtain ⟨j, h4, h5⟩ := this.1 ⟨x, hx, of_decide_eq_true h2⟩
        exact h3 j h4 h5
       ·intro h
        obtain ⟨x, hx, h2⟩ := this.2 (Classical.byContradiction fun hn => h fun j hj e => hn ⟨j, hj, e⟩)
        exact ⟨x, hx, decide_eq_true h2⟩
      by_cases e : 0 ≤ (r.getD q default).zone ∧ 0 ≤ (r.getD q default).epoch ∧ (r.getD q default).epoch ≤ g ∧ ∀ j, j < q → (r.getD j default).zone ≠ (r.getD q default).zone
      ·have hf : QbO (r.take q) (r.getD q default).zone = false := Qq (fun h => hmem.1 h e.2.2.2)
       refine Br.no (Bool.eq_false_iff.2 fun z => by simp [-List.getD_eq_getElem?_getD, hf] at z; omega) ?_
       refine Go0 ?_
       refine ⟨q + 1, ⟨by omega, Q0 hq2 e⟩, by omega, ?_⟩
       exact Mv.k0
      ·refine Br.yes (Decidable.byContradiction fun z => e (by
        simp [-List.getD_eq_getElem?_getD] at z
        have h4 : ∀ j, j < q → (r.getD j default).zone ≠ (r.getD q default).zone := Classical.byContradiction fun hn => by
         have := hmem.2 hn
         rw [this] at z
         simp at z
        exact ⟨by omega, by omega, by omega, h4⟩)) ?_
       refine Go0 ?_
       rw [no (fun z => e ((epochsOk_iff.1 z).2.2 q (by omega)))]
       exact RM.i0
     ·rw [epochsOk_iff.2 ⟨h0, hpins, fun i hi => hq2 i (by omega)⟩]
      exact RM.i0
 ·refine Br.yes (Decidable.byContradiction fun ebye => h0 (by simp [-List.getD_eq_getElem?_getD, -Int.default_eq_zero] at ebye <;> grind)) ?_; conv=>whnf
  refine Go0 ?_
  rw [no (fun z => h0 (epochsOk_iff.1 z).1)]
  exact RM.i0
theorem Qgv : HB 61 := hB Tryz.func61
theorem Qi4 {l : List Ent} (h1 : ∀ e ∈ l, QaQ e = true) (h2 : Asc l) : QM l = true := by
 unfold QM
 rw [decide_eq_true_eq]
 intro i hi
 refine ⟨by rw [Qu _ _ hi]; exact h1 _ (List.getElem_mem hi), fun h0 => h2.get (by omega) hi⟩
theorem Qdw {l : List Ent} (h : QM l = true) {e : Ent} (he : e ∈ l) : QaQ e = true := by
 unfold QM at h
 rw [decide_eq_true_eq] at h
 obtain ⟨i, hi, rfl⟩ := List.getElem_of_mem he
 have := (h i hi).1
 rwa [Qu _ _ hi] at this
theorem inStripe_mem {l : List Ent} {n i : Nat} : Qan l n i = true ↔ ∀ x ∈ l, x.block.tmod n = i := by
 unfold Qan
 rw [decide_eq_true_eq]
 constructor
 ·intro h x hx
  obtain ⟨k, hk, rfl⟩ := List.getElem_of_mem hx
  have := h k hk
  rwa [Qu _ _ hk] at this
 ·intro h k hk
  rw [Qu _ _ hk]
  exact h _ (List.getElem_mem hk)
theorem Qf2 {l : List Ent} {e x : Ent} (h : x ∈ putE l e) : x = e ∨ x ∈ l := by
 unfold putE at h
 rcases List.mem_append.1 h with h | h
 ·exact Or.inr (List.mem_of_mem_take h)
 ·rcases List.mem_cons.1 h with h | h
  ·exact Or.inl h
  ·exact Or.inr (List.mem_of_mem_drop h)
theorem Qso {l : List Ent} {e : Ent} (h : Asc l) : Asc (putE l e) := by
 have hp := QdU l e.block
 have lo : ∀ i, i < Qo l e.block → (l.getD i default).block < e.block := fun i hi => Qr2 hi
 have hi : ∀ i, (if hasM l e.block = true then Qo l e.block + 1 else Qo l e.block) ≤ i → i < l.length → e.block < (l.getD i default).block := by
  intro i h1 h2
  by_cases c : hasM l e.block = true
  ·rw [if_pos c] at h1
   unfold hasM at c
   rw [decide_eq_true_eq] at c
   have := h.get (i := Qo l e.block) (j := i) (by omega) h2
   omega
  ·rw [if_neg c] at h1
   have hlt : Qo l e.block < l.length := by omega
   have hge := Qre hlt
   unfold hasM at c
   rw [decide_eq_true_eq] at c
   by_cases q : i = Qo l e.block
   ·subst q
    have : (l.getD (Qo l e.block) default).block ≠ e.block := fun z => c ⟨hlt, z⟩
    omega
   ·have := h.get (i := Qo l e.block) (j := i) (by omega) h2
    omega
 unfold putE
 generalize hk : (if hasM l e.block = true then Qo l e.block + 1 else Qo l e.block) = k at *
 have hkp : Qo l e.block ≤ k := by rw [← hk]; split <;> omega
 refine List.pairwise_append.2 ⟨List.Pairwise.sublist (List.take_sublist _ _) h, ?_, ?_⟩
 ·refine List.pairwise_cons.2 ⟨fun x hx => ?_, List.Pairwise.sublist (List.drop_sublist _ _) h⟩
  obtain ⟨i, hi', rfl⟩ := List.getElem_of_mem hx
  rw [List.length_drop] at hi'
  have := hi (k + i) (by omega) (by omega)
  rw [Qu _ _ (by omega)] at this
  simpa using this
 ·intro a ha b hb
  obtain ⟨i, hi', rfl⟩ := List.getElem_of_mem ha
  rw [List.length_take] at hi'
  have hl := lo i (by omega)
  rw [Qu _ _ (by omega)] at hl
  have ea : (l.take (Qo l e.block))[i]'(by rw [List.length_take]; omega) = l[i]'(by omega) := by simp
  rw [ea]
  rcases List.mem_cons.1 hb with rfl | hb
  ·exact hl
  ·obtain ⟨j, hj, rfl⟩ := List.getElem_of_mem hb
   rw [List.length_drop] at hj
   have := hi (k + j) (by omega) (by omega)
   rw [Qu _ _ (by omega)] at this
   simp only [List.getElem_drop]
   omega
theorem QkK {m : List (List Ent)} (h : Qx m = true) {i : Nat} {l : List Ent} (h1 : QM l = true) (h2 : ∀ x ∈ l, x.block.tmod m.length = i) : Qx (m.set i l) = true := by
 have hl := Qbw h
 unfold Qx
 rw [Bool.and_eq_true, decide_eq_true_eq, decide_eq_true_eq, List.length_set]
 refine ⟨hl, fun k hk => ?_⟩
 by_cases c : i < m.length
 ·rw [QbA c]
  split
  ·rename_i e; subst e; exact ⟨h1, inStripe_mem.2 h2⟩
  ·exact Qch h hk
 ·rw [List.set_eq_of_length_le (by omega)]
  exact Qch h hk
theorem blocksIn_iff {m : List (List Ent)} {n : Int} : QaJ m n = true ↔ ∀ i, i < m.length → ∀ e ∈ m.getD i default, e.block < n := by
 unfold QaJ
 rw [decide_eq_true_eq]
 refine forall_congr' fun i => forall_congr' fun hi => ⟨fun h e he => ?_, fun h k hk => ?_⟩
 ·obtain ⟨k, hk, rfl⟩ := List.getElem_of_mem he
  have := h k hk
  rwa [Qu _ _ hk] at this
 ·rw [Qu _ _ hk]
  exact h _ (List.getElem_mem hk)
theorem QgU {m : List (List Ent)} {n : Int} (h : QaJ m n = true) {i : Nat} {l : List Ent} (hl : ∀ e ∈ l, e.block < n) : QaJ (m.set i l) n = true := by
 rw [blocksIn_iff] at h ⊢
 intro k hk e he
 rw [List.length_set] at hk
 by_cases c : i < m.length
 ·rw [QbA c] at he
  split at he
  ·exact hl e he
  ·exact h k hk e he
 ·rw [List.set_eq_of_length_le (by omega)] at he
  exact h k hk e he
structure MapKeep (m m' : List (List Ent)) (n : Int) : Prop where
 ok : Qx m' = true
 len : m'.length = m.length
 blocks : QaJ m' n = true
theorem Qpr {m : List (List Ent)} {n : Int} (h : Qx m = true) (hb : QaJ m n = true) (e : Ent) (he : e.block < n) : MapKeep m (Qax m e).1 n := by
 unfold Qax
 split
 ·rename_i c
  have hlt := Qd4 h c.2
  have hg := Qch h hlt
  have hst := inStripe_mem.1 hg.2
  split
  ·rename_i c2
   have hi : QaP (m.getD (QE m e.block) default) e = (putE (m.getD (QE m e.block) default) e, (QO (m.getD (QE m e.block) default) e.block).1, true) ∧ QaQ e = true := by
    unfold QaP at c2 ⊢
    rw [if_pos hg.1] at c2 ⊢
    by_cases q : QaQ e = true
    ·rw [if_pos q] at c2 ⊢
     by_cases q2 : (QO (m.getD (QE m e.block) default) e.block).2 = true ∧ e.version ≤ (QO (m.getD (QE m e.block) default) e.block).1.version
     ·rw [if_pos q2] at c2; cases c2
     ·rw [if_neg q2]; exact ⟨rfl, q⟩
    ·rw [if_neg q] at c2; cases c2
   rw [hi.1]
   refine ⟨QkK h (Qi4 (fun x hx => ?_) (Qso (QeS hg.1))) (fun x hx => ?_), List.length_set, QgU hb fun x hx => ?_⟩
   ·rcases Qf2 hx with rfl | hx
    ·exact hi.2
    ·exact Qdw hg.1 hx
   ·rcases Qf2 hx with rfl | hx
    ·exact (QhX h c.2).symm
    ·exact hst x hx
   ·rcases Qf2 hx with rfl | hx
    ·exact he
    ·exact blocksIn_iff.1 hb _ hlt x hx
  ·exact ⟨h, rfl, hb⟩
 ·exact ⟨h, rfl, hb⟩
theorem Qr0 {m : List (List Ent)} {n : Int} (h : Qx m = true) (hb : QaJ m n = true) (b v fz fo tz to move : Int) : MapKeep m (relM m b v fz fo tz to move).1 n := by
 unfold relM
 split
 ·rename_i c
  have hlt := Qd4 h c.2
  have hg := Qch h hlt
  have hst := inStripe_mem.1 hg.2
  split
  ·rename_i c2
   generalize hl : m.getD (QE m b) default = l at *
   have hi : relE l b v fz fo tz to move = (l.set (Qo l b) { (QO l b).1 with zone := tz, offset := to, move := move }, true) ∧ ((QO l b).2 = true ∧ 0 ≤ tz ∧ 0 ≤ to ∧ 0 ≤ move ∧ move ≤ 255) := by
    unfold relE at c2 ⊢
    rw [if_pos hg.1] at c2 ⊢
    by_cases q : (QO l b).2 = true ∧ (QO l b).1.version = v ∧ (QO l b).1.zone = fz ∧ (QO l b).1.offset = fo ∧ 0 ≤ tz ∧ 0 ≤ to ∧ 0 ≤ move ∧ move ≤ 255
    ·rw [if_pos q]; exact ⟨rfl, q.1, q.2.2.2.2⟩
    ·rw [if_neg q] at c2; cases c2
   have hf : Qo l b < l.length ∧ (QO l b).1 = l.getD (Qo l b) default := by
    have h2 := hi.2.1
    unfold QO at h2 ⊢
    by_cases q : QM l = true ∧ hasM l b = true
    ·rw [if_pos q]
     have := q.2
     unfold hasM at this
     rw [decide_eq_true_eq] at this
     exact ⟨this.1, rfl⟩
    ·rw [if_neg q] at h2; cases h2
   have hmem : l.getD (Qo l b) default ∈ l := by rw [Qu _ _ hf.1]; exact List.getElem_mem _
   have hok := Qdw hg.1 hmem
   have hnew : ∀ x ∈ l.set (Qo l b) { (QO l b).1 with zone := tz, offset := to, move := move }, QaQ x = true ∧ ∃ y ∈ l, x.block = y.block := by
    intro x hx
    rcases List.mem_or_eq_of_mem_set hx with hx | rfl
    ·exact ⟨Qdw hg.1 hx, x, hx, rfl⟩
    ·rw [hf.2]
     refine ⟨?_, _, hmem, rfl⟩
     unfold QaQ at hok ⊢
     rw [decide_eq_true_eq] at hok ⊢
     exact ⟨hok.1, hok.2.1, hok.2.2.1, hi.2.2.2.2.1, hi.2.2.2.2.2, hok.2.2.2.2.2.1, hi.2.2.1, hi.2.2.2.1⟩
   have hasc : Asc (l.set (Qo l b) { (QO l b).1 with zone := tz, offset := to, move := move }) := by
    have ha := QeS hg.1
    refine List.pairwise_iff_getElem.2 fun i j hi' hj' hij => ?_
    rw [List.length_set] at hi' hj'
    have := ha.get hij hj'
    have key : ∀ k (hk : k < l.length), ((l.set (Qo l b) { (QO l b).1 with zone := tz, offset := to, move := move })[k]'(by rw [List.length_set]; exact hk)).block = (l.getD k default).block := by
     intro k hk
     rw [List.getElem_set]
     split
     ·rename_i e; subst e; rw [hf.2]
     ·rw [Qu _ _ hk]
    rw [key i hi', key j hj']
    exact this
   rw [hi.1]
   refine ⟨QkK h (Qi4 (fun x hx => (hnew x hx).1) hasc) (fun x hx => ?_), List.length_set, QgU hb fun x hx => ?_⟩
   ·obtain ⟨y, hy, e⟩ := (hnew x hx).2
    rw [e]; exact hst y hy
   ·obtain ⟨y, hy, e⟩ := (hnew x hx).2
    rw [e]
    exact blocksIn_iff.1 hb _ hlt y (by rw [hl]; exact hy)
  ·exact ⟨h, rfl, hb⟩
 ·exact ⟨h, rfl, hb⟩
theorem Val.withDev {s : St} (h : Val s) {d : Dev} (h1 : check d = 0) (h2 : d.zones.length = s.dev.zones.length) (h3 : d.size = s.dev.size) : Val { s with dev := d } :=
 ⟨{ h.parts with dev := h1, zones := by show (d.zones.length : Int) = _; rw [h2]; exact h.parts.zones, size := h3.trans h.parts.size }, h.queues, h.evs⟩
theorem Qor (d : Dev) (z : Int) (s : ByteArray) : (Qf d z s).size = d.size := by unfold Qf; split <;> rfl
theorem Val.put {s : St} (h : Val s) (zone : Int) (r : Rec) : Val (s.put zone r) :=
 h.withDev (check_ok.2 (QkV (check_ok.1 h.parts.dev) zone _)) (Qa7 _ _ _) (Qor _ _ _)
theorem Qrj {d : Dev} (h : check d = 0) : Qbo d = { d with zones := d.zones.map QcF } := by unfold Qbo; rw [if_pos h]
theorem Val.sync {s : St} (h : Val s) : Val { s with dev := Qbo s.dev } := by
 have h1 := h.parts.dev
 rw [Qrj h1]
 exact h.withDev (check_ok.2 (Qiz (check_ok.1 h1))) (by simp) rfl
theorem Val.withMap {s : St} (h : Val s) {m : List (List Ent)} (hm : MapKeep s.map m s.cfg.blocks) : Val { s with map := m } :=
 ⟨{ h.parts with map := hm.ok, shards := by show (m.length : Int) = _; rw [hm.len]; exact h.parts.shards, blocks := hm.blocks }, h.queues, h.evs⟩
theorem Qg5 {a b : List Int} (h : Qr a b = true) (o f : Int) (had is : Bool) : Qr (Qar a b o f had is).1 b = true ∧ (Qar a b o f had is).1.length = a.length := by
 unfold Qar
 split
 ·rename_i c
  refine ⟨c.2.2.2, ?_⟩
  unfold Qc9
  split <;> split <;> simp
 ·exact ⟨h, rfl⟩
theorem QuK {a b : List Int} (h : Qr a b = true) (z : Int) : Qr a (QuI a b z).1 = true := by
 unfold QuI
 split
 ·rename_i c
  have c1 := hasC_iff.1 c.1
  have c2 := countsOk_iff2.1 c1.1
  refine countsOk_iff2.2 ⟨by simpa using c2.1, fun i hi => ?_⟩
  rw [Qpg c1.2.1 (by omega)]
  have h3 := c2.2 i hi
  have h4 := c2.2 z.toNat (by omega)
  have h5 := c.2
  split
  ·omega
  ·exact h3
 ·exact h
theorem Val.withLive {s : St} (h : Val s) {l : List Int} (h1 : Qr l s.pend = true) (h2 : l.length = s.live.length) : Val { s with live := l } :=
 ⟨{ h.parts with counts := h1, live := by show (l.length : Int) = _; rw [h2]; exact h.parts.live }, h.queues, h.evs⟩
theorem Val.withPend {s : St} (h : Val s) {l : List Int} (h1 : Qr s.live l = true) : Val { s with pend := l } :=
 ⟨{ h.parts with counts := h1 }, h.queues, h.evs⟩
theorem QuN {o : List Int} (h : QbI o = true) (i t : Int) : QbI (QuH o i t).1 = true ∧ (QuH o i t).1.length = o.length := by
 unfold QuH
 split
 ·rename_i c
  have h1 := locksOk_iff2.1 h
  unfold QuS at c
  rw [Bool.and_eq_true, decide_eq_true_eq] at c
  refine ⟨locksOk_iff2.2 ⟨by simpa using h1.1, fun k hk => ?_⟩, List.length_set⟩
  rw [List.length_set] at hk
  rw [QbA (by omega)]
  split
  ·omega
  ·exact h1.2 k hk
 ·exact ⟨h, rfl⟩
theorem Val.withLocks {s : St} (h : Val s) {l : List Int} (h1 : QbI l = true) (h2 : l.length = s.owner.length) : Val { s with owner := l } :=
 ⟨{ h.parts with locks := h1, stripes := by show (l.length : Int) = _; rw [h2]; exact h.parts.stripes }, h.queues, h.evs⟩
theorem epochs_iff {g : Int} {p : List Int} {r : List Ret} : QL g p r = true ↔ (1 ≤ p.length ∧ p.length ≤ 4 ∧ 0 ≤ g ∧ g ≤ 1099511627776) ∧ (∀ i, i < p.length → p.getD i default = -1 ∨ 0 ≤ p.getD i default ∧ (p.getD i default = g ∨ p.getD i default = g - 1)) ∧
  ∀ i, i < r.length → 0 ≤ (r.getD i default).zone ∧ 0 ≤ (r.getD i default).epoch ∧ (r.getD i default).epoch ≤ g ∧ ∀ j, j < i → (r.getD j default).zone ≠ (r.getD i default).zone := by
 unfold QL Qm4 Qnn
 simp only [Bool.and_eq_true, decide_eq_true_eq]
theorem Val.withEpochs {s : St} (h : Val s) {g : Int} {p : List Int} {r : List Ret} (h1 : QL g p r = true) (h2 : p.length = s.pins.length) : Val { s with glob := g, pins := p, rets := r } :=
 ⟨{ h.parts with epochs := h1, pins := by show (p.length : Int) = _; rw [h2]; exact h.parts.pins }, h.queues, h.evs⟩
theorem Qns {r : List Ret} {z : Int} (h : QbO r z = false) : ∀ i, i < r.length → (r.getD i default).zone ≠ z := by
 unfold QbO at h
 rw [List.any_eq_false] at h
 intro i hi
 have := h _ (List.getElem_mem hi)
 rw [Qu _ _ hi]
 simpa using this
theorem Qnm {g : Int} {p : List Int} {r : List Ret} (h : QL g p r = true) (z : Int) : QL g p (Qas g p r z).1 = true := by
 unfold Qas
 split
 ·rename_i c
  have h1 := epochs_iff.1 h
  have hz := Qns c.2.2
  refine epochs_iff.2 ⟨h1.1, h1.2.1, fun i hi => ?_⟩
  rw [List.length_append] at hi
  simp only [List.length_cons, List.length_nil] at hi
  rw [QgN (by omega)]
  by_cases e : i = r.length
  ·rw [if_pos e]
   refine ⟨c.2.1, h1.1.2.2.1, Int.le_refl _, fun j hj => ?_⟩
   rw [QgN (by omega), if_neg (by omega)]
   exact hz j (by omega)
  ·rw [if_neg e]
   have := h1.2.2 i (by omega)
   refine ⟨this.1, this.2.1, this.2.2.1, fun j hj => ?_⟩
   rw [QgN (by omega), if_neg (by omega)]
   exact this.2.2.2 j hj
 ·exact h
theorem QqS {g : Int} {p : List Int} {r : List Ret} (h : QL g p r = true) : QL (advM g p r).1 p r = true := by
 unfold advM
 split
 ·rename_i c
  have h1 := epochs_iff.1 h
  have h2 := c.2.2
  unfold Qmi at h2
  rw [decide_eq_true_eq] at h2
  have h3 := c.2.1
  refine epochs_iff.2 ⟨by omega, fun i hi => ?_, fun i hi => ?_⟩
  ·have := h2 i hi
   have := h1.2.1 i hi
   omega
  ·have := h1.2.2 i hi
   exact ⟨this.1, this.2.1, by omega, this.2.2.2⟩
 ·exact h
theorem Val.install {s : St} (h : Val s) {e : Ent} (he : e.block < s.cfg.blocks) : Val (s.install e) := by
 unfold St.install
 split
 ·have h1 := Qg5 h.parts.counts (Qax s.map e).2.1.zone e.zone (decide ((Qax s.map e).2.1.kind ≠ 0)) true
  exact (h.withLive h1.1 h1.2).withMap (Qpr h.parts.map h.parts.blocks e he)
 ·exact h
theorem Val.add {s : St} (h : Val s) (zone : Int) {r : Rec} (hr : r.block < s.cfg.blocks) : Val (s.add zone r) := by
 unfold St.add
 split
 ·exact (h.put zone r).install hr
 ·exact h
theorem Val.bump {s : St} (h : Val s) (hn : s.next < 1099511627776) : Val s.bump :=
 ⟨{ h.parts with next := ⟨by show 1 ≤ s.next + 1; have := h.parts.next; omega, by show s.next + 1 ≤ _; omega⟩ }, h.queues, h.evs⟩
theorem Val.copied {s : St} (h : Val s) (e : Ent) (zone : Int) : Val (s.copied e zone) := by
 unfold St.copied
 split
 ·have h1 := Qg5 h.parts.counts e.zone zone true true
  exact ((h.put zone (QbV (QaA (Q5 s.dev e.zone e.offset)).1).1).withLive h1.1 h1.2).withMap (Qr0 h.parts.map h.parts.blocks _ _ _ _ _ _ _)
 ·exact h
end Go.Proofs
end

section
open Go Go.Am
namespace Go.Proofs
set_option maxRecDepth 20000
theorem QnD {l : List Int} (h : ∀ i, i < l.length → 0 < i → l.getD (i - 1) default < l.getD i default) : l.Pairwise (· < ·) := by
 have key : ∀ d i, i + d + 1 < l.length → l.getD i default < l.getD (i + d + 1) default := by
  intro d
  induction d with
  | zero => intro i hi; exact h (i + 1) hi (by omega)
  | succ d ih =>
   intro i hi
   have h1 := ih i (by omega)
   have h2 := h (i + (d + 1) + 1) hi (by omega)
   rw [show i + (d + 1) + 1 - 1 = i + d + 1 by omega] at h2
   omega
 refine List.pairwise_iff_getElem.2 fun i j hi hj hij => ?_
 have := key (j - i - 1) i (by omega)
 rw [show i + (j - i - 1) + 1 = j by omega, Qu _ _ hi, Qu _ _ hj] at this
 exact this
theorem QpH {c : Conf} {l : List Int} : Qg4 c l = true ↔ (∀ z ∈ l, Qam c z = true) ∧ l.Pairwise (· < ·) := by
 unfold Qg4
 rw [decide_eq_true_eq]
 constructor
 ·intro h
  refine ⟨fun z hz => ?_, QnD fun i hi h0 => (h i hi).2 h0⟩
  obtain ⟨i, hi, rfl⟩ := List.getElem_of_mem hz
  have := (h i hi).1
  rwa [Qu _ _ hi] at this
 ·rintro ⟨h1, h2⟩ i hi
  refine ⟨by rw [Qu _ _ hi]; exact h1 _ (List.getElem_mem hi), fun h0 => ?_⟩
  rw [Qu _ _ hi, Qu _ _ (show i - 1 < l.length by omega)]
  exact List.pairwise_iff_getElem.1 h2 (i - 1) i (by omega) hi (by omega)
structure PoolOk (c : Conf) (free : List Int) (a b : Int) : Prop where
 cfg : QB c = 0
 data : ∀ z ∈ free, Qam c z = true
 asc : free.Pairwise (· < ·)
 host : a = -1 ∨ Qam c a = true ∧ a ∉ free
 lane : b = -1 ∨ Qam c b = true ∧ b ∉ free
 ne : a = -1 ∨ a ≠ b
theorem poolOk_P {c : Conf} {free : List Int} {host lane : Int} : poolOk c free host lane = true ↔ PoolOk c free host lane := by
 unfold poolOk Qex
 simp only [Bool.and_eq_true, decide_eq_true_eq, QpH]
 exact ⟨fun ⟨a, ⟨b, b'⟩, c, d, e⟩ => ⟨a, b, b', c, d, e⟩, fun ⟨a, b, b', c, d, e⟩ => ⟨a, ⟨b, b'⟩, c, d, e⟩⟩
theorem without_mem {l : List Int} {n z : Int} : z ∈ Qah l n ↔ z ∈ l ∧ z ≠ n := by
 unfold Qah
 simp
theorem PoolOk.without {c : Conf} {free : List Int} {host lane : Int} (h : PoolOk c free host lane) (z : Int) : PoolOk c (Qah free z) host lane :=
 ⟨h.cfg, fun y hy => h.data y (without_mem.1 hy).1, List.Pairwise.sublist List.filter_sublist h.asc, h.host.imp id fun k => ⟨k.1, fun q => k.2 (without_mem.1 q).1⟩, h.lane.imp id fun k => ⟨k.1, fun q => k.2 (without_mem.1 q).1⟩, h.ne⟩
theorem PoolOk.setHost {c : Conf} {free : List Int} {host lane z : Int} (h : PoolOk c free host lane) (hz : z ∈ free) : PoolOk c (Qah free z) z lane :=
 ⟨h.cfg, (h.without z).data, (h.without z).asc, Or.inr ⟨h.data z hz, fun q => (without_mem.1 q).2 rfl⟩, (h.without z).lane, Or.inr fun q => by
  rcases h.lane with k | k
  ·have := QaC (h.data z hz); omega
  ·exact k.2 (q ▸ hz)⟩
theorem PoolOk.setLane {c : Conf} {free : List Int} {host lane z : Int} (h : PoolOk c free host lane) (hz : z ∈ free) : PoolOk c (Qah free z) host z :=
 ⟨h.cfg, (h.without z).data, (h.without z).asc, (h.without z).host, Or.inr ⟨h.data z hz, fun q => (without_mem.1 q).2 rfl⟩, by
  rcases h.host with k | k
  ·exact Or.inl k
  ·exact Or.inr fun q => k.2 (q ▸ hz)⟩
theorem Val.withPool {s : St} (h : Val s) {f : List Int} {a b : Int} (h1 : PoolOk s.cfg f a b) : Val { s with free := f, host := a, lane := b } :=
 ⟨{ h.parts with pool := poolOk_P.2 h1 }, h.queues, h.evs⟩
theorem Val.pool {s : St} (h : Val s) : PoolOk s.cfg s.free s.host s.lane := poolOk_P.1 h.parts.pool
structure Gd (c : Conf) (n : Int) (r e : Nat) (s : St) : Prop where
 val : Val s
 cfg : s.cfg = c
 next : s.next ≤ n
 rets : s.rets.length ≤ r
 evs : s.evs.length ≤ e
 sav : s.sav = default
theorem Gd.weak {c : Conf} {n n' : Int} {r r' e e' : Nat} {s : St} (h : Gd c n r e s) (h1 : n ≤ n') (h2 : r ≤ r') (h3 : e ≤ e') : Gd c n' r' e' s :=
 ⟨h.val, h.cfg, by have := h.next; omega, by have := h.rets; omega, by have := h.evs; omega, h.sav⟩
theorem Qlx (s : St) (e : Ent) : ∃ l m, s.install e = { s with live := l, map := m } := by
 unfold St.install
 split
 ·exact ⟨_, _, rfl⟩
 ·exact ⟨s.live, s.map, rfl⟩
theorem Qk9 (s : St) (z : Int) (r : Rec) : ∃ d l m, s.add z r = { s with dev := d, live := l, map := m } := by
 unfold St.add
 split
 ·obtain ⟨l, m, e⟩ := Qlx (s.put z r) (recE r z (QA s.dev z (encR r)))
  exact ⟨_, l, m, e⟩
 ·exact ⟨s.dev, s.live, s.map, rfl⟩
theorem Qer (s : St) (e : Ent) (z : Int) : ∃ d l m, s.copied e z = { s with dev := d, live := l, map := m } := by
 unfold St.copied
 split
 ·exact ⟨_, _, _, rfl⟩
 ·exact ⟨s.dev, s.live, s.map, rfl⟩
variable {c : Conf} {n : Int} {r e : Nat}
theorem Gd.add {s : St} (h : Gd c n r e s) (z : Int) {x : Rec} (hx : x.block < c.blocks) : Gd c n r e (s.add z x) := by
 have hv := h.val.add z (r := x) (by rw [h.cfg]; exact hx)
 obtain ⟨d, l, m, q⟩ := Qk9 s z x
 rw [q] at hv ⊢
 exact ⟨hv, h.cfg, h.next, h.rets, h.evs, h.sav⟩
theorem Gd.bump {s : St} (h : Gd c n r e s) (hn : n ≤ 1000000) : Gd c (n + 1) r e s.bump :=
 ⟨h.val.bump (by have := h.next; omega), h.cfg, by show s.next + 1 ≤ _; have := h.next; omega, h.rets, h.evs, h.sav⟩
theorem Qf8 (d : DiceM) {b v : Int} (h1 : 1 ≤ b) (h2 : b ≤ 1000) : 0 ≤ (recR d b v).block ∧ (recR d b v).block < b := by
 have := d.next_range h1 (by omega)
 unfold recR
 split <;> exact this
theorem Qcf {c : Conf} (h : QB c = 0) : 1 ≤ c.blocks ∧ c.blocks ≤ 1000 := by
 have := confR_iff.1 (QR h).1
 omega
theorem Gd.conf {s : St} (h : Gd c n r e s) : QB c = 0 := by rw [← h.cfg]; exact h.val.parts.cfg
theorem Gd.addF {p : DS} (h : Gd c n r e p.2) (hn : n ≤ 1000000) (z : Int) : Gd c (n + 1) r e (addF z p).2 := by
 have hb := Qcf h.conf
 exact (h.bump hn).add z (by rw [h.cfg]; exact (Qf8 _ hb.1 hb.2).2)
theorem Gd.addTo {p : DS} (h : Gd c n r e p.2) (z : Int) : ∀ k : Nat, n + k ≤ 1000000 → Gd c (n + k) r e (addTo z p k).2
 | 0, _ => h.weak (by omega) (Nat.le_refl _) (Nat.le_refl _)
 | k + 1, hk => ((Gd.addTo h z k (by omega)).addF (by omega) z).weak (by omega) (Nat.le_refl _) (Nat.le_refl _)
theorem Gd.put {s : St} (h : Gd c n r e s) (z : Int) (x : Rec) : Gd c n r e (s.put z x) := ⟨h.val.put z x, h.cfg, h.next, h.rets, h.evs, h.sav⟩
theorem Gd.pool {s : St} (h : Gd c n r e s) {f : List Int} {a b : Int} (h1 : PoolOk c f a b) : Gd c n r e { s with free := f, host := a, lane := b } := ⟨h.val.withPool (by rw [h.cfg]; exact h1), h.cfg, h.next, h.rets, h.evs, h.sav⟩
theorem Gd.poolOk {s : St} (h : Gd c n r e s) : PoolOk c s.free s.host s.lane := by rw [← h.cfg]; exact h.val.pool
theorem Gd.unfree {s : St} (h : Gd c n r e s) (z : Int) : Gd c n r e (s.unfree z) := h.pool (h.poolOk.without z)
theorem Gd.fullF {p : DS} (h : Gd c n r e p.2) (z : Int) (hn : n + c.size ≤ 1000000) : Gd c (n + c.size) r e (fullF z p).2 := by
 have hr := confR_iff.1 (QR h.conf).1
 have h1 := h.addTo z (p.2.cfg.size - 1).toNat (by rw [h.cfg]; omega)
 exact (h1.put z _).weak (by rw [h.cfg]; omega) (Nat.le_refl _) (Nat.le_refl _)
theorem Gd.copied {s : St} (h : Gd c n r e s) (x : Ent) (z : Int) : Gd c n r e (s.copied x z) := by
 have hv := h.val.copied x z
 obtain ⟨d, l, m, q⟩ := Qer s x z
 rw [q] at hv ⊢
 exact ⟨hv, h.cfg, h.next, h.rets, h.evs, h.sav⟩
theorem free0 {s : St} (h : 0 < s.free.length) : s.free.getD 0 default ∈ s.free := by
 rw [Qu _ _ h]
 exact List.getElem_mem h
theorem QsK {c : Conf} (h : QB c = 0) : Gd c 1 0 0 (Qs c) := ⟨Qr5 h, rfl, Int.le_refl _, Nat.le_refl _, Nat.le_refl _, rfl⟩
theorem Qno (d : DiceM) : (Q7 d).size ≤ 6 ∧ (Q7 d).queues ≤ 3 ∧ (Q7 d).blocks ≤ 6 ∧ (Q7 d).zones ≤ 32 := by
 have h := confR_iff.1 (QR (QfV d)).1
 have r1 := d.next_range (n := 4) (by omega) (by omega)
 have r2 := d.step.next_range (n := 6) (by omega) (by omega)
 have r3 := d.step.step.next_range (n := 3) (by omega) (by omega)
 refine ⟨?_, ?_, ?_, by omega⟩
 ·show 3 + d.next 4 ≤ 6; omega
 ·show 1 + d.step.step.next 3 ≤ 3; omega
 ·show 1 + d.step.next 6 ≤ 6; omega
theorem Qol {c : Conf} (h : QB c = 0) : 6 ≤ Qp c ∧ Qp c ≤ 32 := by
 have h1 := confR_iff.1 (QR h).1
 have h2 := (QR h).2.1
 have h3 := Qak (QR h).1
 unfold Qp at h2 ⊢
 omega
end Go.Proofs
end
