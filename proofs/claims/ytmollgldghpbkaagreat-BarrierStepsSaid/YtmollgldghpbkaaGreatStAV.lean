/- Contracts, lemmas; no condition. -/
import Derived.Test.YtmollgldghpbkaaGreatF1V
import Derived.Test.YtmollgldghpbkaaGreatEvAV
import Derived.Test.YtmollgldghpbkaaGreatModAV
import Derived.Test.YtmollgldghpbkaaGreatEvBV
import Derived.Test.YtmollgldghpbkaaGreatKsV
set_option linter.all false
section
open Go Go.Am
namespace Go.Proofs
set_option maxRecDepth 20000
theorem countsOk_iff2 {a b : List Int} : QC a b = true ↔ (a.length = b.length ∧ 1 ≤ a.length ∧ a.length ≤ 32) ∧ ∀ i, i < a.length → 0 ≤ a.getD i default ∧ a.getD i default ≤ 1099511627776 ∧ 0 ≤ b.getD i default ∧ b.getD i default ≤ 1099511627776 := by
 unfold QC
 rw [Bool.and_eq_true, decide_eq_true_eq, decide_eq_true_eq]
theorem Qbs (a b : List Int) (ha : a.length ≤ 1000000) (hb : b.length ≤ 1000000) : PS 113 [.a [Qi a, Qi b]] (.c (.bool (QC a b))) := by
 refine PSpec.rm ?_
 refine ov hΓ Tryz.func113 60 0 [.tmp 2] Tryz.ntmps113 Tryz.results113 ?_
 refine Go2 fun _h _h=>?_
 have no : ¬ QC a b = true → QC a b = false := Qg
 by_cases h0 : a.length = b.length ∧ 1 ≤ a.length ∧ a.length ≤ 32
 ·refine Br.no (Bool.eq_false_iff.2 fun ebye => by simp [-List.getD_eq_getElem?_getD, -Int.default_eq_zero, h0.1] at ebye <;> grind) ?_; conv=>whnf
  refine Go0 ?_
  have h01 := h0.1
  refine Lp.mkK hΓ (ι := Nat) [1] (fun i => [(3, .c (.int .i64 i))]) (fun _ => [.vr [Qi a, Qi b]]) (fun k => k ≤ a.length ∧ ∀ i, i < k → 0 ≤ a.getD i default ∧ a.getD i default ≤ 1099511627776 ∧ 0 ≤ b.getD i default ∧ b.getD i default ≤ 1099511627776) (fun i => a.length - i) 0 ⟨Nat.zero_le _, fun j hj => absurd hj (Nat.not_lt_zero _)⟩ ?_ ?_
  ·exact Mv.k0
  ·rintro k ⟨hk, hk2⟩
   refine Go1 fun _h=>?_
   refine Br.of (fun h1=>?_) (fun h1=>?_)<;>(try simp only [Int.toNat_natCast] at h1)<;>refine Go0 ?_
   ·have w0 := Qa (↑k + 1) om om
    by_cases c : 0 ≤ a.getD k default ∧ a.getD k default ≤ 1099511627776 ∧ 0 ≤ b.getD k default ∧ b.getD k default ≤ 1099511627776
    ·refine Br.no (Bool.eq_false_iff.2 fun ebye => by simp [-List.getD_eq_getElem?_getD, -Int.default_eq_zero, c] at ebye <;> grind) ?_; conv=>whnf
     refine Go0 ?_
     refine ⟨k + 1, ⟨om, QD hk2 c⟩, om, ?_⟩
     exact Mv.k0
    ·refine Br.yes (Decidable.byContradiction fun ebye => c (by simp [-List.getD_eq_getElem?_getD, -Int.default_eq_zero] at ebye <;> grind)) ?_; conv=>whnf
     refine Go0 ?_
     rw [no (fun z => c ((countsOk_iff2.1 z).2 k om))]
     exact RM.i0
   ·rw [countsOk_iff2.2 ⟨h0, fun i hi => hk2 i om⟩]
    exact RM.i0
 ·refine Br.yes (Decidable.byContradiction fun ebye => h0 (by simp [-List.getD_eq_getElem?_getD, -Int.default_eq_zero] at ebye <;> grind)) ?_; conv=>whnf
  refine Go0 ?_
  rw [no (fun z => h0 (countsOk_iff2.1 z).1)]
  exact RM.i0
theorem Qbx : HB 113 := hB Tryz.func113
theorem locksOk_iff2 {a : List Int} : Qaj a = true ↔ (1 ≤ a.length ∧ a.length ≤ 8) ∧ ∀ i, i < a.length → -1 ≤ a.getD i default := by
 unfold Qaj
 rw [Bool.and_eq_true, decide_eq_true_eq, decide_eq_true_eq]
theorem Qe4 (a : List Int) (ha : a.length ≤ 1000000) : PS 114 [.a [Qi a]] (.c (.bool (Qaj a))) := by
 refine PSpec.rm ?_
 refine ov0 hΓ Tryz.func114 27 0 [.tmp 2] Tryz.ntmps114 Tryz.results114 ?_
 have no : ¬ Qaj a = true → Qaj a = false := Qg
 refine Lp.mkK hΓ (ι := Nat) [1] (fun i => [(3, .c (.int .i64 i))]) (fun _ => [.vr [Qi a]]) (fun k => k ≤ a.length ∧ ∀ i, i < k → -1 ≤ a.getD i default) (fun i => a.length - i) 0 ⟨Nat.zero_le _, fun j hj => absurd hj (Nat.not_lt_zero _)⟩ ?_ ?_
 ·exact Mv.k0
 ·rintro k ⟨hk, hk2⟩
  refine Go1 fun _h=>?_
  refine Br.of (fun h1=>?_) (fun h1=>?_)<;>(try simp only [Int.toNat_natCast] at h1)<;>(conv=>whnf)
  ·refine Go0 ?_
   have w0 := Qa (↑k + 1) om om
   refine Br.of (fun h2=>?_) (fun h2=>?_)<;>(try simp only [Int.toNat_natCast] at h2)<;>refine Go0 ?_
   ·rw [no (fun z => by have := (locksOk_iff2.1 z).2 k om; omega)]
    exact RM.i0
   ·refine ⟨k + 1, ⟨om, QD hk2 h2⟩, om, ?_⟩
    exact Mv.k0
  ·refine Go1 fun _h=>?_
   refine RM.immW rfl (WS.c (WC.bool ?_))
   rw [Bool.eq_iff_iff, locksOk_iff2]
   simp
   exact ⟨fun h => ⟨om, fun i hi => hk2 i om⟩, fun h => by omega⟩
theorem Qe7 : HB 114 := hB Tryz.func114
theorem QeV (g : Int) (p : List Int) (r : List Ret) (z : Int) (n : Nat) (hr : r.length ≤ 1000000) (hn : n ≤ r.length) : PS 164 [.a [.int .i64 g, Qi p, retC r], .c (.int .i64 z), .c (.int .i64 n)] (.c (.bool (QaX (r.take n) z))) := by
 refine PSpec.rm ?_
 refine ov0 hΓ Tryz.func164 21 0 [.tmp 6] Tryz.ntmps164 Tryz.results164 ?_
 refine Lp.mkK hΓ (ι := Nat) [1, 2, 3] (fun i => [(7, .c (.int .i64 i))]) (fun _ => [.vr [.int .i64 g, Qi p, retC r]]) (fun k => k ≤ n ∧ QaX (r.take k) z = false) (fun i => n - i) 0 ⟨Nat.zero_le _, rfl⟩ ?_ ?_
 ·exact Mv.k0
 ·rintro k ⟨hk, hk2⟩
  refine Go0 ?_
  refine Br.of (fun h1=>?_) (fun h1=>?_)<;>(try simp only [Int.toNat_natCast] at h1)<;>refine Go0 ?_
  ·have w0 := Qa (↑k + 1) om om
   refine Br.of (fun h2=>?_) (fun h2=>?_)<;>(try simp only [Int.toNat_natCast] at h2)<;>refine Go0 ?_
   ·rw [show QaX (r.take n) z = true by
     have : QaX (r.take (k + 1)) z = true := by rw [Qfb om, decide_eq_true h2, Bool.or_true]
     unfold QaX at this ⊢
     rw [List.any_eq_true] at this ⊢
     obtain ⟨x, hx, hp⟩ := this
     exact ⟨x, (List.take_subset_take_left r (show k + 1 ≤ n by omega)) hx, hp⟩]
    exact RM.i0
   ·refine ⟨k + 1, ⟨om, by rw [Qfb om, hk2, decide_eq_false h2]; rfl⟩, om, ?_⟩
    exact Mv.k0
  ·rw [show n = k by omega, hk2]
   exact RM.i0
theorem Qfa : HB 164 := hB Tryz.func164
theorem QcL (g : Int) (p : List Int) (r : List Ret) (hp : p.length ≤ 1000000) (hr : r.length ≤ 1000000) : PS 115 [.a [.int .i64 g, Qi p, retC r]] (.c (.bool (QA g p r))) := by
 refine PSpec.rm ?_
 refine ov hΓ Tryz.func115 102 0 [.tmp 2] Tryz.ntmps115 Tryz.results115 ?_
 refine Go1 fun _h=>?_
 have no : ¬ QA g p r = true → QA g p r = false := Qg
 by_cases h0 : 1 ≤ p.length ∧ p.length ≤ 4 ∧ 0 ≤ g ∧ g ≤ 1099511627776
 ·refine Br.no (Bool.eq_false_iff.2 fun ebye => by simp [-List.getD_eq_getElem?_getD, -Int.default_eq_zero, h0] at ebye <;> grind) ?_; conv=>whnf
  refine Go0 ?_
  have wg : IntKind.i64.wrap (g - 1) = g - 1 := Qa _ om om
  refine Lp.mkK hΓ (ι := Nat) [1] (fun i => [(3, .c (.int .i64 i))]) (fun _ => [.vr [.int .i64 g, Qi p, retC r]]) (fun k => k ≤ p.length ∧ ∀ i, i < k → p.getD i default = -1 ∨ 0 ≤ p.getD i default ∧ (p.getD i default = g ∨ p.getD i default = g - 1)) (fun i => p.length - i) 0 ⟨Nat.zero_le _, fun j hj => absurd hj (Nat.not_lt_zero _)⟩ ?_ ?_
  ·exact Mv.k0
  ·rintro k ⟨hk, hk2⟩
   refine Go1 fun _h=>?_
   refine Br.of (fun h2=>?_) (fun h2=>?_)<;>(try simp only [Int.toNat_natCast] at h2)<;>refine Go0 ?_
   ·have w0 := Qa (↑k + 1) om om
    by_cases e : p.getD k default = -1 ∨ 0 ≤ p.getD k default ∧ (p.getD k default = g ∨ p.getD k default = g - 1)
    ·refine Br.no ((pinB (x := p.getD k default) wg).trans (by rw [decide_eq_true e]; rfl)) (Go0 ?_)
     refine ⟨k + 1, ⟨om, QD hk2 e⟩, om, ?_⟩
     exact Mv.k0
    ·refine Br.yes ((pinB (x := p.getD k default) wg).trans (by rw [decide_eq_false e]; rfl)) (Go0 ?_)
     rw [no (fun q => e ((epochsOk_iff.1 q).2.1 k om))]
     exact RM.i0
   ·have hpins : ∀ i, i < p.length → p.getD i default = -1 ∨ 0 ≤ p.getD i default ∧ (p.getD i default = g ∨ p.getD i default = g - 1) := fun i hi => hk2 i om
    clear hk hk2 h2
    refine Lp.mkK hΓ (ι := Nat) [1] (fun i => [(5, .c (.int .i64 i))]) (fun _ => [.vr [.int .i64 g, Qi p, retC r]]) (fun k => k ≤ r.length ∧ ∀ i, i < k → 0 ≤ (r.getD i default).zone ∧ 0 ≤ (r.getD i default).epoch ∧ (r.getD i default).epoch ≤ g ∧ ∀ j, j < i → (r.getD j default).zone ≠ (r.getD i default).zone) (fun i => r.length - i) 0 ⟨Nat.zero_le _, fun j hj => absurd hj (Nat.not_lt_zero _)⟩ ?_ ?_
    ·exact Mv.k0
    ·rintro q ⟨hq, hq2⟩
     refine Go1 fun _h=>?_
     refine Br.of (fun h3=>?_) (fun h3=>?_)<;>(try simp only [Int.toNat_natCast] at h3)<;>refine Go0 ?_
     ·refine Dr.mk hΓ hMix (by kernel_rfl) (Go0 ?_)
      refine CallP.autoG Qfa (fun _ => QeV g p r (r.getD q default).zone q hr hq ) (Go0 ?_)
      have w0 := Qa (↑q + 1) om om
      have hmem : QaX (r.take q) (r.getD q default).zone = true ↔ ¬ ∀ j, j < q → (r.getD j default).zone ≠ (r.getD q default).zone := by
       have := QfA (r := r) (k := q) om (n := (r.getD q default).zone)
       unfold QaX
       rw [List.any_eq_true]
       unfold QcR at this
       rw [List.mem_map] at this
       constructor
       ·rintro ⟨x, hx, h2⟩ h3
        obtain ⟨j, h4, h5⟩ := this.1 ⟨x, hx, of_decide_eq_true h2⟩
        exact h3 j h4 h5
       ·intro h
        obtain ⟨x, hx, h2⟩ := this.2 (Classical.byContradiction fun hn => h fun j hj e => hn ⟨j, hj, e⟩)
        exact ⟨x, hx, decide_eq_true h2⟩
      by_cases e : 0 ≤ (r.getD q default).zone ∧ 0 ≤ (r.getD q default).epoch ∧ (r.getD q default).epoch ≤ g ∧ ∀ j, j < q → (r.getD j default).zone ≠ (r.getD q default).zone
      ·have hf : QaX (r.take q) (r.getD q default).zone = false := Qg (fun h => hmem.1 h e.2.2.2)
       refine Br.no (Bool.eq_false_iff.2 fun z => by simp [-List.getD_eq_getElem?_getD, hf] at z; omega) ?_
       refine Go0 ?_
       refine ⟨q + 1, ⟨om, QD hq2 e⟩, om, ?_⟩
       exact Mv.k0
      ·refine Br.yes (Decidable.byContradiction fun z => e (by
        simp [-List.getD_eq_getElem?_getD] at z
        have h4 : ∀ j, j < q → (r.getD j default).zone ≠ (r.getD q default).zone := Classical.byContradiction fun hn => by
         have := hmem.2 hn
         rw [this] at z
         simp at z
        exact ⟨om, om, om, h4⟩)) ?_
       refine Go0 ?_
       rw [no (fun z => e ((epochsOk_iff.1 z).2.2 q om))]
       exact RM.i0
     ·rw [epochsOk_iff.2 ⟨h0, hpins, fun i hi => hq2 i om⟩]
      exact RM.i0
 ·refine Br.yes (Decidable.byContradiction fun ebye => h0 (by simp [-List.getD_eq_getElem?_getD, -Int.default_eq_zero] at ebye <;> grind)) ?_; conv=>whnf
  refine Go0 ?_
  rw [no (fun z => h0 (epochsOk_iff.1 z).1)]
  exact RM.i0
theorem QcJ : HB 115 := hB Tryz.func115
def QbN (l : List Int) (i n : Int) : List Int := l.set i.toNat (l.getD i.toNat default + n)
@[simp] theorem addAt_len (l : List Int) (i n : Int) : (QbN l i n).length = l.length := List.length_set
theorem QjD {l : List Int} {i n : Int} (h0 : 0 ≤ i) (h1 : i < l.length) (k : Nat) : (QbN l i n).getD k default = if k = i.toNat then l.getD i.toNat default + n else l.getD k default := by
 unfold QbN
 rw [Q1 om]
def hasC (live pend : List Int) (z : Int) : Bool := QC live pend && decide (0 ≤ z ∧ z < live.length)
theorem hasC_iff {live pend : List Int} {z : Int} : hasC live pend z = true ↔ QC live pend = true ∧ 0 ≤ z ∧ z < live.length := by
 unfold hasC; rw [Bool.and_eq_true, decide_eq_true_eq]
def QdE (live : List Int) (oz fz : Int) (had is : Bool) : List Int :=
 if is = true then QbN (if had = true then QbN live oz (-1) else live) fz 1 else if had = true then QbN live oz (-1) else live
def Qat (live pend : List Int) (oz fz : Int) (had is : Bool) : List Int × Bool :=
 if QC live pend = true ∧ (had = true → hasC live pend oz = true) ∧ (is = true → hasC live pend fz = true) ∧ QC (QdE live oz fz had is) pend = true then (QdE live oz fz had is, true) else (live, false)
def Qa1 (live pend : List Int) (z : Int) : List Int × Bool :=
 if hasC live pend z = true ∧ pend.getD z.toNat default ≠ 1099511627776 then (QbN pend z 1, true) else (pend, false)
def Qez (o : List Int) (i : Int) : Bool := Qaj o && decide (0 ≤ i ∧ i < o.length ∧ o.getD i.toNat default = -1)
def Qbm (o : List Int) (i t : Int) : List Int × Bool := if Qez o i = true ∧ 0 ≤ t then (o.set i.toNat t, true) else (o, false)
def pinM (g : Int) (pins : List Int) (rets : List Ret) (q : Int) : List Int × Bool :=
 if QA g pins rets = true ∧ 0 ≤ q ∧ q < pins.length ∧ pins.getD q.toNat default = -1 then (pins.set q.toNat g, true) else (pins, false)
def Qau (g : Int) (pins : List Int) (rets : List Ret) (z : Int) : List Ret × Bool :=
 if QA g pins rets = true ∧ 0 ≤ z ∧ QaX rets z = false then (rets ++ [⟨z, g⟩], true) else (rets, false)
def Qm3 (g : Int) (pins : List Int) : Bool := decide (∀ i, i < pins.length → pins.getD i default = -1 ∨ pins.getD i default = g)
def advM (g : Int) (pins : List Int) (rets : List Ret) : Int × Bool :=
 if QA g pins rets = true ∧ g ≠ 1099511627776 ∧ Qm3 g pins = true then (g + 1, true) else (g, false)
def orW (x y : Int) : Int := IntKind.i64.wrap (BitVec.ofInt IntKind.i64.bits x ||| BitVec.ofInt IntKind.i64.bits y).toNat
def shW (x : Int) : Int := IntKind.i64.wrap (x * 2 ^ min (8 : Int).toNat IntKind.i64.bits)
def Qfe (b : ByteArray) (k : Nat) : Int := IntKind.i64.wrap ((b.data.toList.getD k 0).toNat : Int)
def Qig (b : ByteArray) (at_ size : Nat) : Nat → Int
 | 0 => 0
 | k + 1 => orW (shW (Qig b at_ size k)) (Qfe b (at_ + (size - 1 - k)))
def getE (b : ByteArray) (at_ size : Nat) : Int := if b.size < at_ + size then 2 else 0
def getS (b : ByteArray) (at_ size : Nat) : Int := if b.size < at_ + size then 0 else Qig b at_ size size
def sumW (b : ByteArray) : Int := IntKind.i64.wrap (addU 0 b)
def rawR (s : ByteArray) : Rec := ⟨getS s 2 1, getS s 4 4, getS s 8 6, getS s 14 1, s.extract 16 (16 + min (getS s 3 1) 20).toNat⟩
def decE (s : ByteArray) : Int := if s.size = 40 then if getS s 36 4 = sumW (s.extract 0 36) then if Qa0 (rawR s) = 0 ∧ encR (rawR s) = s then 0 else 3 else 4 else 2
def decR (s : ByteArray) : Rec := if decE s = 0 then rawR s else default
def Qh4 (r : Rec) : Bool := decide (r.kind = 1 ∨ r.kind = 2)
def QM (r : Rec) : Rec × Bool := if Qa0 r = 0 ∧ Qh4 r = true then ({ r with move := min (r.move + 1) 255 }, true) else (default, false)
def Qbi (s : ByteArray) : Rec × Bool := if decE s = 0 ∧ Qh4 (decR s) = true then (decR s, true) else (default, false)
def Qcp (l : List ByteArray) : Nat → Int
 | 0 => 1099511627776
 | k + 1 => min (Qcp l k) (decR (l.getD k ByteArray.empty)).version
def Qdk (l : List ByteArray) : Nat → Int
 | 0 => 0
 | k + 1 => max (Qdk l k) (decR (l.getD k ByteArray.empty)).version
def QbB (l : List ByteArray) : Nat → ByteArray
 | 0 => ByteArray.empty
 | k + 1 => QbB l k ++ (l.getD k ByteArray.empty).extract 0 36
def blkE (s : ByteArray) : Int := if decE s = 0 then if Qh4 (decR s) = true then 0 else 3 else decE s
def Qbq (l : List ByteArray) : Nat → Int
 | 0 => 0
 | k + 1 => if Qbq l k = 0 then blkE (l.getD k ByteArray.empty) else Qbq l k
def Qfo (l : List ByteArray) : Int := if l.length = 0 ∨ 64 < l.length then 19 else Qbq l l.length
def Qgt (l : List ByteArray) : Rec := if Qfo l = 0 then ⟨3, l.length, Qdk l l.length, 0, putS (Qcp l l.length) 6 ++ putS (sumW (QbB l l.length)) 4⟩ else default
abbrev DS := DiceM × St
def Qia (s : St) (z : Int) : List ByteArray := (s.dev.zones.getD z.toNat default).sectors
def St.install (s : St) (e : Ent) : St :=
 if (QaY s.map e).2.2 = true then { s with live := (Qat s.live s.pend (QaY s.map e).2.1.zone e.zone (decide ((QaY s.map e).2.1.kind ≠ 0)) true).1, map := (QaY s.map e).1 } else s
def recE (r : Rec) (zone at_ : Int) : Ent := ⟨r.block, r.kind, r.version, r.move, zone, at_⟩
def St.put (s : St) (zone : Int) (r : Rec) : St := { s with dev := Qaa s.dev zone (encR r) }
def St.add (s : St) (zone : Int) (r : Rec) : St :=
 if Q9 s.dev zone (encR r) = 0 then (s.put zone r).install (recE r zone (Qe s.dev zone (encR r))) else s
def St.bump (s : St) : St := { s with next := s.next + 1 }
def addF (zone : Int) (p : DS) : DS := (recD p.1, p.2.bump.add zone (recR p.1 p.2.cfg.blocks p.2.next))
def addTo (zone : Int) (p : DS) : Nat → DS
 | 0 => p
 | k + 1 => addF zone (addTo zone p k)
def St.seal (s : St) (zone : Int) : St := s.put zone (Qgt (Qia s zone))
def fullF (zone : Int) (p : DS) : DS := ((addTo zone p (p.2.cfg.size - 1).toNat).1, (addTo zone p (p.2.cfg.size - 1).toNat).2.seal zone)
def QaF (l : List Int) (n : Int) : List Int := l.filter fun x => decide (x ≠ n)
def St.unfree (s : St) (z : Int) : St := { s with free := QaF s.free z }
def fullTo (c : Conf) (p : DS) : Nat → DS
 | 0 => p
 | k + 1 => fullF (2 * Qo c + k) ((fullTo c p k).1, (fullTo c p k).2.unfree (2 * Qo c + k))
def St.copied (s : St) (e : Ent) (zone : Int) : St :=
 if Qeo s.dev e.zone e.offset = 0 ∧ (Qbi (Qa4 s.dev e.zone e.offset)).2 = true ∧ (QM (Qbi (Qa4 s.dev e.zone e.offset)).1).2 = true ∧ Q9 s.dev zone (encR (QM (Qbi (Qa4 s.dev e.zone e.offset)).1).1) = 0 then
  let r := (QM (Qbi (Qa4 s.dev e.zone e.offset)).1).1
  let at_ := Qe s.dev zone (encR r)
  { s with dev := Qaa s.dev zone (encR r), map := (relM s.map e.block e.version e.zone e.offset zone at_ r.move).1, live := (Qat s.live s.pend e.zone zone true true).1 }
 else s
def copyRun (zone : Int) : List Ent → Nat → DS → DS
 | [], _, p => p
 | e :: r, i, p => if (i : Int) < p.1.next p.2.cfg.size then copyRun zone r (i + 1) (p.1.step, p.2.copied e zone) else (p.1.step, p.2)
def hostF (p : DS) : DS :=
 if 0 < p.2.free.length then
  if 0 < p.1.next 4 then addTo (p.2.free.getD 0 default) (p.1.step.step, { (p.2.unfree (p.2.free.getD 0 default)) with host := p.2.free.getD 0 default }) (p.1.step.next p.2.cfg.size).toNat
  else (p.1.step, p.2)
 else p
def laneF (p : DS) : DS :=
 if 0 < p.2.free.length then
  if 0 < p.1.next 3 then copyRun (p.2.free.getD 0 default) (allS p.2.map) 0 (p.1.step, { (p.2.unfree (p.2.free.getD 0 default)) with lane := p.2.free.getD 0 default })
  else (p.1.step, p.2)
 else p
def Qvk (p : DS) : DS := laneF (hostF p)
def retireF (i : Int) (p : DS) : DS :=
 if (p.2.dev.zones.getD i.toNat default).state = 4 ∧ p.2.live.getD i.toNat default = 0 then
  if p.1.next 2 = 0 then (p.1.step, { p.2 with rets := (Qau p.2.glob p.2.pins p.2.rets i).1 }) else (p.1.step, p.2)
 else p
def advF (p : DS) : DS := if p.1.next 6 = 5 then (p.1.step, { p.2 with glob := (advM p.2.glob p.2.pins p.2.rets).1 }) else (p.1.step, p.2)
def retTo (c : Conf) (p : DS) : Nat → DS
 | 0 => p
 | k + 1 => advF (retireF (2 * Qo c + k) (retTo c p k))
def flagsF (p : DS) : DS :=
 let s : St := { p.2 with want := decide (p.1.next 4 = 3), closed := decide (p.1.step.next 12 = 11) }
 (p.1.step.step.step, if p.1.step.step.next 3 = 2 then { s with dev := Qbn s.dev } else s)
def QvH (d : DiceM) : DS :=
 let c := Qad d
 let d1 := QeF d
 flagsF (retTo c (Qvk (fullTo c (d1.step, QE c) (d1.next (Qq c)).toNat)) (Qq c).toNat)
def asReq (d : DiceM) (s : St) : Req := cmdM d s.cfg.blocks
def subF (q : Int) (p : DS) : DS := (cmdD p.1 p.2.cfg.blocks, (QI p.2 q (cmdM p.1 p.2.cfg.blocks)).1)
def QuN (q : Int) (p : DS) : Nat → DS
 | 0 => p
 | k + 1 => subF q (QuN q p k)
def begF (q : Int) (p : DS) : DS := if 0 < p.1.next 4 then (p.1.step, (Qn false p.2 q).1) else (p.1.step, p.2)
def Qmk (s : St) (w : Wrk) : Rec := if w.req.kind = 3 then ⟨2, w.req.block, s.next, 0, ByteArray.empty⟩ else ⟨1, w.req.block, s.next, 0, w.req.data⟩
def QvQ (s : St) (w : Wrk) : Bool :=
 decide (0 ≤ s.host ∧ ((Qia s s.host).length : Int) < s.cfg.size - 1 ∧ (7 < w.state → Qez s.owner (QF s.map w.req.block) = true) ∧ Q9 s.dev s.host (encR (Qmk s w)) = 0)
def QuR (s : St) (w : Wrk) : Ent := recE (Qmk s w) s.host (Qe s.dev s.host (encR (Qmk s w)))
def apSt (s : St) (q : Nat) (w : Wrk) : St :=
 let t : St := { (s.put s.host (Qmk s w)).bump with owner := if 7 < w.state then (Qbm s.owner (QF s.map w.req.block) q).1 else s.owner }
 if w.state = 9 then t.install (QuR s w) else { t with pend := (Qa1 t.live t.pend s.host).1 }
def Qtf (s : St) (q : Nat) (w : Wrk) : St := if QvQ s w = true then (apSt s q w).setWork q { w with ent := QuR s w } else s
def QvL (d : DiceM) (s : St) (q : Nat) (k : Int) : St :=
 let w := s.works.getD q default
 { s with pins := (pinM s.glob s.pins s.rets q).1 }.setWork q ⟨1 + min k 3, w.req, if 1 < k then (Qdf s.map w.req.block).1 else w.ent, if 2 < k then QdH (d.next 60) else w.data⟩
def QvV (q : Nat) (p : DS) : DS :=
 let w := p.2.works.getD q default
 let k := p.1.next 5
 if w.state = 1 ∧ 0 < k then (if 2 < k then p.1.step.step else p.1.step, QvL p.1.step p.2 q k)
 else if w.state = 10 ∧ 2 < k then (p.1.step, p.2.setWork q { w with state := 11 })
 else if w.state = 5 ∧ 0 < k then
  if 1 < k then (p.1.step, Qtf p.2 q { w with state := 5 + k }) else (p.1.step, p.2.setWork q { w with state := 5 + k })
 else (p.1.step, p.2.setWork q w)
def QvG (q : Nat) (p : DS) : DS := QvV q (begF q (QuN q (p.1.step, p.2) (p.1.next 3).toNat))
def Qpk (p : DS) : Nat → DS
 | 0 => p
 | k + 1 => QvG k (Qpk p k)
def Qvn (s : St) (c : Cln) (k : Int) (r : Rec) : Bool := decide (Q9 s.dev s.lane (encR (QM r).1) = 0 ∧ (7 < k → Qez s.owner (QF s.map c.ent.block) = true))
def Qvs (s : St) (c : Cln) (k : Int) (r : Rec) : St :=
 if Qvn s c k r = true then
  let r1 := (QM r).1
  let at_ := Qe s.dev s.lane (encR r1)
  let s1 : St := { s with dev := Qaa s.dev s.lane (encR r1), owner := if 7 < k then (Qbm s.owner (QF s.map c.ent.block) s.cfg.queues).1 else s.owner }
  let c1 : Cln := { c with pzone := s.lane, poff := at_, state := if k = 9 then 6 else if 7 < k then 5 else 4 }
  if k = 9 then { s1 with map := (relM s.map c.ent.block c.ent.version c.ent.zone c.ent.offset s.lane at_ r1.move).1, live := (Qat s.live s.pend c.ent.zone s.lane true true).1, cln := c1 }
  else { s1 with pend := (Qa1 s.live s.pend s.lane).1, cln := c1 }
 else s
def QuI (z : Int) (k off : Int) : Cln := ⟨if k = 2 then 8 else if k = 1 then 7 else 1, z, off, default, 0, 0⟩
def Qci (s : St) (z off : Int) : Rec × Bool := Qbi (Qa4 s.dev z off)
def Qi7 (s : St) (z off : Int) : Ent × Bool := Qdf s.map (Qci s z off).1.block
def Qvc (s : St) (z off k : Int) : Bool :=
 decide (4 ≤ k ∧ Qeo s.dev z off = 0 ∧ (Qci s z off).2 = true ∧ (Qi7 s z off).2 = true ∧ (Qi7 s z off).1.zone = z ∧ (Qi7 s z off).1.offset = off)
def Qvl (s : St) (z off k : Int) : St :=
 if Qvc s z off k = true then
  let c : Cln := { QuI z k off with ent := (Qi7 s z off).1, state := if k = 5 then 3 else 2 }
  if 5 < k ∧ 0 ≤ s.lane ∧ ((Qia s s.lane).length : Int) < s.cfg.size - 1 then Qvs s c k (Qci s z off).1 else { s with cln := c }
 else { s with cln := QuI z k off }
def QvA (p : DS) : DS :=
 let k := p.1.next 10
 if (QQ p.2).2 = true ∧ k ≠ 0 then (p.1.step.step, Qvl p.2 (QQ p.2).1 (p.1.step.next (p.2.cfg.size + 1)) k) else (p.1.step, p.2)
def Qbw (e : Ent) (next : Int) : Int :=
 if e.kind = 1 then if 0 ≤ e.block ∧ e.block < 128 ∧ 1 ≤ e.version ∧ e.version < next ∧ 0 ≤ e.move ∧ e.move ≤ 255 ∧ 0 ≤ e.zone ∧ e.zone < 32 ∧ 0 ≤ e.offset ∧ e.offset < 64 then 0 else 1 else 3
def Qax (l : List Ent) (next : Int) : Nat → Int
 | 0 => 0
 | k + 1 => if Qax l next k = 0 then if Qbw (l.getD k default) next = 0 then if 0 < k ∧ (l.getD k default).block ≤ (l.getD (k - 1) default).block then 17 else 0 else Qbw (l.getD k default) next else Qax l next k
def QbA (seq next cut : Int) (l : List Ent) : Int :=
 if 1 ≤ seq ∧ seq < 1099511627776 ∧ 1 ≤ next ∧ next ≤ 1099511627776 ∧ 1 ≤ cut ∧ cut ≤ next then if 128 < l.length then 19 else Qax l next l.length else 1
def Qie (seq next cut : Int) (l : List Ent) : Rec := ⟨4, l.length, seq, 0, putS next 6 ++ putS cut 6⟩
def QhT (e : Ent) : Rec := ⟨5, e.block, e.version, e.move, putS e.zone 2 ++ putS e.offset 2⟩
def Qa3 (l : List Rec) : Nat → ByteArray
 | 0 => ByteArray.empty
 | k + 1 => if Qa0 (l.getD k default) = 0 then Qa3 l k ++ (encR (l.getD k default)).extract 0 36 else Qa3 l k
def Qi0 (l : List Rec) : ByteArray := putS (sumW (Qa3 l l.length)) 4
def Qfc (seq next cut : Int) (l : List Ent) : List Rec := Qie seq next cut l :: l.map QhT
def Qet (seq next cut : Int) (l : List Ent) : List Rec :=
 if QbA seq next cut l = 0 then Qfc seq next cut l ++ [⟨6, l.length, seq, 0, Qi0 (Qfc seq next cut l)⟩] else []
def QpJ (t : Int) : Nat → Nat → Int → DiceM → List Int → DiceM × List Int × Int
 | 0, _, v, d, o => (d, o, v)
 | n + 1, i, v, d, o =>
  if v = i then
   if d.next 2 = 0 then QpJ t n (i + 1) (if (Qbm o i t).2 = true then v + 1 else v) d.step (Qbm o i t).1 else (d.step, o, v)
  else (d, o, v)
def QvU (c : Conf) (slot : Int) (k : Nat) : Int := slot * Qo c + k
def wrTo (c : Conf) (slot : Int) (recs : List Rec) (d : Dev) : Nat → Dev
 | 0 => d
 | k + 1 => Qaa (wrTo c slot recs d k) (QvU c slot (k / c.size.toNat)) (encR (recs.getD k default))
def QbM (l : List Ent) : List Ent := l.filter fun e => decide (e.kind = 1)
def QpN (s : St) (slot : Int) (k : Int) : Sav :=
 ⟨3 + k - 4, 0, slot, s.seq + 1, s.next, cutS s, QbM (allS s.map), Qet (s.seq + 1) s.next (cutS s) (QbM (allS s.map))⟩
def QiX (s : St) : St := { s with dev := Qbn s.dev }
def Qmf (s : St) (slot k done : Int) : St :=
 let v : Sav := { QpN (QiX s) slot k with done := done }
 if k = 5 ∨ k = 6 then { QiX s with dev := wrTo s.cfg slot v.recs (Qbn s.dev) done.toNat, sav := v } else { QiX s with sav := v }
def QvS (p : DS) : DS :=
 let k := p.1.next 9
 let slot := p.1.step.next 2
 let d := p.1.step.step
 let s := p.2
 if k = 1 ∨ k = 2 then
  let t := QpJ (s.cfg.queues + 2) (s.cfg.shards - 1).toNat 0 0 d s.owner
  (t.1, { s with owner := t.2.1, sav := ⟨1, t.2.2, slot, 0, 0, 0, [], []⟩ })
 else if k = 3 then (d, { s with sav := ⟨2, s.cfg.shards, slot, 0, 0, 0, [], []⟩ })
 else if 3 < k ∧ k < 8 then
  if k = 4 then (d.step, Qmf s slot k (d.next (Qo s.cfg)))
  else if k = 5 then (d.step, Qmf s slot k (d.next (QpN (QiX s) slot k).recs.length))
  else if k = 6 then (d, Qmf s slot k (QpN (QiX s) slot k).recs.length)
  else (d.step, Qmf s slot k (d.next s.cfg.shards))
 else (d, s)
def Qvy (l : List Int) : DS :=
 let q := QvH ⟨l, 0⟩
 QvS (QvA (Qpk q q.2.cfg.queues.toNat))
def stateS (l : List Int) : St := (Qvy l).2
theorem Qj4 {l : List Ent} (h1 : ∀ e ∈ l, Qbl e = true) (h2 : Asc l) : Q0 l = true := by
 unfold Q0
 rw [decide_eq_true_eq]
 intro i hi
 refine ⟨by rw [Qp _ _ hi]; exact h1 _ (List.getElem_mem hi), fun h0 => h2.get om hi⟩
theorem Qc1 {l : List Ent} (h : Q0 l = true) {e : Ent} (he : e ∈ l) : Qbl e = true := by
 unfold Q0 at h
 rw [decide_eq_true_eq] at h
 obtain ⟨i, hi, rfl⟩ := List.getElem_of_mem he
 have := (h i hi).1
 rwa [Qp _ _ hi] at this
theorem inStripe_mem {l : List Ent} {n i : Nat} : QaD l n i = true ↔ ∀ x ∈ l, x.block.tmod n = i := by
 unfold QaD
 rw [decide_eq_true_eq]
 constructor
 ·intro h x hx
  obtain ⟨k, hk, rfl⟩ := List.getElem_of_mem hx
  have := h k hk
  rwa [Qp _ _ hk] at this
 ·intro h k hk
  rw [Qp _ _ hk]
  exact h _ (List.getElem_mem hk)
theorem QiD {l : List Ent} {e x : Ent} (h : x ∈ putE l e) : x = e ∨ x ∈ l := by
 unfold putE at h
 rcases List.mem_append.1 h with h | h
 ·exact Or.inr (List.mem_of_mem_take h)
 ·rcases List.mem_cons.1 h with h | h
  ·exact Or.inl h
  ·exact Or.inr (List.mem_of_mem_drop h)
theorem QtI {l : List Ent} {e : Ent} (h : Asc l) : Asc (putE l e) := by
 have hp := Qfv l e.block
 have lo : ∀ i, i < Qy l e.block → (l.getD i default).block < e.block := fun i hi => Qsy hi
 have hi : ∀ i, (if hasM l e.block = true then Qy l e.block + 1 else Qy l e.block) ≤ i → i < l.length → e.block < (l.getD i default).block := by
  intro i h1 h2
  by_cases c : hasM l e.block = true
  ·rw [if_pos c] at h1
   unfold hasM at c
   rw [decide_eq_true_eq] at c
   have := h.get (i := Qy l e.block) (j := i) om h2
   omega
  ·rw [if_neg c] at h1
   have hlt : Qy l e.block < l.length := by omega
   have hge := Qst hlt
   unfold hasM at c
   rw [decide_eq_true_eq] at c
   by_cases q : i = Qy l e.block
   ·subst q
    have : (l.getD (Qy l e.block) default).block ≠ e.block := fun z => c ⟨hlt, z⟩
    omega
   ·have := h.get (i := Qy l e.block) (j := i) om h2
    omega
 unfold putE
 generalize hk : (if hasM l e.block = true then Qy l e.block + 1 else Qy l e.block) = k at *
 have hkp : Qy l e.block ≤ k := by rw [← hk]; split <;> omega
 refine List.pairwise_append.2 ⟨List.Pairwise.sublist (List.take_sublist _ _) h, ?_, ?_⟩
 ·refine List.pairwise_cons.2 ⟨fun x hx => ?_, List.Pairwise.sublist (List.drop_sublist _ _) h⟩
  obtain ⟨i, hi', rfl⟩ := List.getElem_of_mem hx
  rw [List.length_drop] at hi'
  have := hi (k + i) om om
  rw [Qp _ _ om] at this
  simpa using this
 ·intro a ha b hb
  obtain ⟨i, hi', rfl⟩ := List.getElem_of_mem ha
  rw [List.length_take] at hi'
  have hl := lo i om
  rw [Qp _ _ om] at hl
  have ea : (l.take (Qy l e.block))[i]'(by rw [List.length_take]; omega) = l[i]'om := by simp
  rw [ea]
  rcases List.mem_cons.1 hb with rfl | hb
  ·exact hl
  ·obtain ⟨j, hj, rfl⟩ := List.getElem_of_mem hb
   rw [List.length_drop] at hj
   have := hi (k + j) om om
   rw [Qp _ _ om] at this
   simp only [List.getElem_drop]
   omega
theorem Qlb {m : List (List Ent)} (h : Qu m = true) {i : Nat} {l : List Ent} (h1 : Q0 l = true) (h2 : ∀ x ∈ l, x.block.tmod m.length = i) : Qu (m.set i l) = true := by
 have hl := Qbp h
 unfold Qu
 rw [Bool.and_eq_true, decide_eq_true_eq, decide_eq_true_eq, List.length_set]
 refine ⟨hl, fun k hk => ?_⟩
 by_cases c : i < m.length
 ·rw [Q1 c]
  split
  ·rename_i e; subst e; exact ⟨h1, inStripe_mem.2 h2⟩
  ·exact Qb7 h hk
 ·rw [List.set_eq_of_length_le om]
  exact Qb7 h hk
theorem blocksIn_iff {m : List (List Ent)} {n : Int} : QaE m n = true ↔ ∀ i, i < m.length → ∀ e ∈ m.getD i default, e.block < n := by
 unfold QaE
 rw [decide_eq_true_eq]
 refine forall_congr' fun i => forall_congr' fun hi => ⟨fun h e he => ?_, fun h k hk => ?_⟩
 ·obtain ⟨k, hk, rfl⟩ := List.getElem_of_mem he
  have := h k hk
  rwa [Qp _ _ hk] at this
 ·rw [Qp _ _ hk]
  exact h _ (List.getElem_mem hk)
theorem Qg9 {m : List (List Ent)} {n : Int} (h : QaE m n = true) {i : Nat} {l : List Ent} (hl : ∀ e ∈ l, e.block < n) : QaE (m.set i l) n = true := by
 rw [blocksIn_iff] at h ⊢
 intro k hk e he
 rw [List.length_set] at hk
 by_cases c : i < m.length
 ·rw [Q1 c] at he
  split at he
  ·exact hl e he
  ·exact h k hk e he
 ·rw [List.set_eq_of_length_le om] at he
  exact h k hk e he
structure MapKeep (m m' : List (List Ent)) (n : Int) : Prop where
 ok : Qu m' = true
 len : m'.length = m.length
 blocks : QaE m' n = true
theorem QqP {m : List (List Ent)} {n : Int} (h : Qu m = true) (hb : QaE m n = true) (e : Ent) (he : e.block < n) : MapKeep m (QaY m e).1 n := by
 unfold QaY
 split
 ·rename_i c
  have hlt := Qdt h c.2
  have hg := Qb7 h hlt
  have hst := inStripe_mem.1 hg.2
  split
  ·rename_i c2
   have hi : Qa6 (m.getD (QG m e.block) default) e = (putE (m.getD (QG m e.block) default) e, (QY (m.getD (QG m e.block) default) e.block).1, true) ∧ Qbl e = true := by
    unfold Qa6 at c2 ⊢
    rw [if_pos hg.1] at c2 ⊢
    by_cases q : Qbl e = true
    ·rw [if_pos q] at c2 ⊢
     by_cases q2 : (QY (m.getD (QG m e.block) default) e.block).2 = true ∧ e.version ≤ (QY (m.getD (QG m e.block) default) e.block).1.version
     ·rw [if_pos q2] at c2; cases c2
     ·rw [if_neg q2]; exact ⟨rfl, q⟩
    ·rw [if_neg q] at c2; cases c2
   rw [hi.1]
   refine ⟨Qlb h (Qj4 (fun x hx => ?_) (QtI (Qfx hg.1))) (fun x hx => ?_), List.length_set, Qg9 hb fun x hx => ?_⟩
   ·rcases QiD hx with rfl | hx
    ·exact hi.2
    ·exact Qc1 hg.1 hx
   ·rcases QiD hx with rfl | hx
    ·exact (QfE h c.2).symm
    ·exact hst x hx
   ·rcases QiD hx with rfl | hx
    ·exact he
    ·exact blocksIn_iff.1 hb _ hlt x hx
  ·exact ⟨h, rfl, hb⟩
 ·exact ⟨h, rfl, hb⟩
theorem Qk3 {m : List (List Ent)} {n : Int} (h : Qu m = true) (hb : QaE m n = true) (b v fz fo tz to move : Int) : MapKeep m (relM m b v fz fo tz to move).1 n := by
 unfold relM
 split
 ·rename_i c
  have hlt := Qdt h c.2
  have hg := Qb7 h hlt
  have hst := inStripe_mem.1 hg.2
  split
  ·rename_i c2
   generalize hl : m.getD (QG m b) default = l at *
   have hi : relE l b v fz fo tz to move = (l.set (Qy l b) { (QY l b).1 with zone := tz, offset := to, move := move }, true) ∧ ((QY l b).2 = true ∧ 0 ≤ tz ∧ 0 ≤ to ∧ 0 ≤ move ∧ move ≤ 255) := by
    unfold relE at c2 ⊢
    rw [if_pos hg.1] at c2 ⊢
    by_cases q : (QY l b).2 = true ∧ (QY l b).1.version = v ∧ (QY l b).1.zone = fz ∧ (QY l b).1.offset = fo ∧ 0 ≤ tz ∧ 0 ≤ to ∧ 0 ≤ move ∧ move ≤ 255
    ·rw [if_pos q]; exact ⟨rfl, q.1, q.2.2.2.2⟩
    ·rw [if_neg q] at c2; cases c2
   have hf : Qy l b < l.length ∧ (QY l b).1 = l.getD (Qy l b) default := by
    have h2 := hi.2.1
    unfold QY at h2 ⊢
    by_cases q : Q0 l = true ∧ hasM l b = true
    ·rw [if_pos q]
     have := q.2
     unfold hasM at this
     rw [decide_eq_true_eq] at this
     exact ⟨this.1, rfl⟩
    ·rw [if_neg q] at h2; cases h2
   have hmem : l.getD (Qy l b) default ∈ l := by rw [Qp _ _ hf.1]; exact List.getElem_mem _
   have hok := Qc1 hg.1 hmem
   have hnew : ∀ x ∈ l.set (Qy l b) { (QY l b).1 with zone := tz, offset := to, move := move }, Qbl x = true ∧ ∃ y ∈ l, x.block = y.block := by
    intro x hx
    rcases List.mem_or_eq_of_mem_set hx with hx | rfl
    ·exact ⟨Qc1 hg.1 hx, x, hx, rfl⟩
    ·rw [hf.2]
     refine ⟨?_, _, hmem, rfl⟩
     unfold Qbl at hok ⊢
     rw [decide_eq_true_eq] at hok ⊢
     exact ⟨hok.1, hok.2.1, hok.2.2.1, hi.2.2.2.2.1, hi.2.2.2.2.2, hok.2.2.2.2.2.1, hi.2.2.1, hi.2.2.2.1⟩
   have hasc : Asc (l.set (Qy l b) { (QY l b).1 with zone := tz, offset := to, move := move }) := by
    have ha := Qfx hg.1
    refine List.pairwise_iff_getElem.2 fun i j hi' hj' hij => ?_
    rw [List.length_set] at hi' hj'
    have := ha.get hij hj'
    have key : ∀ k (hk : k < l.length), ((l.set (Qy l b) { (QY l b).1 with zone := tz, offset := to, move := move })[k]'(by rw [List.length_set]; exact hk)).block = (l.getD k default).block := by
     intro k hk
     rw [List.getElem_set]
     split
     ·rename_i e; subst e; rw [hf.2]
     ·rw [Qp _ _ hk]
    rw [key i hi', key j hj']
    exact this
   rw [hi.1]
   refine ⟨Qlb h (Qj4 (fun x hx => (hnew x hx).1) hasc) (fun x hx => ?_), List.length_set, Qg9 hb fun x hx => ?_⟩
   ·obtain ⟨y, hy, e⟩ := (hnew x hx).2
    rw [e]; exact hst y hy
   ·obtain ⟨y, hy, e⟩ := (hnew x hx).2
    rw [e]
    exact blocksIn_iff.1 hb _ hlt y (by rw [hl]; exact hy)
  ·exact ⟨h, rfl, hb⟩
 ·exact ⟨h, rfl, hb⟩
theorem Val.withDev {s : St} (h : Val s) {d : Dev} (h1 : check d = 0) (h2 : d.zones.length = s.dev.zones.length) (h3 : d.size = s.dev.size) : Val { s with dev := d } :=
 ⟨{ h.parts with dev := h1, zones := by show (d.zones.length : Int) = _; rw [h2]; exact h.parts.zones, size := h3.trans h.parts.size }, h.queues, h.evs⟩
theorem Qiv (d : Dev) (z : Int) (s : ByteArray) : (Qaa d z s).size = d.size := by unfold Qaa; split <;> rfl
theorem Val.put {s : St} (h : Val s) (zone : Int) (r : Rec) : Val (s.put zone r) :=
 h.withDev (check_ok.2 (QhY (check_ok.1 h.parts.dev) zone _)) (Qgm _ _ _) (Qiv _ _ _)
theorem Qr8 {d : Dev} (h : check d = 0) : Qbn d = { d with zones := d.zones.map QdC } := by unfold Qbn; rw [if_pos h]
theorem Val.sync {s : St} (h : Val s) : Val { s with dev := Qbn s.dev } := by
 have h1 := h.parts.dev
 rw [Qr8 h1]
 exact h.withDev (check_ok.2 (Qjl (check_ok.1 h1))) (by simp) rfl
theorem Val.withMap {s : St} (h : Val s) {m : List (List Ent)} (hm : MapKeep s.map m s.cfg.blocks) : Val { s with map := m } :=
 ⟨{ h.parts with map := hm.ok, shards := by show (m.length : Int) = _; rw [hm.len]; exact h.parts.shards, blocks := hm.blocks }, h.queues, h.evs⟩
theorem Qe1 {a b : List Int} (h : QC a b = true) (o f : Int) (had is : Bool) : QC (Qat a b o f had is).1 b = true ∧ (Qat a b o f had is).1.length = a.length := by
 unfold Qat
 split
 ·rename_i c
  refine ⟨c.2.2.2, ?_⟩
  unfold QdE
  split <;> split <;> simp
 ·exact ⟨h, rfl⟩
theorem QoN {a b : List Int} (h : QC a b = true) (z : Int) : QC a (Qa1 a b z).1 = true := by
 unfold Qa1
 split
 ·rename_i c
  have c1 := hasC_iff.1 c.1
  have c2 := countsOk_iff2.1 c1.1
  refine countsOk_iff2.2 ⟨by simpa using c2.1, fun i hi => ?_⟩
  rw [QjD c1.2.1 om]
  have h3 := c2.2 i hi
  have h4 := c2.2 z.toNat om
  have h5 := c.2
  split
  ·omega
  ·exact h3
 ·exact h
theorem Val.withLive {s : St} (h : Val s) {l : List Int} (h1 : QC l s.pend = true) (h2 : l.length = s.live.length) : Val { s with live := l } :=
 ⟨{ h.parts with counts := h1, live := by show (l.length : Int) = _; rw [h2]; exact h.parts.live }, h.queues, h.evs⟩
theorem Val.withPend {s : St} (h : Val s) {l : List Int} (h1 : QC s.live l = true) : Val { s with pend := l } :=
 ⟨{ h.parts with counts := h1 }, h.queues, h.evs⟩
theorem QqE {o : List Int} (h : Qaj o = true) (i t : Int) : Qaj (Qbm o i t).1 = true ∧ (Qbm o i t).1.length = o.length := by
 unfold Qbm
 split
 ·rename_i c
  have h1 := locksOk_iff2.1 h
  unfold Qez at c
  rw [Bool.and_eq_true, decide_eq_true_eq] at c
  refine ⟨locksOk_iff2.2 ⟨by simpa using h1.1, fun k hk => ?_⟩, List.length_set⟩
  rw [List.length_set] at hk
  rw [Q1 om]
  split
  ·omega
  ·exact h1.2 k hk
 ·exact ⟨h, rfl⟩
theorem Val.withLocks {s : St} (h : Val s) {l : List Int} (h1 : Qaj l = true) (h2 : l.length = s.owner.length) : Val { s with owner := l } :=
 ⟨{ h.parts with locks := h1, stripes := by show (l.length : Int) = _; rw [h2]; exact h.parts.stripes }, h.queues, h.evs⟩
theorem epochs_iff {g : Int} {p : List Int} {r : List Ret} : QA g p r = true ↔ (1 ≤ p.length ∧ p.length ≤ 4 ∧ 0 ≤ g ∧ g ≤ 1099511627776) ∧ (∀ i, i < p.length → p.getD i default = -1 ∨ 0 ≤ p.getD i default ∧ (p.getD i default = g ∨ p.getD i default = g - 1)) ∧
  ∀ i, i < r.length → 0 ≤ (r.getD i default).zone ∧ 0 ≤ (r.getD i default).epoch ∧ (r.getD i default).epoch ≤ g ∧ ∀ j, j < i → (r.getD j default).zone ≠ (r.getD i default).zone := by
 unfold QA Qnt Qmx
 simp only [Bool.and_eq_true, decide_eq_true_eq]
theorem Val.withEpochs {s : St} (h : Val s) {g : Int} {p : List Int} {r : List Ret} (h1 : QA g p r = true) (h2 : p.length = s.pins.length) : Val { s with glob := g, pins := p, rets := r } :=
 ⟨{ h.parts with epochs := h1, pins := by show (p.length : Int) = _; rw [h2]; exact h.parts.pins }, h.queues, h.evs⟩
theorem Qtn {g : Int} {p : List Int} {r : List Ret} (h : QA g p r = true) (q : Int) : QA g (pinM g p r q).1 r = true ∧ (pinM g p r q).1.length = p.length := by
 unfold pinM
 split
 ·rename_i c
  have h1 := epochs_iff.1 h
  refine ⟨epochs_iff.2 ⟨by simpa using h1.1, fun i hi => ?_, h1.2.2⟩, List.length_set⟩
  rw [List.length_set] at hi
  rw [Q1 om]
  split
  ·omega
  ·exact h1.2.1 i hi
 ·exact ⟨h, rfl⟩
theorem Qn6 {r : List Ret} {z : Int} (h : QaX r z = false) : ∀ i, i < r.length → (r.getD i default).zone ≠ z := by
 unfold QaX at h
 rw [List.any_eq_false] at h
 intro i hi
 have := h _ (List.getElem_mem hi)
 rw [Qp _ _ hi]
 simpa using this
theorem QhZ {g : Int} {p : List Int} {r : List Ret} (h : QA g p r = true) (z : Int) : QA g p (Qau g p r z).1 = true := by
 unfold Qau
 split
 ·rename_i c
  have h1 := epochs_iff.1 h
  have hz := Qn6 c.2.2
  refine epochs_iff.2 ⟨h1.1, h1.2.1, fun i hi => ?_⟩
  rw [List.length_append] at hi
  simp only [List.length_cons, List.length_nil] at hi
  rw [Qaq om]
  by_cases e : i = r.length
  ·rw [if_pos e]
   refine ⟨c.2.1, h1.1.2.2.1, Int.le_refl _, fun j hj => ?_⟩
   rw [Qaq om, if_neg om]
   exact hz j om
  ·rw [if_neg e]
   have := h1.2.2 i om
   refine ⟨this.1, this.2.1, this.2.2.1, fun j hj => ?_⟩
   rw [Qaq om, if_neg om]
   exact this.2.2.2 j hj
 ·exact h
theorem Qk0 {g : Int} {p : List Int} {r : List Ret} (h : QA g p r = true) : QA (advM g p r).1 p r = true := by
 unfold advM
 split
 ·rename_i c
  have h1 := epochs_iff.1 h
  have h2 := c.2.2
  unfold Qm3 at h2
  rw [decide_eq_true_eq] at h2
  have h3 := c.2.1
  refine epochs_iff.2 ⟨om, fun i hi => ?_, fun i hi => ?_⟩
  ·have := h2 i hi
   have := h1.2.1 i hi
   omega
  ·have := h1.2.2 i hi
   exact ⟨this.1, this.2.1, om, this.2.2.2⟩
 ·exact h
theorem Val.install {s : St} (h : Val s) {e : Ent} (he : e.block < s.cfg.blocks) : Val (s.install e) := by
 unfold St.install
 split
 ·have h1 := Qe1 h.parts.counts (QaY s.map e).2.1.zone e.zone (decide ((QaY s.map e).2.1.kind ≠ 0)) true
  exact (h.withLive h1.1 h1.2).withMap (QqP h.parts.map h.parts.blocks e he)
 ·exact h
theorem Val.add {s : St} (h : Val s) (zone : Int) {r : Rec} (hr : r.block < s.cfg.blocks) : Val (s.add zone r) := by
 unfold St.add
 split
 ·exact (h.put zone r).install hr
 ·exact h
theorem Val.bump {s : St} (h : Val s) (hn : s.next < 1099511627776) : Val s.bump :=
 ⟨{ h.parts with next := ⟨by show 1 ≤ s.next + 1; have := h.parts.next; omega, by show s.next + 1 ≤ _; omega⟩ }, h.queues, h.evs⟩
theorem Val.copied {s : St} (h : Val s) (e : Ent) (zone : Int) : Val (s.copied e zone) := by
 unfold St.copied
 split
 ·have h1 := Qe1 h.parts.counts e.zone zone true true
  exact ((h.put zone (QM (Qbi (Qa4 s.dev e.zone e.offset)).1).1).withLive h1.1 h1.2).withMap (Qk3 h.parts.map h.parts.blocks _ _ _ _ _ _ _)
 ·exact h
end Go.Proofs
end
