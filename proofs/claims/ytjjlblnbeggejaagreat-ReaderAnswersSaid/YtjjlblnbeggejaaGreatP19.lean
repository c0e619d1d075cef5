/- Contracts, lemmas; no condition. -/
import Derived.Test.YtjjlblnbeggejaaGreatP18
set_option linter.all false
section
open Go Go.Am
namespace Go.Proofs
set_option maxRecDepth 20000
variable {a l : List Int} {n g : Int} {k : Nat} {r : List Ret}
def Qed (l : List Int) : Nat → Int
 | 0 => l.getD 0 default
 | k + 1 => min (Qed l k) (l.getD (k + 1) default)
def QeK (l : List Int) : Nat → Int
 | 0 => l.getD 0 default
 | k + 1 => max (QeK l k) (l.getD (k + 1) default)
theorem QfT {l : List Int} {c : Int} : ∀ {k : Nat}, c ≤ Qed l k ↔ ∀ i, i ≤ k → c ≤ l.getD i default
 | 0 => by
  simp only [Qed]
  exact ⟨fun h i hi => by rw [show i = 0 by omega]; exact h, fun h => h 0 (QxB _)⟩
 | k + 1 => by
  have ih := QfT (l := l) (c := c) (k := k)
  simp only [Qed]
  constructor
  ·intro h i hi
   by_cases e : i = k + 1
   ·subst e; omega
   ·exact ih.1 om i om
  ·intro h
   have h1 := ih.2 fun i hi => h i om
   have h2 := h (k + 1) (QxB _)
   omega
theorem Qiq {l : List Int} {c : Int} : ∀ {k : Nat}, QeK l k ≤ c ↔ ∀ i, i ≤ k → l.getD i default ≤ c
 | 0 => by
  simp only [QeK]
  exact ⟨fun h i hi => by rw [show i = 0 by omega]; exact h, fun h => h 0 (QxB _)⟩
 | k + 1 => by
  have ih := Qiq (l := l) (c := c) (k := k)
  simp only [QeK]
  constructor
  ·intro h i hi
   by_cases e : i = k + 1
   ·subst e; omega
   ·exact ih.1 om i om
  ·intro h
   have h1 := ih.2 fun i hi => h i om
   have h2 := h (k + 1) (QxB _)
   omega
theorem Qgp (l : List Int) (h1 : 1 ≤ l.length) (h2 : l.length ≤ 1000000) : PS 273 [.c (Qh l)] (.c (.int .i64 (Qed l (l.length - 1)))) := by
 refine PSpec.rm ?_
 refine ov hΓ Tryz.func273 25 0 [.tmp 2] Tryz.ntmps273 Tryz.results273 ?_
 refine Go1 fun _h=>?_
 refine Br.no (QxE om) (Go0 ?_)
 refine QuY hΓ (ι := Nat) [0] (fun k => [(4, .c (.int .i64 (k + 1 : Nat))), (3, .c (.int .i64 (Qed l k)))]) (fun _ => []) (fun k => k + 1 ≤ l.length) (fun k => l.length - k) 0 om ?_ ?_
 ·exact QuW
 ·intro k hk
  refine Go1 fun _h=>?_
  refine Br.of (fun h=>Go0 ?_) (fun h=>Go0 ?_)
  ·have w0 := Qa (↑(k + 1) + 1) om om
   refine ⟨k + 1, om, om, ?_⟩
   exact QuW
  ·rw [show l.length - 1 = k by omega]
   exact QuV
theorem Qgg : HB 273 := hB Tryz.func273
theorem Qk5 (l : List Int) (h1 : 1 ≤ l.length) (h2 : l.length ≤ 1000000) : PS 274 [.c (Qh l)] (.c (.int .i64 (QeK l (l.length - 1)))) := by
 refine PSpec.rm ?_
 refine ov hΓ Tryz.func274 25 0 [.tmp 2] Tryz.ntmps274 Tryz.results274 ?_
 refine Go1 fun _h=>?_
 refine Br.no (QxE om) (Go0 ?_)
 refine QuY hΓ (ι := Nat) [0] (fun k => [(4, .c (.int .i64 (k + 1 : Nat))), (3, .c (.int .i64 (QeK l k)))]) (fun _ => []) (fun k => k + 1 ≤ l.length) (fun k => l.length - k) 0 om ?_ ?_
 ·exact QuW
 ·intro k hk
  refine Go1 fun _h=>?_
  refine Br.of (fun h=>Go0 ?_) (fun h=>Go0 ?_)
  ·have w0 := Qa (↑(k + 1) + 1) om om
   refine ⟨k + 1, om, om, ?_⟩
   exact QuW
  ·rw [show l.length - 1 = k by omega]
   exact QuV
theorem QkI : HB 274 := hB Tryz.func274
theorem countsOk_iff {b : List Int} : Qr a b = true ↔ (a.length = b.length ∧ 1 ≤ a.length ∧ a.length ≤ 32) ∧ 0 ≤ Qed a (a.length - 1) ∧ 0 ≤ Qed b (b.length - 1) ∧ QeK a (a.length - 1) ≤ 1099511627776 ∧ QeK b (b.length - 1) ≤ 1099511627776 := by
 unfold Qr
 rw [QxA, Qxw, Qxw, QfT, QfT, Qiq, Qiq]
 constructor
 ·rintro ⟨h, h2⟩
  exact ⟨h, fun i hi => (h2 i om).1, fun i hi => (h2 i om).2.2.1, fun i hi => (h2 i om).2.1, fun i hi => (h2 i om).2.2.2⟩
 ·rintro ⟨h, h1, h2, h3, h4⟩
  exact ⟨h, fun i hi => ⟨h1 i om, h3 i om, h2 i om, h4 i om⟩⟩
theorem QfE (a b : List Int) (ha : a.length ≤ 1000000) (hb : b.length ≤ 1000000) : PS 226 [.a [Qh a, Qh b]] (.c (.bool (Qr a b))) := by
 refine PSpec.rm ?_
 refine ov hΓ Tryz.func226 44 0 [.tmp 2] Tryz.ntmps226 Tryz.results226 ?_
 refine Go2 fun _h _h=>?_
 by_cases h : a.length = b.length ∧ 1 ≤ a.length ∧ a.length ≤ 32
 ·refine Br.no ?_ ?_
  ·have h1 : ¬ (a.length : Int) < 1 := by omega
   have h2 : ¬ (a.length : Int) > 32 := by omega
   have h3 : ((a.length : Int) != (b.length : Int)) = false := by simp [h.1]
   rw [h3, QxE h1]; exact QxE h2
  refine Go0 ?_
  refine QuU Qgg (Qgp a om om ) (Go0 ?_)
  refine CallG.auto Qgg (fun _ => Qgp b om om ) (Go0 ?_)
  refine CallG.auto QkI (fun _ => Qk5 a om om ) (Go0 ?_)
  refine CallG.auto QkI (fun _ => Qk5 b om om ) (Go0 ?_)
  refine Qvj rfl (WS.c (WC.bool ?_))
  rw [QxW, countsOk_iff]
  simp only [Qy5, QxA, Qxw]
  constructor
  ·rintro ⟨⟨⟨h1, h2⟩, h3⟩, h4⟩; exact ⟨h, h1, h2, h3, h4⟩
  ·rintro ⟨-, h1, h2, h3, h4⟩; exact ⟨⟨⟨h1, h2⟩, h3⟩, h4⟩
 ·refine Br.yes ?_ ?_
  ·by_cases h1 : (a.length : Int) = b.length
   ·rw [show ((a.length : Int) != (b.length : Int)) = false by simp [h1]]
    by_cases h2 : (a.length : Int) < 1
    ·rw [Qxz h2]; rfl
    ·rw [QxE h2]; exact Qxz om
   ·rw [show ((a.length : Int) != (b.length : Int)) = true by simpa using h1]; rfl
  refine Go0 ?_
  rw [Qq (fun e => h (countsOk_iff.1 e).1 : ¬ Qr a b = true)]
  exact QuV
theorem Qfu : HB 226 := hB Tryz.func226
theorem Qos : QbI a = true ↔ (1 ≤ a.length ∧ a.length ≤ 8) ∧ -1 ≤ Qed a (a.length - 1) := by
 unfold QbI
 rw [QxA, Qxw, Qxw, QfT]
 exact ⟨fun ⟨h, h2⟩ => ⟨h, fun i hi => h2 i om⟩, fun ⟨h, h2⟩ => ⟨h, fun i hi => h2 i om⟩⟩
theorem Qjn (a : List Int) (ha : a.length ≤ 1000000) : PS 270 [.a [Qh a]] (.c (.bool (QbI a))) := by
 refine PSpec.rm ?_
 refine ov hΓ Tryz.func270 19 0 [.tmp 2] Tryz.ntmps270 Tryz.results270 ?_
 refine Go1 fun _h=>?_
 refine CallG.auto Qgg (fun hg => Qgp a (by simp only [Qy5, QxA, Qxw] at hg; omega) ha) (Go0 ?_)
 refine Qvj rfl (WS.c (WC.bool ?_))
 rw [QxW, Qos]
 simp only [Qy5, QxA, Qxw]
 constructor
 ·rintro ⟨h1, h2⟩; exact ⟨om, h2⟩
 ·rintro ⟨h1, h2⟩; exact ⟨om, h2⟩
theorem QjC : HB 270 := hB Tryz.func270
theorem QfN (c : Conf) (r : Req) : PS 271 [.a c.cells, .a [.int .i64 r.kind, .int .i64 r.block, .str r.data]] (.c (.int .i64 (cmdE c r))) := by
 refine PSpec.rm ?_
 have fin : ∀ n, cmdE c r = n → RM 0 (.c (.int .i64 n)) [.vr c.cells, .vr [.int .i64 r.kind, .int .i64 r.block, .str r.data]] (.c (.int .i64 (cmdE c r))) [] := fun n h => by
  rw [h]; refine Qvj rfl ?_;(first|exact wb0|refine wb1 ?_|refine wb2 ?_ ?_|refine wb3 ?_ ?_ ?_|refine wb4 ?_ ?_ ?_ ?_)
 refine ov0 hΓ Tryz.func271 35 0 [.tmp 4] Tryz.ntmps271 Tryz.results271 ?_
 by_cases hk : r.kind = 1 ∨ r.kind = 2 ∨ r.kind = 3
 ·by_cases hb : r.block < 0 ∨ r.block ≥ c.blocks
  ·have hc : (bif decide (r.block < 0) then true else decide (r.block ≥ c.blocks)) = true := by
    rcases hb with hb | hb
    ·rw [Qxz hb]; rfl
    ·rw [Qxz hb]; cases decide (r.block < 0) <;> rfl
   rcases hk with hk | hk | hk
   ·refine Br.yes (by simp [hk]) (Go0 ?_)
    refine Br.yes (by simp [hk]) (Go0 ?_)
    refine Br.yes hc (Go0 ?_)
    exact fin _ (by unfold cmdE; (repeat' split) <;> omega)
   ·refine Br.no (by simp [hk]) (Go0 ?_)
    refine Br.yes (by simp [hk]) (Go0 ?_)
    refine Br.yes (by simp [hk]) (Go0 ?_)
    refine Br.yes hc (Go0 ?_)
    exact fin _ (by unfold cmdE; (repeat' split) <;> omega)
   ·refine Br.no (by simp [hk]) (Go0 ?_)
    refine Br.no (by simp [hk]) (Go0 ?_)
    refine Br.yes (by simp [hk]) (Go0 ?_)
    refine Br.yes hc (Go0 ?_)
    exact fin _ (by unfold cmdE; (repeat' split) <;> omega)
  ·have hc : (bif decide (r.block < 0) then true else decide (r.block ≥ c.blocks)) = false := by
    rw [QxE (by omega : ¬ r.block < 0)]; exact QxE om
   rcases hk with hk | hk | hk
   ·refine Br.yes (by simp [hk]) (Go0 ?_)
    refine Br.yes (by simp [hk]) (Go0 ?_)
    refine Br.no hc (Go0 ?_)
    (first|refine Qu9 (fun h5=>?_) (fun h5=>?_)|refine Br.mk (fun h5=>?_) (fun h5=>?_)<;>simp [-List.length_eq_zero_iff,-List.getD_eq_getElem?_getD] at h5)<;>(try simp only [Qxy] at h5)<;>(conv=>whnf)
    ·refine Go1 fun _h=>?_
     (first|refine Qu9 (fun h6=>?_) (fun h6=>?_)|refine Br.mk (fun h6=>?_) (fun h6=>?_)<;>simp [-List.length_eq_zero_iff,-List.getD_eq_getElem?_getD] at h6)<;>(try simp only [Qxy] at h6)<;>(conv=>whnf)
     ·refine Go0 ?_
      exact fin _ (by unfold cmdE; (repeat' split) <;> omega)
     ·refine Go0 ?_
      exact fin _ (by unfold cmdE; (repeat' split) <;> omega)
    ·refine Go1 fun _h=>?_
     (first|refine Qu9 (fun h6=>?_) (fun h6=>?_)|refine Br.mk (fun h6=>?_) (fun h6=>?_)<;>simp [-List.length_eq_zero_iff,-List.getD_eq_getElem?_getD] at h6)<;>(try simp only [Qxy] at h6)<;>(conv=>whnf)
     ·refine Go0 ?_
      exact fin _ (by unfold cmdE; (repeat' split) <;> omega)
     ·refine Go0 ?_
      exact fin _ (by unfold cmdE; (repeat' split) <;> omega)
   ·refine Br.no (by simp [hk]) (Go0 ?_)
    refine Br.yes (by simp [hk]) (Go0 ?_)
    refine Br.yes (by simp [hk]) (Go0 ?_)
    refine Br.no hc (Go0 ?_)
    (first|refine Qu9 (fun h5=>?_) (fun h5=>?_)|refine Br.mk (fun h5=>?_) (fun h5=>?_)<;>simp [-List.length_eq_zero_iff,-List.getD_eq_getElem?_getD] at h5)<;>(try simp only [Qxy] at h5)<;>(conv=>whnf)
    ·refine Go1 fun _h=>?_
     (first|refine Qu9 (fun h6=>?_) (fun h6=>?_)|refine Br.mk (fun h6=>?_) (fun h6=>?_)<;>simp [-List.length_eq_zero_iff,-List.getD_eq_getElem?_getD] at h6)<;>(try simp only [Qxy] at h6)<;>(conv=>whnf)
     ·refine Go0 ?_
      exact fin _ (by unfold cmdE; (repeat' split) <;> omega)
     ·refine Go0 ?_
      exact fin _ (by unfold cmdE; (repeat' split) <;> omega)
    ·refine Go1 fun _h=>?_
     (first|refine Qu9 (fun h6=>?_) (fun h6=>?_)|refine Br.mk (fun h6=>?_) (fun h6=>?_)<;>simp [-List.length_eq_zero_iff,-List.getD_eq_getElem?_getD] at h6)<;>(try simp only [Qxy] at h6)<;>(conv=>whnf)
     ·refine Go0 ?_
      exact fin _ (by unfold cmdE; (repeat' split) <;> omega)
     ·refine Go0 ?_
      exact fin _ (by unfold cmdE; (repeat' split) <;> omega)
   ·refine Br.no (by simp [hk]) (Go0 ?_)
    refine Br.no (by simp [hk]) (Go0 ?_)
    refine Br.yes (by simp [hk]) (Go0 ?_)
    refine Br.no hc (Go0 ?_)
    (first|refine Qu9 (fun h5=>?_) (fun h5=>?_)|refine Br.mk (fun h5=>?_) (fun h5=>?_)<;>simp [-List.length_eq_zero_iff,-List.getD_eq_getElem?_getD] at h5)<;>(try simp only [Qxy] at h5)<;>(conv=>whnf)
    ·refine Go1 fun _h=>?_
     (first|refine Qu9 (fun h6=>?_) (fun h6=>?_)|refine Br.mk (fun h6=>?_) (fun h6=>?_)<;>simp [-List.length_eq_zero_iff,-List.getD_eq_getElem?_getD] at h6)<;>(try simp only [Qxy] at h6)<;>(conv=>whnf)
     ·refine Go0 ?_
      exact fin _ (by unfold cmdE; (repeat' split) <;> omega)
     ·refine Go0 ?_
      exact fin _ (by unfold cmdE; (repeat' split) <;> omega)
    ·refine Go1 fun _h=>?_
     (first|refine Qu9 (fun h6=>?_) (fun h6=>?_)|refine Br.mk (fun h6=>?_) (fun h6=>?_)<;>simp [-List.length_eq_zero_iff,-List.getD_eq_getElem?_getD] at h6)<;>(try simp only [Qxy] at h6)<;>(conv=>whnf)
     ·refine Go0 ?_
      exact fin _ (by unfold cmdE; (repeat' split) <;> omega)
     ·refine Go0 ?_
      exact fin _ (by unfold cmdE; (repeat' split) <;> omega)
 ·have h1 : ¬ r.kind = 1 := by omega
  have h2 : ¬ r.kind = 2 := by omega
  have h3 : ¬ r.kind = 3 := by omega
  refine Br.no (by simp [h1]) (Go0 ?_)
  refine Br.no (by simp [h2]) (Go0 ?_)
  refine Br.no (by simp [h3]) (Go0 ?_)
  (first|refine Qu9 (fun h4=>?_) (fun h4=>?_)|refine Br.mk (fun h4=>?_) (fun h4=>?_)<;>simp [-List.length_eq_zero_iff,-List.getD_eq_getElem?_getD] at h4)<;>(try simp only [Qxy] at h4)<;>(conv=>whnf)
  ·refine Go0 ?_
   (first|refine Qu9 (fun h7=>?_) (fun h7=>?_)|refine Br.mk (fun h7=>?_) (fun h7=>?_)<;>simp [-List.length_eq_zero_iff,-List.getD_eq_getElem?_getD] at h7)<;>(try simp only [Qxy] at h7)<;>(conv=>whnf)
   ·refine Go0 ?_
    exact fin _ (by unfold cmdE; (repeat' split) <;> omega)
   ·refine Go0 ?_
    (first|refine Qu9 (fun h5=>?_) (fun h5=>?_)|refine Br.mk (fun h5=>?_) (fun h5=>?_)<;>simp [-List.length_eq_zero_iff,-List.getD_eq_getElem?_getD] at h5)<;>(try simp only [Qxy] at h5)<;>(conv=>whnf)
    ·refine Go1 fun _h=>?_
     (first|refine Qu9 (fun h6=>?_) (fun h6=>?_)|refine Br.mk (fun h6=>?_) (fun h6=>?_)<;>simp [-List.length_eq_zero_iff,-List.getD_eq_getElem?_getD] at h6)<;>(try simp only [Qxy] at h6)<;>(conv=>whnf)
     ·refine Go0 ?_
      exact fin _ (by unfold cmdE; (repeat' split) <;> omega)
     ·refine Go0 ?_
      exact fin _ (by unfold cmdE; (repeat' split) <;> omega)
    ·refine Go1 fun _h=>?_
     (first|refine Qu9 (fun h6=>?_) (fun h6=>?_)|refine Br.mk (fun h6=>?_) (fun h6=>?_)<;>simp [-List.length_eq_zero_iff,-List.getD_eq_getElem?_getD] at h6)<;>(try simp only [Qxy] at h6)<;>(conv=>whnf)
     ·refine Go0 ?_
      exact fin _ (by unfold cmdE; (repeat' split) <;> omega)
     ·refine Go0 ?_
      exact fin _ (by unfold cmdE; (repeat' split) <;> omega)
  ·refine Go0 ?_
   exact fin _ (by unfold cmdE; (repeat' split) <;> omega)
theorem QfQ : HB 271 := hB Tryz.func271
theorem wrkOk_iff {c : Conf} {w : Wrk} : Qd3 c w = true ↔ (w.state = 0 ∨ cmdE c w.req = 0 ∧ (w.req.kind = 1 → 1 ≤ w.state ∧ w.state ≤ 4) ∧ (w.req.kind = 4 → w.state = 10 ∨ w.state = 11) ∧ (w.req.kind ≠ 1 → w.req.kind ≠ 4 → 5 ≤ w.state ∧ w.state ≤ 9)) := by
 unfold Qd3; rw [Qxw]
theorem QeM {c : Conf} {r : Req} (h : cmdE c r = 0) : 1 ≤ r.kind ∧ r.kind ≤ 4 := by
 unfold cmdE at h
 split at h
 ·omega
 ·omega
theorem QnT (s : St) (w : Wrk) : PS 222 [.a s.cells, .a w.cells] (.c (.bool (Qd3 s.cfg w))) := by
 refine PSpec.rm ?_
 refine ov0 hΓ Tryz.func222 63 0 [.tmp 4] Tryz.ntmps222 Tryz.results222 ?_
 (first|refine Qu9 (fun h=>?_) (fun h=>?_)|refine Br.mk (fun h=>?_) (fun h=>?_)<;>simp [-List.length_eq_zero_iff,-List.getD_eq_getElem?_getD] at h)<;>(try simp only [Qxy] at h)<;>(conv=>whnf)
 ·refine Go0 ?_
  rw [wrkOk_iff.2 (Or.inl h)]
  exact QuV
 ·refine Go0 ?_
  (first|refine Qu9 (fun h1=>?_) (fun h1=>?_)|refine Br.mk (fun h1=>?_) (fun h1=>?_)<;>simp [-List.length_eq_zero_iff,-List.getD_eq_getElem?_getD] at h1)<;>(try simp only [Qxy] at h1)<;>(conv=>whnf)
  ·refine Go0 ?_
   refine QuU QfQ (QfN s.cfg w.req ) (Go0 ?_)
   refine Qvj rfl (WS.c (WC.bool ?_))
   rw [QxW, wrkOk_iff]
   have hk := @QeM s.cfg w.req
   generalize cmdE s.cfg w.req = e at hk ⊢
   generalize w.req.kind = kd at hk ⊢
   by_cases he : e = 0
   ·have hk := hk he
    by_cases k1 : kd = 1 <;> by_cases k2 : kd = 2 <;> by_cases k3 : kd = 3 <;> by_cases k4 : kd = 4 <;> simp [he, k1, k2, k3, k4] <;> omega
   ·simp [he]; omega
  ·refine Go0 ?_
   (first|refine Qu9 (fun h2=>?_) (fun h2=>?_)|refine Br.mk (fun h2=>?_) (fun h2=>?_)<;>simp [-List.length_eq_zero_iff,-List.getD_eq_getElem?_getD] at h2)<;>(try simp only [Qxy] at h2)<;>(conv=>whnf)
   ·refine Go0 ?_
    refine QuU QfQ (QfN s.cfg w.req ) (Go0 ?_)
    refine Qvj rfl (WS.c (WC.bool ?_))
    rw [QxW, wrkOk_iff]
    have hk := @QeM s.cfg w.req
    generalize cmdE s.cfg w.req = e at hk ⊢
    generalize w.req.kind = kd at hk ⊢
    by_cases he : e = 0
    ·have hk := hk he
     by_cases k1 : kd = 1 <;> by_cases k2 : kd = 2 <;> by_cases k3 : kd = 3 <;> by_cases k4 : kd = 4 <;> simp [he, k1, k2, k3, k4] <;> omega
    ·simp [he]; omega
   ·refine Go0 ?_
    (first|refine Qu9 (fun h3=>?_) (fun h3=>?_)|refine Br.mk (fun h3=>?_) (fun h3=>?_)<;>simp [-List.length_eq_zero_iff,-List.getD_eq_getElem?_getD] at h3)<;>(try simp only [Qxy] at h3)<;>(conv=>whnf)
    ·refine Go0 ?_
     refine QuU QfQ (QfN s.cfg w.req ) (Go0 ?_)
     refine Qvj rfl (WS.c (WC.bool ?_))
     rw [QxW, wrkOk_iff]
     have hk := @QeM s.cfg w.req
     generalize cmdE s.cfg w.req = e at hk ⊢
     generalize w.req.kind = kd at hk ⊢
     by_cases he : e = 0
     ·have hk := hk he
      by_cases k1 : kd = 1 <;> by_cases k2 : kd = 2 <;> by_cases k3 : kd = 3 <;> by_cases k4 : kd = 4 <;> simp [he, k1, k2, k3, k4] <;> omega
     ·simp [he]; omega
    ·refine Go0 ?_
     refine QuU QfQ (QfN s.cfg w.req ) (Go0 ?_)
     refine Qvj rfl (WS.c (WC.bool ?_))
     rw [QxW, wrkOk_iff]
     have hk := @QeM s.cfg w.req
     generalize cmdE s.cfg w.req = e at hk ⊢
     generalize w.req.kind = kd at hk ⊢
     by_cases he : e = 0
     ·have hk := hk he
      by_cases k1 : kd = 1 <;> by_cases k2 : kd = 2 <;> by_cases k3 : kd = 3 <;> by_cases k4 : kd = 4 <;> simp [he, k1, k2, k3, k4] <;> omega
     ·simp [he]; omega
theorem Qn2 : HB 222 := hB Tryz.func222
def keyI : Key → Int
 | .c (.i _ n) => n
 | _ => 0
@[simp] theorem keyI_i {q : IntKind} : keyI (.c (.i q n)) = n := rfl
def keyN (n : Int) : Key := .c (.i .i64 n)
def setO (l : List Int) : O := .mp (.c (some .i64)) [.b] false (l.map keyN) fun k _ => .bool (decide (keyI k ∈ l))
def insS (l : List Int) (n : Int) : List Int := if n ∈ l then l else l ++ [n]
theorem Quk : memK (l.map keyN) (.c (.i .i64 n)) = decide (n ∈ l) := by
 unfold memK keyN
 congr 1
 simp only [Qyj, Key.c.injEq, KC.i.injEq, true_and, eq_iff_iff]
 exact ⟨fun ⟨a, h1, h2⟩ => h2 ▸ h1, fun h => ⟨n, h, rfl⟩⟩
theorem Qun : updK (l.map keyN) (.c (.i .i64 n)) = (insS l n).map keyN := by
 unfold updK insS
 rw [Quk]
 by_cases h : n ∈ l
 ·rw [Qxt h, Qxz h]
 ·rw [Qxu h, QxE h]
  simp [keyN]
theorem mem_insS {x : Int} : x ∈ insS l n ↔ x = n ∨ x ∈ l := by
 unfold insS
 split
 ·rename_i h
  exact ⟨Or.inr, fun e => e.elim (fun e => e ▸ h) id⟩
 ·simp [or_comm]
theorem Quq {k : Key} {j : Nat} (hk : k.sh = .c (some .i64)) (hj : j < 1) : updV (fun k (_ : Nat) => C.bool (decide (keyI k ∈ l))) (.c (.i .i64 n)) (lget [.bool true]) k j = C.bool (decide (keyI k ∈ insS l n)) := by
 have : j = 0 := by omega
 subst this
 match k, hk with
 | .c (.i q x), hk =>
  cases hk
  simp only [updV, Key.c.injEq, KC.i.injEq, true_and, keyI_i]
  by_cases c : x = n
  ·rw [Qxt c]
   show C.bool true = _
   congr 1
   exact (Qxz (mem_insS.2 (Or.inl c))).symm
  ·rw [Qxu c]
   congr 1
   refine decide_eq_decide.2 ⟨fun h => mem_insS.2 (Or.inr h), fun h => (mem_insS.1 h).elim (fun e => absurd e c) id⟩
theorem Qta (h : n ∉ l) : insS l n = l ++ [n] := Qxu h
theorem Qtu {ρ : Nat → Nat} {m : Nat} : WO ρ m (.mp (.c (some .i64)) [.b] false (updK (l.map keyN) (.c (.i .i64 n))) (updV (fun k (_ : Nat) => C.bool (decide (keyI k ∈ l))) (.c (.i .i64 n)) (lget [.bool true]))) (setO (insS l n)) :=
 WO.mp rfl rfl rfl Qun fun k j hk hj => leF.of_eq (Quq hk hj)
theorem epochsOk_iff {p : List Int} : QL g p r = true ↔ (1 ≤ p.length ∧ p.length ≤ 4 ∧ 0 ≤ g ∧ g ≤ 1099511627776) ∧ (∀ i, i < p.length → p.getD i default = -1 ∨ 0 ≤ p.getD i default ∧ (p.getD i default = g ∨ p.getD i default = g - 1)) ∧
  (∀ i, i < r.length → 0 ≤ (r.getD i default).zone ∧ 0 ≤ (r.getD i default).epoch ∧ (r.getD i default).epoch ≤ g ∧ ∀ j, j < i → (r.getD j default).zone ≠ (r.getD i default).zone) := by
 unfold QL Qm4 Qnn
 rw [QxA, QxA, Qxw, Qxw, Qxw]
theorem pinB {x : Int} (wg : IntKind.i64.wrap (g - 1) = g - 1) : (bif x != -1 then (bif decide (x < 0) then true else bif x != g then x != IntKind.i64.wrap (g - 1) else false) else false) = !decide (x = -1 ∨ 0 ≤ x ∧ (x = g ∨ x = g - 1)) := by
 rw [wg, QxW]
 have b1 : ∀ y : Int, (x != y) = true ↔ x ≠ y := fun y => Qy2
 simp only [Qy5, Bool.cond_true_left, QxA, QyA, b1, Qxw, Qyp, QxM]
 omega
theorem retB {z e : Int} {b : Bool} {P : Prop} (hb : b = true ↔ ¬ P) : (bif (bif (bif decide (z < 0) then true else b) then true else decide (e < 0)) then true else decide (e > g)) = false ↔ 0 ≤ z ∧ 0 ≤ e ∧ e ≤ g ∧ P := by
 by_cases h1 : z < 0
 ·simp [h1]; omega
 ·by_cases h2 : e < 0
  ·simp [h1, h2]; omega
  ·by_cases h3 : e > g
   ·simp [h1, h2, h3]; omega
   ·cases b with
    | true =>
     have := hb.1 rfl
     simp [h1, h2, h3, this]
    | false =>
     have : P := QyK fun q => by cases hb.2 q
     simp [h1, h2, h3, this]; omega
def Qcx (r : List Ret) (k : Nat) : List Int := (r.take k).map Ret.zone
theorem Qe3 (hk : k ≤ r.length) : n ∈ Qcx r k ↔ ∃ j, j < k ∧ (r.getD j default).zone = n := by
 unfold Qcx
 rw [Qyj]
 constructor
 ·rintro ⟨x, hx, rfl⟩
  obtain ⟨j, hj, rfl⟩ := QxP hx
  rw [QxO] at hj
  refine ⟨j, om, ?_⟩
  simp [List.getD, show j < r.length by omega]
 ·rintro ⟨j, hj, rfl⟩
  refine ⟨r.getD j default, ?_, rfl⟩
  rw [List.mem_iff_getElem]
  exact ⟨j, by rw [QxO]; omega, by simp [List.getD, show j < r.length by omega]⟩
theorem QmB (hk : k < r.length) : Qcx r (k + 1) = Qcx r k ++ [(r.getD k default).zone] := by
 unfold Qcx
 rw [Qb9 r hk, List.map_append]; rfl
set_option maxHeartbeats 4000000 in
theorem Qjg (g : Int) (p : List Int) (r : List Ret) (hp : p.length ≤ 1000000) (hr : r.length ≤ 1000000) : PS 156 [.a [.int .i64 g, Qh p, retC r]] (.c (.bool (QL g p r))) := by
 refine PSpec.rm ?_
 refine ov hΓ Tryz.func156 88 0 [.tmp 2] Tryz.ntmps156 Tryz.results156 ?_
 refine Go1 fun _h=>?_
 (first|refine Qu9 (fun h=>?_) (fun h=>?_)|refine Br.mk (fun h=>?_) (fun h=>?_)<;>simp [-List.length_eq_zero_iff,-List.getD_eq_getElem?_getD] at h)<;>(try simp only [Qxy] at h)<;>(conv=>whnf)
 ·refine Go0 ?_
  rw [Qq (fun e => by have := (epochsOk_iff.1 e).1; omega : ¬ QL g p r = true)]
  exact QuV
 ·refine Go1 fun _h=>?_
  have h0 : 1 ≤ p.length ∧ p.length ≤ 4 ∧ 0 ≤ g ∧ g ≤ 1099511627776 := by omega
  have wg : IntKind.i64.wrap (g - 1) = g - 1 := Qa _ om om
  refine QuY hΓ (ι := Nat) [1, 29, 30] (fun i => [(31, .c (.int .i64 i))]) (fun _ => [.vr [.int .i64 g, Qh p, retC r]]) (fun k => k ≤ p.length ∧ ∀ i, i < k → p.getD i default = -1 ∨ 0 ≤ p.getD i default ∧ (p.getD i default = g ∨ p.getD i default = g - 1)) (fun i => p.length - i) 0 ⟨Qxx _, fun j hj => absurd hj (QxN _)⟩ ?_ ?_
  ·exact QuW
  ·rintro k ⟨hk, hk2⟩
   refine Go0 ?_
   refine Br.of (fun h2=>Go0 ?_) (fun h2=>Go1 fun _h=>?_)
   ·have w0 := Qa (↑k + 1) om om
    by_cases e : p.getD k default = -1 ∨ 0 ≤ p.getD k default ∧ (p.getD k default = g ∨ p.getD k default = g - 1)
    ·refine Br.no ((pinB (x := p.getD k default) wg).trans (by rw [Qxz e]; rfl)) (Go0 ?_)
     refine ⟨k + 1, ⟨om, Q0 hk2 e⟩, om, ?_⟩
     exact QuW
    ·refine Br.yes ((pinB (x := p.getD k default) wg).trans (by rw [QxE e]; rfl)) (Go0 ?_)
     rw [Qq (fun q => e ((epochsOk_iff.1 q).2.1 k om) : ¬ QL g p r = true)]
     exact QuV
   ·have hpins : ∀ i, i < p.length → p.getD i default = -1 ∨ 0 ≤ p.getD i default ∧ (p.getD i default = g ∨ p.getD i default = g - 1) := fun i hi => hk2 i om
    clear hk hk2 h2
    refine QuY hΓ (ι := Nat) [1, 5, 57, 58] (fun i => [(59, .c (.int .i64 i))]) (fun k => [.vr [.int .i64 g, Qh p, retC r], setO (Qcx r k)]) (fun k => k ≤ r.length ∧ ∀ i, i < k → 0 ≤ (r.getD i default).zone ∧ 0 ≤ (r.getD i default).epoch ∧ (r.getD i default).epoch ≤ g ∧ ∀ j, j < i → (r.getD j default).zone ≠ (r.getD i default).zone) (fun i => r.length - i) 0 ⟨Qxx _, fun j hj => absurd hj (QxN _)⟩ ?_ ?_
    ·refine Qvm ?_
     intro k j _ hj
     have : j = 0 := by simpa using hj
     subst this
     exact leF.of_eq rfl
    ·rintro q ⟨hq, hq2⟩
     refine Go0 ?_
     refine Br.of (fun h3=>Go0 ?_) (fun h3=>Go0 ?_)
     ·have w0 := Qa (↑q + 1) om om
      have hmem : decide ((r.getD q default).zone ∈ Qcx r q) = true ↔ ¬ ∀ j, j < q → (r.getD j default).zone ≠ (r.getD q default).zone := by
       rw [Qxw, Qe3 om]
       constructor
       ·rintro ⟨j, h1, h2⟩ h3; exact h3 j h1 h2
       ·intro h
        refine QyK fun hn => h fun j hj e => hn ⟨j, hj, e⟩
      by_cases e : 0 ≤ (r.getD q default).zone ∧ 0 ≤ (r.getD q default).epoch ∧ (r.getD q default).epoch ≤ g ∧ ∀ j, j < q → (r.getD j default).zone ≠ (r.getD q default).zone
      ·refine Br.no ((retB hmem).2 e) (Go0 ?_)
       refine ⟨q + 1, ⟨om, Q0 hq2 e⟩, om, ?_⟩
       refine Qvm ?_
       rw [QmB om, ← Qta (fun h => (Qe3 om).1 h |>.elim fun j hj => e.2.2.2 j hj.1 hj.2)]
       exact Qtu
      ·refine Br.yes ?_ ?_
       ·cases hx : (bif (bif (bif decide ((r.getD q default).zone < 0) then true else decide ((r.getD q default).zone ∈ Qcx r q)) then true else decide ((r.getD q default).epoch < 0)) then true else decide ((r.getD q default).epoch > g)) with
        | true => exact hx
        | false => exact absurd ((retB hmem).1 hx) e
       refine Go0 ?_
       rw [Qq (fun z => e ((epochsOk_iff.1 z).2.2 q om) : ¬ QL g p r = true)]
       exact QuV
     ·rw [epochsOk_iff.2 ⟨h0, hpins, fun i hi => hq2 i om⟩]
      exact QuV
theorem QiB : HB 156 := hB Tryz.func156
theorem Qoe (l : List Int) (v : Int) (hl : l.length ≤ 1000000) : PS 297 [.c (Qh l), .c (.int .i64 v)] (.c (.int .i64 (if l.any (fun x => decide (x = v)) = true then (l.findIdx (fun x => decide (x = v)) : Nat) else -1))) := by
 refine PSpec.rm ?_
 refine ov hΓ Tryz.func297 19 0 [.tmp 4] Tryz.ntmps297 Tryz.results297 ?_
 refine Go1 fun _h=>?_
 refine QuY hΓ (ι := Nat) [0, 1, 7] (fun i => [(8, .c (.int .i64 i))]) (fun _ => []) (fun i => i ≤ l.length ∧ ∀ j, j < i → (fun x => decide (x = v)) (l.getD j default) = false) (fun i => l.length - i) 0 ⟨Qxx _, fun j hj => absurd hj om⟩ ?_ ?_
 ·exact QuW
 ·rintro k ⟨hk, hs⟩
  refine Go0 ?_
  refine Br.of (fun h1=>Go0 ?_) (fun h1=>Go0 ?_)
  ·refine Br.of (fun h2=>Go0 ?_) (fun h2=>Go0 ?_)
   ·obtain ⟨q1, q2⟩ := QfG (p := fun x => decide (x = v)) (k := k) om (Qxz (show l.getD k default = v from h2.symm)) hs
    rw [Qxt q1, q2]
    exact QuV
   ·have w0 := Qa (↑k + 1) om om
    refine ⟨k + 1, ⟨om, Q0 hs (QxE (fun e => h2 e.symm))⟩, om, ?_⟩
    exact QuW
  ·rw [Qxu (Qep (fun j hj => hs j om))]
   exact QuV
theorem Qn9 : HB 297 := hB Tryz.func297
theorem QtJ {v : Int} : l.any (fun x => decide (x = v)) = decide (v ∈ l) := by
 rw [QxW, QyN, Qxw]
 constructor
 ·rintro ⟨x, h1, h2⟩; exact Qx4 h2 ▸ h1
 ·intro h; exact ⟨v, h, Qxz rfl⟩
theorem Qj6 (l : List Int) (v : Int) (hl : l.length ≤ 1000000) : PS 277 [.c (Qh l), .c (.int .i64 v)] (.c (.bool (decide (v ∈ l)))) := by
 refine PSpec.rm ?_
 refine ov0 hΓ Tryz.func277 9 0 [.tmp 4] Tryz.ntmps277 Tryz.results277 ?_
 refine QuU Qn9 (Qoe l v hl ) (Go0 ?_)
 rw [← QtJ]
 refine Qv8 ?_
 cases l.any (fun x => decide (x = v)) with
 | true => simp
 | false => rfl
theorem Qkc : HB 277 := hB Tryz.func277
theorem Qkz (c : Conf) (free : List Int) (h l z : Int) (hf : free.length ≤ 1000000) : PS 230 [.a [Qh free, .int .i64 h, .int .i64 l], .a c.cells, .c (.int .i64 z)] (.c (.bool (Qex c free z))) := by
 refine PSpec.rm ?_
 refine ov0 hΓ Tryz.func230 21 0 [.tmp 6] Tryz.ntmps230 Tryz.results230 ?_
 refine CallG.auto QgD (fun _ => QgI c z ) (Go0 ?_)
 refine CallG.auto Qkc (fun _ => Qj6 free z hf ) (Go0 ?_)
 refine Qvj rfl (WS.c (WC.bool ?_))
 unfold Qex
 by_cases h1 : z = -1 <;> cases Qam c z <;> by_cases h2 : z ∈ free <;> simp [h1, h2]
theorem Qkg : HB 230 := hB Tryz.func230
theorem QbG (c : Conf) (free : List Int) (h l : Int) (hf : free.length ≤ 1000000) : PS 165 [.a [Qh free, .int .i64 h, .int .i64 l], .a c.cells] (.c (.bool (poolOk c free h l))) := by
 refine PSpec.rm ?_
 refine ov0 hΓ Tryz.func165 61 0 [.tmp 4] Tryz.ntmps165 Tryz.results165 ?_
 refine QuU Qe9 (Qe5 c ) (Go0 ?_)
 by_cases h0 : QB c = 0
 ·refine Br.no (by simp [h0]) (Go1 fun _h=>?_)
  refine QuY hΓ (ι := Nat) [2, 3, 11, 12] (fun i => [(13, .c (.int .i64 i))]) (fun _ => [.vr [Qh free, .int .i64 h, .int .i64 l], .vr c.cells]) (fun k => k ≤ free.length ∧ ∀ i, i < k → Qam c (free.getD i default) = true ∧ (0 < i → free.getD (i - 1) default < free.getD i default)) (fun i => free.length - i) 0 ⟨Qxx _, fun j hj => absurd hj (QxN _)⟩ ?_ ?_
  ·exact QuW
  ·rintro k ⟨hk, hk2⟩
   refine Go0 ?_
   refine Br.of (fun h2=>Go0 ?_) (fun h2=>Go0 ?_)
   ·refine QuU QgD (QgI c (free.getD k default) ) (Go0 ?_)
    have hw : IntKind.i64.wrap (↑k - 1) = ↑k - 1 := Qa _ om om
    refine Need.mk (fun h => by rw [hw]; simp only [QxA, Qxw] at h; omega) ?_
    conv=>whnf
    refine Need.mk (fun h => by rw [hw]; simp only [QxA, Qxw] at h; omega) (Go0 ?_)
    have hp : (IntKind.i64.wrap (↑k - 1)).toNat = k - 1 := by rw [hw]; omega
    have w0 := Qa (↑k + 1) om om
    by_cases e : Qam c (free.getD k default) = true ∧ (0 < k → free.getD (k - 1) default < free.getD k default)
    ·refine Br.no ?_ ?_
     ·rw [hp, e.1]
      refine (Qhh (k := k)).trans (QxE fun q => ?_)
      have := e.2 q.1
      have q2 : free.getD k default ≤ free.getD (k - 1) default := q.2
      omega
     refine Go0 ?_
     refine ⟨k + 1, ⟨om, Q0 hk2 e⟩, om, ?_⟩
     exact QuW
    ·refine Br.yes ?_ ?_
     ·rw [hp]
      show (bif !Qam c (free.getD k default) then true else bif decide ((k : Int) > 0) then decide (free.getD (k - 1) default ≥ free.getD k default) else false) = true
      cases h1 : Qam c (free.getD k default) with
      | false => rfl
      | true =>
       have h0 : 0 < k := by
        rcases Qx3 k with c | c
        ·exact absurd ⟨h1, fun q => by omega⟩ e
        ·exact c
       have h3 : free.getD k default ≤ free.getD (k - 1) default := by
        have : ¬ free.getD (k - 1) default < free.getD k default := fun q => e ⟨h1, fun _ => q⟩
        omega
       exact (Qhh (k := k)).trans (Qxz ⟨h0, h3⟩)
     refine Go0 ?_
     rw [show poolOk c free h l = false by
      unfold poolOk
      rw [show Qg4 c free = false from QxE (fun q => e (q k om))]
      simp]
     exact QuV
   ·have hfr : Qg4 c free = true := Qxz fun i hi => hk2 i om
    refine QuU Qkg (Qkz c free h l h hf ) (Go0 ?_)
    refine CallG.auto Qkg (fun _ => Qkz c free h l l hf ) (Go0 ?_)
    refine Qvj rfl (WS.c (WC.bool ?_))
    unfold poolOk
    rw [Qxz h0, hfr]
    cases Qex c free h <;> cases Qex c free l <;> by_cases z1 : h = -1 <;> by_cases z2 : h = l <;> simp [z1, z2] <;> rfl
 ·refine Br.yes (by simp [h0]) (Go0 ?_)
  rw [show poolOk c free h l = false by unfold poolOk; rw [QxE h0]; rfl]
  exact QuV
theorem QbE : HB 165 := hB Tryz.func165
end Go.Proofs
end

section
open Go Go.Am
namespace Go.Am
variable {cs : List C}
theorem Qoy {j : Nat} (hj : j < cs.length) : getL cs j = some (lget cs j) := by
 unfold lget
 rw [Qc, Qyl hj]
theorem QwY {H : List O} {id : Nat} {n : Nat} (hid : getL H id = some (.vr cs)) (hn : n = cs.length) (hi : cs.all C.imm = true) : Bw H (.ptr id 0) (.ip n (lget cs)) := Bw.ptr hid fun j hj => by
 have hj' : j < cs.length := by omega
 refine ⟨lget cs j, by rw [QxX]; exact Qoy hj', Bw.same ?_⟩
 exact Qde hi (Qoy hj')
end Go.Am
namespace Go.Proofs
set_option maxRecDepth 20000
def capP (c : Conf) : Nat → C := fun _ => .ip 6 (lget c.cells)
theorem Qrd (c : Conf) (e : Ent) : PS 269 [.a e.cells, .c (.ip 6 (lget c.cells))] (.c (.bool (decide (c.blocks ≤ e.block)))) := by
 refine PSpec.rm ?_
 refine ov0 hΓ Tryz.func269 9 0 [.tmp 3] Tryz.ntmps269 Tryz.results269 ?_
 exact QuV
theorem QrA : HB 269 := hB Tryz.func269
theorem QrR (c : Conf) (l : List Ent) (hl : l.length ≤ 1000000) : PS 293 [.c (Qap l), .c (.fn (.func 269) 1 (capP c))] (.c (.int .i64 (if l.any (fun (e : Ent) => decide (c.blocks ≤ e.block)) = true then (l.findIdx (fun (e : Ent) => decide (c.blocks ≤ e.block)) : Nat) else -1))) := by
 refine PSpec.rm ?_
 refine ov hΓ Tryz.func293 19 0 [.tmp 4] Tryz.ntmps293 Tryz.results293 ?_
 refine Go1 fun _h=>?_
 refine QuY hΓ (ι := Nat) [0, 1, 7] (fun i => [(8, .c (.int .i64 i))]) (fun _ => []) (fun i => i ≤ l.length ∧ ∀ j, j < i → (fun (e : Ent) => decide (c.blocks ≤ e.block)) (l.getD j default) = false) (fun i => l.length - i) 0 ⟨Qxx _, fun j hj => absurd hj om⟩ ?_ ?_
 ·refine Qvm ?_
  exact Qwr (fun j _ => rfl)
 ·rintro k ⟨hk, hs⟩
  refine Go0 ?_
  refine Br.of (fun h1=>Go0 ?_) (fun h1=>Go0 ?_)
  ·refine QuU QrA (Qrd c (l.getD k default) ) (Go0 ?_)
   cases hb : (fun (e : Ent) => decide (c.blocks ≤ e.block)) (l.getD k default) with
   | true =>
    refine Br.yes hb (Go0 ?_)
    obtain ⟨q1, q2⟩ := QfG (p := fun (e : Ent) => decide (c.blocks ≤ e.block)) om hb hs
    rw [Qxt q1, q2]
    exact QuV
   | false =>
    refine Br.no hb (Go0 ?_)
    have w0 := Qa (↑k + 1) om om
    refine ⟨k + 1, ⟨om, Q0 hs hb⟩, om, ?_⟩
    refine Qvm ?_
    exact Qwr (fun j _ => rfl)
  ·rw [Qxu (Qep (fun j hj => hs j om))]
   exact QuV
theorem Qq9 : HB 293 := hB Tryz.func293
theorem QsJ (c : Conf) (l : List Ent) (hl : l.length ≤ 1000000) : PS 267 [.c (Qap l), .c (.fn (.func 269) 1 (capP c))] (.c (.bool (l.any (fun (e : Ent) => decide (c.blocks ≤ e.block))))) := by
 refine PSpec.rm ?_
 refine ov0 hΓ Tryz.func267 9 0 [.tmp 4] Tryz.ntmps267 Tryz.results267 ?_
 refine CallN.reads Qq9 (QrR c l hl) (BwA.cons (BwS.c (Bw.same rfl)) (BwA.cons (BwS.c (Bw.fn fun j _ => Bw.same (rfl))) BwA.nil)) rfl (Go0 ?_)
 refine Qv8 ?_
 cases l.any (fun (e : Ent) => decide (c.blocks ≤ e.block)) with
 | true => simp
 | false => rfl
theorem Qtm : HB 267 := hB Tryz.func267
structure AllS (m : List (List Ent)) (l : List Ent) : Prop where
 spec : PS 268 [.a [QC m]] (.c (Qap l))
 mem : ∀ e, e ∈ l ↔ ∃ i, i < m.length ∧ e ∈ m.getD i default
 len : l.length ≤ 1000000
theorem QsB : HB 268 := hB Tryz.func268
theorem AllS.big {m : List (List Ent)} {l : List Ent} (h : AllS m l) (n : Int) : (l.any fun (e : Ent) => decide (n ≤ e.block)) = !QaJ m n := by
 rw [QxW, Qyp]
 unfold QaJ
 rw [QyN, QxM]
 constructor
 ·rintro ⟨e, h1, h2⟩ h3
  obtain ⟨i, hi, he⟩ := (h.mem e).1 h1
  obtain ⟨k, hk, rfl⟩ := QxP he
  have := h3 i hi k hk
  rw [QcQ _ _ hk] at this
  have := Qx4 h2
  omega
 ·intro h3
  refine QyK fun hn => h3 fun i hi k hk => ?_
  rw [QcQ _ _ hk]
  refine Int.not_le.1 fun hle => hn ⟨_, (h.mem _).2 ⟨i, hi, Qx0 hk⟩, Qxz hle⟩
theorem neI {a b : Int} : (a != b) = !decide (a = b) := rfl
set_option maxHeartbeats 4000000 in
theorem QpY (s : St) (hs : s.small) (l : List Ent) (hall : Qx s.map = true → AllS s.map l) : PS 220 [.a s.cells] (.c (.bool (QaT s))) := by
 refine PSpec.rm ?_
 refine ov0 hΓ Tryz.func220 154 0 [.tmp 2] Tryz.ntmps220 Tryz.results220 ?_
 refine QuU Qe9 (Qe5 s.cfg ) (Go0 ?_)
 refine CallG.auto Qef (fun _ => Qd8 s.dev ) (Go0 ?_)
 have no : QaT s = false → RM 0 (.c (.bool false)) [.vr s.cells, .vr s.cfg.cells] (.c (.bool (QaT s))) [] := fun h => by rw [h]; refine Qvj rfl ?_;(first|exact wb0|refine wb1 ?_|refine wb2 ?_ ?_|refine wb3 ?_ ?_ ?_|refine wb4 ?_ ?_ ?_ ?_)
 by_cases h1 : QB s.cfg = 0 ∧ check s.dev = 0
 ·refine Br.no (by rw [neI, neI, Qxz h1.1, Qxz h1.2]; rfl) (Go1 fun _h=>?_)
  by_cases h2 : (s.dev.zones.length : Int) = s.cfg.zones ∧ s.dev.size = s.cfg.size
  ·refine Br.no (by rw [neI, neI, Qxz h2.1, Qxz h2.2]; rfl) (Go0 ?_)
   refine QuU Qlf (Qlo s.map hs.map hs.shard ) (Go0 ?_)
   by_cases h3 : Qx s.map = true ∧ (s.map.length : Int) = s.cfg.shards
   ·refine Br.no (by rw [neI, h3.1, Qxz h3.2]; rfl) (Go0 ?_)
    have hA := hall h3.1
    refine QuU QsB hA.spec (Go0 ?_)
    refine CallN.reads Qtm (QsJ s.cfg l hA.len) (BwA.cons (BwS.c (Bw.same rfl)) (BwA.cons (BwS.c (Qw8 (g := lget [.ptr 1 0]) (g' := capP s.cfg) (QwY (cs := s.cfg.cells) rfl rfl rfl))) BwA.nil)) rfl (Go0 ?_)
    have hb := hA.big s.cfg.blocks
    by_cases h4 : QaJ s.map s.cfg.blocks = true
    ·refine Br.no (hb.trans (by rw [h4]; rfl)) (Go0 ?_)
     refine QuU Qfu (QfE s.live s.pend hs.live hs.pend ) (Go0 ?_)
     by_cases h5 : Qr s.live s.pend = true ∧ (s.live.length : Int) = s.cfg.zones
     ·refine Br.no (by rw [neI, h5.1, Qxz h5.2]; rfl) (Go0 ?_)
      refine QuU QjC (Qjn s.owner hs.owner ) (Go0 ?_)
      by_cases h6 : QbI s.owner = true ∧ (s.owner.length : Int) = s.cfg.shards
      ·refine Br.no (by rw [neI, h6.1, Qxz h6.2]; rfl) (Go0 ?_)
       refine QuU QiB (Qjg s.glob s.pins s.rets hs.pins hs.rets ) (Go0 ?_)
       by_cases h7 : QL s.glob s.pins s.rets = true ∧ (s.pins.length : Int) = s.cfg.queues
       ·refine Br.no (by rw [neI, h7.1, Qxz h7.2]; rfl) (Go0 ?_)
        refine QuU QbE (QbG s.cfg s.free s.host s.lane hs.free ) (Go0 ?_)
        by_cases h8 : poolOk s.cfg s.free s.host s.lane = true ∧ (s.rings.length : Int) = s.cfg.queues ∧ (s.works.length : Int) = s.cfg.queues
        ·refine Br.no (by rw [neI, neI, h8.1, Qxz h8.2.1, Qxz h8.2.2]; rfl) (Go0 ?_)
         refine Qvj rfl (WS.c (WC.bool ?_))
         unfold QaT
         rw [Qxz h1.1, Qxz h1.2, Qxz h2, h3.1, Qxz h3.2, h4, h5.1, Qxz h5.2, h6.1, Qxz h6.2, h7.1, Qxz h7.2, h8.1, Qxz h8.2]
         simp only [Bool.true_and]
         rw [QxW]
         simp only [Qy5, QxA, Qxw]
         omega
        ·refine Br.yes ?_ ?_
         ·rw [neI, neI]
          cases q1 : poolOk s.cfg s.free s.host s.lane with
          | false => rfl
          | true =>
           by_cases q2 : (s.rings.length : Int) = s.cfg.queues
           ·rw [Qxz q2, QxE (fun q3 => h8 ⟨q1, q2, q3⟩)]; rfl
           ·rw [QxE q2]; rfl
         refine Go0 ?_
         refine no ?_
         unfold QaT
         by_cases q1 : poolOk s.cfg s.free s.host s.lane = true
         ·rw [QxE (fun q2 => h8 ⟨q1, q2⟩)]
          simp only [Qyw, Qyq]
         ·rw [Qq q1]
          simp only [Qyw, Qyq]
       ·refine Br.yes ?_ ?_
        ·rw [neI]
         cases q1 : (QL s.glob s.pins s.rets) with
         | false => rfl
         | true => rw [QxE (fun q2 => h7 ⟨q1, q2⟩)]; rfl
        refine Go0 ?_
        refine no ?_
        unfold QaT
        by_cases q1 : (QL s.glob s.pins s.rets) = true
        ·rw [QxE (fun q2 => h7 ⟨q1, q2⟩ : ¬ ((s.pins.length : Int) = s.cfg.queues))]
         simp only [Qyw, Qyq]
        ·rw [Qq q1]
         simp only [Qyw, Qyq]
      ·refine Br.yes ?_ ?_
       ·rw [neI]
        cases q1 : (QbI s.owner) with
        | false => rfl
        | true => rw [QxE (fun q2 => h6 ⟨q1, q2⟩)]; rfl
       refine Go0 ?_
       refine no ?_
       unfold QaT
       by_cases q1 : (QbI s.owner) = true
       ·rw [QxE (fun q2 => h6 ⟨q1, q2⟩ : ¬ ((s.owner.length : Int) = s.cfg.shards))]
        simp only [Qyw, Qyq]
       ·rw [Qq q1]
        simp only [Qyw, Qyq]
     ·refine Br.yes ?_ ?_
      ·rw [neI]
       cases q1 : (Qr s.live s.pend) with
       | false => rfl
       | true => rw [QxE (fun q2 => h5 ⟨q1, q2⟩)]; rfl
      refine Go0 ?_
      refine no ?_
      unfold QaT
      by_cases q1 : (Qr s.live s.pend) = true
      ·rw [QxE (fun q2 => h5 ⟨q1, q2⟩ : ¬ ((s.live.length : Int) = s.cfg.zones))]
       simp only [Qyw, Qyq]
      ·rw [Qq q1]
       simp only [Qyw, Qyq]
    ·refine Br.yes (hb.trans (by rw [Qq h4]; rfl)) (Go0 ?_)
     refine no ?_
     unfold QaT
     rw [Qq h4]
     simp only [Qyw, Qyq]
   ·refine Br.yes ?_ ?_
    ·rw [neI]
     cases q1 : (Qx s.map) with
     | false => rfl
     | true => rw [QxE (fun q2 => h3 ⟨q1, q2⟩)]; rfl
    refine Go0 ?_
    refine no ?_
    unfold QaT
    by_cases q1 : (Qx s.map) = true
    ·rw [QxE (fun q2 => h3 ⟨q1, q2⟩ : ¬ ((s.map.length : Int) = s.cfg.shards))]
     simp only [Qyw, Qyq]
    ·rw [Qq q1]
     simp only [Qyw, Qyq]
  ·refine Br.yes ?_ ?_
   ·rw [neI, neI]
    by_cases q1 : (s.dev.zones.length : Int) = s.cfg.zones
    ·rw [Qxz q1, QxE (fun q2 => h2 ⟨q1, q2⟩)]; rfl
    ·rw [QxE q1]; rfl
   refine Go0 ?_
   refine no ?_
   unfold QaT
   rw [QxE h2]
   simp only [Qyw, Qyq]
 ·refine Br.yes ?_ ?_
  ·rw [neI, neI]
   by_cases q1 : QB s.cfg = 0
   ·rw [Qxz q1, QxE (fun q2 => h1 ⟨q1, q2⟩)]; rfl
   ·rw [QxE q1]; rfl
  refine Go0 ?_
  refine no ?_
  unfold QaT
  by_cases q1 : QB s.cfg = 0
  ·rw [QxE (fun q2 => h1 ⟨q1, q2⟩)]
   simp only [Qyw, Qyq]
  ·rw [QxE q1]
   simp only [Qyw, Qyq]
theorem Qpa : HB 220 := hB Tryz.func220
end Go.Proofs
end

section
open Go Go.Am
namespace Go.Proofs
set_option maxRecDepth 20000
variable {n : Int} {s : St}
theorem Ql4 {l : List Req} (h : QcU l l.length) : ∀ d i : Nat, i + d < l.length → (l.getD i default).serial ≤ (l.getD (i + d) default).serial
 | 0, i, _ => QyD _
 | d + 1, i, hi => by
  have ih := Ql4 h d i om
  have := (h (i + (d + 1)) hi).2 om
  rw [show i + (d + 1) - 1 = i + d by omega] at this
  omega
theorem QkO {l : List Req} (h : QcU l l.length) : (∀ k, k < l.length → (l.getD k default).serial < n) ↔ (0 < l.length → (l.getD (l.length - 1) default).serial < n) := by
 constructor
 ·intro q h0; exact q _ om
 ·intro q k hk
  have := q om
  have h2 := Ql4 h (l.length - 1 - k) k om
  rw [show k + (l.length - 1 - k) = l.length - 1 by omega] at h2
  omega
theorem Qp8 (s : St) (e : Evt) : PS 224 [.a e.cells, .c (.ip 48 (lget s.cells))] (.c (.bool (decide (s.serial ≤ e.serial)))) := by
 refine PSpec.rm ?_
 refine ov0 hΓ Tryz.func224 10 0 [.tmp 3] Tryz.ntmps224 Tryz.results224 ?_
 exact QuV
theorem Qqw : HB 224 := hB Tryz.func224
def QmL (s : St) : Nat → C := fun _ => .ip 48 (lget s.cells)
theorem QpR (s0 : St) (l : List Evt) (hl : l.length ≤ 1000000) : PS 272 [.c (evC l), .c (.fn (.func 224) 1 (QmL s0))] (.c (.int .i64 (if l.any (fun (e : Evt) => decide (s0.serial ≤ e.serial)) = true then (l.findIdx (fun (e : Evt) => decide (s0.serial ≤ e.serial)) : Nat) else -1))) := by
 refine PSpec.rm ?_
 refine ov hΓ Tryz.func272 19 0 [.tmp 4] Tryz.ntmps272 Tryz.results272 ?_
 refine Go1 fun _h=>?_
 refine QuY hΓ (ι := Nat) [0, 1, 7] (fun i => [(8, .c (.int .i64 i))]) (fun _ => []) (fun i => i ≤ l.length ∧ ∀ j, j < i → (fun (e : Evt) => decide (s0.serial ≤ e.serial)) (l.getD j default) = false) (fun i => l.length - i) 0 ⟨Qxx _, fun j hj => absurd hj om⟩ ?_ ?_
 ·refine Qvm ?_
  exact Qwr (fun j _ => rfl)
 ·rintro k ⟨hk, hs⟩
  refine Go0 ?_
  refine Br.of (fun h1=>Go0 ?_) (fun h1=>Go0 ?_)
  ·refine QuU Qqw (Qp8 s0 (l.getD k default) ) (Go0 ?_)
   cases hb : (fun (e : Evt) => decide (s0.serial ≤ e.serial)) (l.getD k default) with
   | true =>
    refine Br.yes hb (Go0 ?_)
    obtain ⟨q1, q2⟩ := QfG (p := fun (e : Evt) => decide (s0.serial ≤ e.serial)) om hb hs
    rw [Qxt q1, q2]
    exact QuV
   | false =>
    refine Br.no hb (Go0 ?_)
    have w0 := Qa (↑k + 1) om om
    refine ⟨k + 1, ⟨om, Q0 hs hb⟩, om, ?_⟩
    refine Qvm ?_
    exact Qwr (fun j _ => rfl)
  ·rw [Qxu (Qep (fun j hj => hs j om))]
   exact QuV
theorem QqK : HB 272 := hB Tryz.func272
theorem QrX (s0 : St) (l : List Evt) (hl : l.length ≤ 1000000) : PS 223 [.c (evC l), .c (.fn (.func 224) 1 (QmL s0))] (.c (.bool (l.any (fun (e : Evt) => decide (s0.serial ≤ e.serial))))) := by
 refine PSpec.rm ?_
 refine ov0 hΓ Tryz.func223 9 0 [.tmp 4] Tryz.ntmps223 Tryz.results223 ?_
 refine CallN.reads QqK (QpR s0 l hl) (BwA.cons (BwS.c (Bw.same rfl)) (BwA.cons (BwS.c (Bw.fn fun j _ => Bw.same (rfl))) BwA.nil)) rfl (Go0 ?_)
 refine Qv8 ?_
 cases l.any (fun (e : Evt) => decide (s0.serial ≤ e.serial)) with
 | true => simp
 | false => rfl
theorem Qq5 : HB 223 := hB Tryz.func223
theorem queueB {r1 w1 : Bool} {d d' st q : Int} : (bif (bif (bif !r1 then true else d != d') then true else !w1) then true else (bif st != 0 then decide (q ≥ n) else false)) = false ↔ r1 = true ∧ d = d' ∧ w1 = true ∧ (st = 0 ∨ q < n) := by
 cases r1 <;> cases w1 <;> by_cases h1 : d = d' <;> by_cases h2 : st = 0 <;> simp [h1, h2]
theorem queueOk_iff {i : Nat} : Qdn s i = true ↔ (QbH (s.rings.getD i default) = true ∧ (s.rings.getD i default).depth = s.cfg.depth ∧ Qd3 s.cfg (s.works.getD i default) = true ∧ ((s.works.getD i default).state = 0 ∨ (s.works.getD i default).req.serial < s.serial)) ∧
  ∀ k, k < (s.rings.getD i default).items.length → ((s.rings.getD i default).items.getD k default).serial < s.serial := by
 unfold Qdn
 simp only [QxA, Qxw]
 exact ⟨fun ⟨a, b, c, d, e⟩ => ⟨⟨a, b, c, d⟩, e⟩, fun ⟨⟨a, b, c, d⟩, e⟩ => ⟨a, b, c, d, e⟩⟩
theorem lastB {n : Nat} {a b : Int} : (bif decide ((n : Int) > 0) then decide (a ≥ b) else false) = false ↔ (0 < n → a < b) := by
 by_cases h : 0 < n
 ·rw [Qxz (show (n : Int) > 0 by omega)]
  simp [h]
 ·rw [QxE (show ¬ (n : Int) > 0 by omega)]
  simp [h]
theorem QpO (h : QaT s = true) : s.rings.length = s.works.length ∧ 0 ≤ s.serial ∧ s.serial ≤ 1099511627776 := by
 unfold QaT at h
 simp only [QxA, Qxw] at h
 omega
set_option maxHeartbeats 4000000 in
theorem Qlr (s : St) (hs : s.small) (l : List Ent) (hall : Qx s.map = true → AllS s.map l) : PS 155 [.a s.cells] (.c (.bool (QaI s))) := by
 refine PSpec.rm ?_
 refine ov0 hΓ Tryz.func155 82 0 [.tmp 2] Tryz.ntmps155 Tryz.results155 ?_
 refine QuU Qpa (QpY s hs l hall ) (Go0 ?_)
 cases hp : QaT s with
 | false =>
  refine Br.yes rfl (Go0 ?_)
  rw [show QaI s = false by unfold QaI; rw [hp]; rfl]
  exact QuV
 | true =>
  refine Br.no rfl (Go1 fun _h=>?_)
  have hpl := QpO hp
  refine QuY hΓ (ι := Nat) [1, 12, 13] (fun i => [(14, .c (.int .i64 i))]) (fun _ => [.vr s.cells]) (fun k => k ≤ s.rings.length ∧ ∀ i, i < k → Qdn s i = true) (fun i => s.rings.length - i) 0 ⟨Qxx _, fun j hj => absurd hj (QxN _)⟩ ?_ ?_
  ·exact QuW
  ·rintro k ⟨hk, hk2⟩
   have hrl := hs.rings
   have hil := hs.items k
   refine Go0 ?_
   refine Br.of (fun h2=>Go0 ?_) (fun h2=>Go0 ?_)
   ·refine QuU Qj4 (QjZ (s.rings.getD k default) hil ) (Go0 ?_)
    refine CallG.auto Qn2 (fun _ => QnT s (s.works.getD k default) ) (Go0 ?_)
    have w0 := Qa (↑k + 1) om om
    have no : ¬ Qdn s k = true → QaI s = false := fun q => by
     unfold QaI
     rw [QxE (fun z => q (z k om))]
     simp only [Qyw, Qyq]
    by_cases e : QbH (s.rings.getD k default) = true ∧ (s.rings.getD k default).depth = s.cfg.depth ∧ Qd3 s.cfg (s.works.getD k default) = true ∧ ((s.works.getD k default).state = 0 ∨ (s.works.getD k default).req.serial < s.serial)
    ·refine Br.no (queueB.2 e) (Go1 fun _h=>?_)
     refine Dr.mk hΓ hMix (by kernel_rfl) (Go0 ?_)
     have e0 : (k : Int).toNat = k := rfl
     have hw : IntKind.i64.wrap (↑(s.rings.getD k default).items.length - 1) = ↑(s.rings.getD k default).items.length - 1 := Qa _ om om
     refine Need.mk (fun h => by have h' := Qx4 h; rw [e0] at h' ⊢; rw [hw]; omega) ?_
     conv=>whnf
     refine Need.mk (fun h => by have h' := Qx4 h; rw [e0] at h' ⊢; rw [hw]; omega) (Go0 ?_)
     have hp2 : (IntKind.i64.wrap (↑(s.rings.getD k default).items.length - 1)).toNat = (s.rings.getD k default).items.length - 1 := by rw [hw]; omega
     have hro := (ringOk_iff.1 e.1).2
     rw [e0, hp2]
     by_cases e2 : 0 < (s.rings.getD k default).items.length → ((s.rings.getD k default).items.getD ((s.rings.getD k default).items.length - 1) default).serial < s.serial
     ·refine Br.no (lastB.2 e2) (Go0 ?_)
      refine ⟨k + 1, ⟨om, Q0 hk2 (queueOk_iff.2 ⟨e, (QkO hro).2 e2⟩)⟩, om, ?_⟩
      exact QuW
     ·refine Br.yes ?_ ?_
      ·refine QxC fun z => e2 (lastB.1 (Qq z))
      refine Go0 ?_
      rw [no (fun z => e2 ((QkO hro).1 (queueOk_iff.1 z).2))]
      exact QuV
    ·refine Br.yes ?_ ?_
     ·refine QxC fun z => e (queueB.1 (Qq z))
     refine Go0 ?_
     rw [no (fun z => e (queueOk_iff.1 z).1)]
     exact QuV
   ·refine CallN.reads Qq5 (QrX s s.evs hs.evs) (BwA.cons (BwS.c (Bw.same rfl)) (BwA.cons (BwS.c (Qw8 (g := lget [.ptr 0 0]) (g' := QmL s) (QwY (cs := s.cells) rfl rfl rfl))) BwA.nil)) rfl (Go0 ?_)
    refine Qvj rfl (WS.c (WC.bool ?_))
    unfold QaI
    rw [hp, Qxz (fun i hi => hk2 i om), QxW]
    simp only [Bool.true_and, Qyp, any_iff, Qxw, QxM]
    exact ⟨fun q i hi => by have := q i hi; omega, fun q i hi => by have := q i hi; omega⟩
theorem Qlq : HB 155 := hB Tryz.func155
theorem QiG (s : St) (hs : s.small) (l : List Ent) (hall : Qx s.map = true → AllS s.map l) : PS 64 [.a s.cells] (.c (.bool (QaI s))) := by
 refine PSpec.rm ?_
 refine ov0 hΓ Tryz.func64 6 0 [.tmp 2] Tryz.ntmps64 Tryz.results64 ?_
 refine QuU Qlq (Qlr s hs l hall ) (Go0 ?_)
 exact QuV
theorem QjD : HB 64 := hB Tryz.func64
end Go.Proofs
end
