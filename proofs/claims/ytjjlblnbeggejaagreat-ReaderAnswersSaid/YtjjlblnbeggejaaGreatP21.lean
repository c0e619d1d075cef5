/- Contracts, lemmas; no condition. -/
import Derived.Test.YtjjlblnbeggejaaGreatP20
import Derived.Test.YtjjlblnbeggejaaGreatP10
set_option linter.all false
section
open Go Go.Am
namespace Go.Proofs
set_option maxRecDepth 20000
variable {l : List Ent} {m : List (List Ent)} {i : Nat} {a : List Int} {α : Type} {r : Rng} {s : St}
theorem QhN (e : Ent) : PS 184 [.a e.cells] (.c (.bool (QaQ e))) := by
 refine PSpec.rm ?_
 refine ov0 hΓ Tryz.func184 48 0 [.tmp 2] Tryz.ntmps184 Tryz.results184 ?_
 refine Qvj rfl (WS.c (WC.bool ?_))
 rw [QxW, entOk_iff]
 simp [-List.getD_eq_getElem?_getD]
 omega
theorem QhK : HB 184 := hB Tryz.func184
theorem shardOk_iff : QM l = true ↔ ∀ i, i < l.length → QaQ (l.getD i default) = true ∧ (0 < i → (l.getD (i - 1) default).block < (l.getD i default).block) := by
 unfold QM; rw [Qxw]
theorem Qdp (l : List Ent) (hl : l.length ≤ 1000000) : PS 181 [.c (Qap l)] (.c (.bool (QM l))) := by
 refine PSpec.rm ?_
 refine ov0 hΓ Tryz.func181 34 0 [.tmp 2] Tryz.ntmps181 Tryz.results181 ?_
 refine QuY hΓ (ι := Nat) [0] (fun i => [(3, .c (.int .i64 i))]) (fun _ => []) (fun k => k ≤ l.length ∧ ∀ i, i < k → QaQ (l.getD i default) = true ∧ (0 < i → (l.getD (i - 1) default).block < (l.getD i default).block)) (fun i => l.length - i) 0 ⟨Qxx _, fun j hj => absurd hj (QxN _)⟩ ?_ ?_
 ·exact QuW
 ·rintro k ⟨hk, hk2⟩
  refine Go1 fun _h=>?_
  refine Br.of (fun h1=>Go0 ?_) (fun h1=>Go0 ?_)
  ·refine Dr.mk hΓ hMix (by kernel_rfl) (Go0 ?_)
   refine CallP.auto QhK (QhN (l.getD k default) ) (Go0 ?_)
   have hw : IntKind.i64.wrap (↑k - 1) = ↑k - 1 := Qa _ om om
   refine Need.mk (fun h => by rw [hw]; simp only [QxA, Qxw] at h; omega) ?_
   conv=>whnf
   refine Need.mk (fun h => by rw [hw]; simp only [QxA, Qxw] at h; omega) (Go0 ?_)
   have hp : (IntKind.i64.wrap (↑k - 1)).toNat = k - 1 := by rw [hw]; omega
   have w0 := Qa (↑k + 1) om om
   rw [hp]
   by_cases e : QaQ (l.getD k default) = true ∧ (0 < k → (l.getD (k - 1) default).block < (l.getD k default).block)
   ·refine Br.no (QxG.2 fun ebye => by simp [-List.getD_eq_getElem?_getD, -Int.default_eq_zero, e.1] at ebye <;> grind) ?_; conv=>whnf
    refine Go0 ?_
    refine ⟨k + 1, ⟨om, Q0 hk2 e⟩, om, ?_⟩
    exact QuW
   ·refine Br.yes (QxC fun ebye => e (by simp [-List.getD_eq_getElem?_getD, -Int.default_eq_zero] at ebye <;> grind)) ?_; conv=>whnf
    refine Go0 ?_
    rw [Qq (fun q => e (shardOk_iff.1 q k om) : ¬ QM l = true)]
    exact QuV
  ·rw [shardOk_iff.2 (fun i hi => hk2 i om)]
   exact QuV
theorem Qdq : HB 181 := hB Tryz.func181
theorem Qfi (l : List Ent) (b : Int) (hl : l.length ≤ 1000000) : PS 182 [.c (Qap l), .c (.int .i64 b)] (.c (.int .i64 (Qo l b))) := by
 refine PSpec.rm ?_
 refine ov0 hΓ Tryz.func182 22 0 [.tmp 4] Tryz.ntmps182 Tryz.results182 ?_
 refine QuY hΓ (ι := Nat) [0, 1, 4] (fun i => [(5, .c (.int .i64 i))]) (fun _ => []) (fun k => k ≤ l.length ∧ ∀ i, i < k → (l.getD i default).block < b) (fun i => l.length - i) 0 ⟨Qxx _, fun j hj => absurd hj (QxN _)⟩ ?_ ?_
 ·exact QuW
 ·rintro k ⟨hk, hk2⟩
  refine Go1 fun _h=>?_
  have e0 : (k : Int).toNat = k := rfl
  by_cases c : k < l.length ∧ (l.getD k default).block < b
  ·refine Br.yes (by simp [-List.getD_eq_getElem?_getD, c.1, c.2]) ?_
   refine Go0 ?_
   have w0 := Qa (↑k + 1) om om
   refine ⟨k + 1, ⟨om, Q0 hk2 c.2⟩, om, ?_⟩
   exact QuW
  ·refine Br.no (QxG.2 fun e => c (by simpa [-List.getD_eq_getElem?_getD] using e)) ?_
   refine Go0 ?_
   rw [QqZ hk hk2 om]
   exact QuV
theorem Qfe : HB 182 := hB Tryz.func182
theorem hasM_iff {b : Int} : hasM l b = true ↔ Qo l b < l.length ∧ (l.getD (Qo l b) default).block = b := by
 unfold hasM; rw [Qxw]
theorem Qjv (l : List Ent) (b : Int) (hl : l.length ≤ 1000000) : PS 97 [.c (Qap l), .c (.int .i64 b)] (.t [.inr (QO l b).1.cells, .inl (.bool (QO l b).2)]) := by
 refine PSpec.rm ?_
 refine ov0 hΓ Tryz.func97 32 0 [.cell 4 47, .tmp 5] Tryz.ntmps97 Tryz.results97 ?_
 refine QuU Qdq (Qdp l hl ) (Go0 ?_)
 have hple := QdU l b
 by_cases hv : QM l = true
 ·refine Br.no (by rw [hv]; rfl) (Go0 ?_)
  refine QuU Qfe (Qfi l b hl ) (Go1 fun _h=>?_)
  have e0 : ((Qo l b : Nat) : Int).toNat = Qo l b := rfl
  refine Go0 ?_
  by_cases c : hasM l b = true
  ·have c' := hasM_iff.1 c
   refine Br.no (QxG.2 fun e => by simp [-List.getD_eq_getElem?_getD, c'.2] at e; omega) ?_
   refine Go0 ?_
   rw [show QO l b = (l.getD (Qo l b) default, true) from Qxt ⟨hv, c⟩]
   exact QuV
  ·refine Br.yes (QxC fun e => c (hasM_iff.2 (by simp [-List.getD_eq_getElem?_getD] at e; omega))) ?_
   refine Go0 ?_
   rw [show QO l b = (default, false) from Qxu (fun e => c e.2)]
   exact QuV
 ·refine Br.yes (by rw [Qq hv]; rfl) (Go0 ?_)
  rw [show QO l b = (default, false) from Qxu (fun e => hv e.1)]
  exact QuV
theorem Qjt : HB 97 := hB Tryz.func97
theorem mapOk_iff : Qx m = true ↔ (1 ≤ m.length ∧ m.length ≤ 8) ∧ ∀ i, i < m.length → QM (m.getD i default) = true ∧ Qan (m.getD i default) m.length i = true := by
 unfold Qx; rw [QxA, Qxw, Qxw]
theorem inStripe_iff {n : Nat} : Qan l n i = true ↔ ∀ k, k < l.length → (l.getD k default).block.tmod n = i := by
 unfold Qan; rw [Qxw]
set_option maxHeartbeats 4000000 in
theorem Qe4 (m : List (List Ent)) (hm : m.length ≤ 1000000) (hs : ∀ i, (m.getD i default).length ≤ 1000000) : PS 96 [.a [QC m]] (.c (.bool (Qx m))) := by
 refine PSpec.rm ?_
 refine ov hΓ Tryz.func96 50 0 [.tmp 2] Tryz.ntmps96 Tryz.results96 ?_
 refine Go1 fun _h=>?_
 have no : ¬ Qx m = true → Qx m = false := Qq
 by_cases h0 : 1 ≤ m.length ∧ m.length ≤ 8
 ·refine Br.no (QxG.2 fun e => by simp at e; omega) (Go0 ?_)
  refine QuY hΓ (ι := Nat) [1, 3] (fun i => [(4, .c (.int .i64 i))]) (fun _ => [.vr [QC m]]) (fun k => k ≤ m.length ∧ ∀ i, i < k → QM (m.getD i default) = true ∧ Qan (m.getD i default) m.length i = true) (fun i => m.length - i) 0 ⟨Qxx _, fun j hj => absurd hj (QxN _)⟩ ?_ ?_
  ·exact QuW
  ·rintro k ⟨hk, hk2⟩
   have hsk := hs k
   refine Go0 ?_
   refine Br.of (fun h1=>?_) (fun h1=>?_)<;>(try simp only [Qxy] at h1)<;>refine Go0 ?_
   ·refine QuU Qdq (Qdp (m.getD k default) hsk ) (Go0 ?_)
    by_cases h2 : QM (m.getD k default) = true
    ·refine Br.no (by rw [h2]; rfl) (Go0 ?_)
     refine QuY hΓ (ι := Nat) [1, 3, 4] (fun i => [(5, .c (.int .i64 i))]) (fun _ => [.vr [QC m]]) (fun q => q ≤ (m.getD k default).length ∧ ∀ i, i < q → ((m.getD k default).getD i default).block.tmod m.length = k) (fun i => (m.getD k default).length - i) 0 ⟨Qxx _, fun j hj => absurd hj (QxN _)⟩ ?_ ?_
     ·exact QuW
     ·rintro q ⟨hq, hq2⟩
      refine Go1 fun _h=>?_
      have e0 : (k : Int).toNat = k := rfl
      refine Br.of (fun h3=>?_) (fun h3=>?_)<;>(try simp only [Qxy] at h3)<;>refine Go0 ?_
      ·have w0 := Qa (↑q + 1) om om
       by_cases c : ((m.getD k default).getD q default).block.tmod m.length = k
       ·refine Br.no ((neI).trans (by simp only [Qxy]; rw [Qxz c]; rfl)) (Go0 ?_)
        refine ⟨q + 1, ⟨om, Q0 hq2 c⟩, om, ?_⟩
        exact QuW
       ·refine Br.yes ((neI).trans (by simp only [Qxy]; rw [QxE c]; rfl)) (Go0 ?_)
        rw [no (fun z => c (inStripe_iff.1 ((mapOk_iff.1 z).2 k om).2 q om))]
        exact QuV
      ·have w0 := Qa (↑k + 1) om om
       refine ⟨k + 1, ⟨om, Q0 hk2 ⟨h2, inStripe_iff.2 fun i hi => hq2 i om⟩⟩, om, ?_⟩
       exact QuW
    ·refine Br.yes (by rw [Qq h2]; rfl) (Go0 ?_)
     rw [no (fun e => h2 ((mapOk_iff.1 e).2 k om).1)]
     exact QuV
   ·rw [mapOk_iff.2 ⟨h0, fun i hi => hk2 i om⟩]
    exact QuV
 ·refine Br.yes (by simp; omega) (Go0 ?_)
  rw [no (fun e => h0 (mapOk_iff.1 e).1)]
  exact QuV
theorem Qff : HB 96 := hB Tryz.func96
theorem QgO (m : List (List Ent)) (b : Int) (hm : m.length ≤ 1000000) : PS 98 [.a [QC m], .c (.int .i64 b)] (.c (.int .i64 (Qaj m b))) := by
 refine PSpec.rm ?_
 refine ov0 hΓ Tryz.func98 18 0 [.tmp 4] Tryz.ntmps98 Tryz.results98 ?_
 by_cases h : b < 0 ∨ m.length = 0
 ·refine Br.yes (by rcases h with h | h <;> simp [h]) ?_
  refine Go0 ?_
  rw [show Qaj m b = -1 from Qxt h]
  exact QuV
 ·have h1 : ¬ b < 0 := by omega
  have h2 : ¬ (m.length : Int) = 0 := by omega
  refine Br.no (by rw [QxE h1]; exact QxE h2) (Go1 fun _h=>?_)
  rw [show Qaj m b = b.tmod m.length from Qxu h]
  exact QuV
theorem Qgr : HB 98 := hB Tryz.func98
theorem countsOk_iff2 {b : List Int} : Qr a b = true ↔ (a.length = b.length ∧ 1 ≤ a.length ∧ a.length ≤ 32) ∧ ∀ i, i < a.length → 0 ≤ a.getD i default ∧ a.getD i default ≤ 1099511627776 ∧ 0 ≤ b.getD i default ∧ b.getD i default ≤ 1099511627776 := by
 unfold Qr
 rw [QxA, Qxw, Qxw]
theorem QbD (a b : List Int) (ha : a.length ≤ 1000000) (hb : b.length ≤ 1000000) : PS 127 [.a [Qh a, Qh b]] (.c (.bool (Qr a b))) := by
 refine PSpec.rm ?_
 refine ov hΓ Tryz.func127 60 0 [.tmp 2] Tryz.ntmps127 Tryz.results127 ?_
 refine Go2 fun _h _h=>?_
 have no : ¬ Qr a b = true → Qr a b = false := Qq
 by_cases h0 : a.length = b.length ∧ 1 ≤ a.length ∧ a.length ≤ 32
 ·refine Br.no (QxG.2 fun ebye => by simp [-List.getD_eq_getElem?_getD, -Int.default_eq_zero, h0.1] at ebye <;> grind) ?_; conv=>whnf
  refine Go0 ?_
  have h01 := h0.1
  refine QuY hΓ (ι := Nat) [1] (fun i => [(3, .c (.int .i64 i))]) (fun _ => [.vr [Qh a, Qh b]]) (fun k => k ≤ a.length ∧ ∀ i, i < k → 0 ≤ a.getD i default ∧ a.getD i default ≤ 1099511627776 ∧ 0 ≤ b.getD i default ∧ b.getD i default ≤ 1099511627776) (fun i => a.length - i) 0 ⟨Qxx _, fun j hj => absurd hj (QxN _)⟩ ?_ ?_
  ·exact QuW
  ·rintro k ⟨hk, hk2⟩
   refine Go1 fun _h=>?_
   refine Br.of (fun h1=>?_) (fun h1=>?_)<;>(try simp only [Qxy] at h1)<;>refine Go0 ?_
   ·have w0 := Qa (↑k + 1) om om
    by_cases c : 0 ≤ a.getD k default ∧ a.getD k default ≤ 1099511627776 ∧ 0 ≤ b.getD k default ∧ b.getD k default ≤ 1099511627776
    ·refine Br.no (QxG.2 fun ebye => by simp [-List.getD_eq_getElem?_getD, -Int.default_eq_zero, c] at ebye <;> grind) ?_; conv=>whnf
     refine Go0 ?_
     refine ⟨k + 1, ⟨om, Q0 hk2 c⟩, om, ?_⟩
     exact QuW
    ·refine Br.yes (QxC fun ebye => c (by simp [-List.getD_eq_getElem?_getD, -Int.default_eq_zero] at ebye <;> grind)) ?_; conv=>whnf
     refine Go0 ?_
     rw [no (fun z => c ((countsOk_iff2.1 z).2 k om))]
     exact QuV
   ·rw [countsOk_iff2.2 ⟨h0, fun i hi => hk2 i om⟩]
    exact QuV
 ·refine Br.yes (QxC fun ebye => h0 (by simp [-List.getD_eq_getElem?_getD, -Int.default_eq_zero] at ebye <;> grind)) ?_; conv=>whnf
  refine Go0 ?_
  rw [no (fun z => h0 (countsOk_iff2.1 z).1)]
  exact QuV
theorem QbK : HB 127 := hB Tryz.func127
theorem locksOk_iff2 : QbI a = true ↔ (1 ≤ a.length ∧ a.length ≤ 8) ∧ ∀ i, i < a.length → -1 ≤ a.getD i default := by
 unfold QbI
 rw [QxA, Qxw, Qxw]
theorem QiL (a : List Int) (ha : a.length ≤ 1000000) : PS 128 [.a [Qh a]] (.c (.bool (QbI a))) := by
 refine PSpec.rm ?_
 refine ov0 hΓ Tryz.func128 27 0 [.tmp 2] Tryz.ntmps128 Tryz.results128 ?_
 have no : ¬ QbI a = true → QbI a = false := Qq
 refine QuY hΓ (ι := Nat) [1] (fun i => [(3, .c (.int .i64 i))]) (fun _ => [.vr [Qh a]]) (fun k => k ≤ a.length ∧ ∀ i, i < k → -1 ≤ a.getD i default) (fun i => a.length - i) 0 ⟨Qxx _, fun j hj => absurd hj (QxN _)⟩ ?_ ?_
 ·exact QuW
 ·rintro k ⟨hk, hk2⟩
  refine Go1 fun _h=>?_
  refine Br.of (fun h1=>?_) (fun h1=>?_)<;>(try simp only [Qxy] at h1)<;>(conv=>whnf)
  ·refine Go0 ?_
   have w0 := Qa (↑k + 1) om om
   refine Br.of (fun h2=>?_) (fun h2=>?_)<;>(try simp only [Qxy] at h2)<;>refine Go0 ?_
   ·rw [no (fun z => by have := (locksOk_iff2.1 z).2 k om; omega)]
    exact QuV
   ·refine ⟨k + 1, ⟨om, Q0 hk2 h2⟩, om, ?_⟩
    exact QuW
  ·refine Go1 fun _h=>?_
   refine Qvj rfl (WS.c (WC.bool ?_))
   rw [QxW, locksOk_iff2]
   simp
   exact ⟨fun h => ⟨om, fun i hi => hk2 i om⟩, fun h => by omega⟩
theorem Qkp : HB 128 := hB Tryz.func128
theorem Qg3 (g : Int) (p : List Int) (r : List Ret) (z : Int) (n : Nat) (hr : r.length ≤ 1000000) (hn : n ≤ r.length) : PS 72 [.a [.int .i64 g, Qh p, retC r], .c (.int .i64 z), .c (.int .i64 n)] (.c (.bool (QbO (r.take n) z))) := by
 refine PSpec.rm ?_
 refine ov0 hΓ Tryz.func72 21 0 [.tmp 6] Tryz.ntmps72 Tryz.results72 ?_
 refine QuY hΓ (ι := Nat) [1, 2, 3] (fun i => [(7, .c (.int .i64 i))]) (fun _ => [.vr [.int .i64 g, Qh p, retC r]]) (fun k => k ≤ n ∧ QbO (r.take k) z = false) (fun i => n - i) 0 ⟨Qxx _, rfl⟩ ?_ ?_
 ·exact QuW
 ·rintro k ⟨hk, hk2⟩
  refine Go0 ?_
  refine Br.of (fun h1=>?_) (fun h1=>?_)<;>(try simp only [Qxy] at h1)<;>refine Go0 ?_
  ·have w0 := Qa (↑k + 1) om om
   refine Br.of (fun h2=>?_) (fun h2=>?_)<;>(try simp only [Qxy] at h2)<;>refine Go0 ?_
   ·rw [show QbO (r.take n) z = true by
     have : QbO (r.take (k + 1)) z = true := by rw [Qgj om, Qxz h2, Bool.or_true]
     unfold QbO at this ⊢
     rw [QyN] at this ⊢
     obtain ⟨x, hx, hp⟩ := this
     exact ⟨x, (List.take_subset_take_left r (show k + 1 ≤ n by omega)) hx, hp⟩]
    exact QuV
   ·refine ⟨k + 1, ⟨om, by rw [Qgj om, hk2, QxE h2]; rfl⟩, om, ?_⟩
    exact QuW
  ·rw [show n = k by omega, hk2]
   exact QuV
theorem Qgx : HB 72 := hB Tryz.func72
theorem QgB (g : Int) (p : List Int) (r : List Ret) (hp : p.length ≤ 1000000) (hr : r.length ≤ 1000000) : PS 61 [.a [.int .i64 g, Qh p, retC r]] (.c (.bool (QL g p r))) := by
 refine PSpec.rm ?_
 refine ov hΓ Tryz.func61 102 0 [.tmp 2] Tryz.ntmps61 Tryz.results61 ?_
 refine Go1 fun _h=>?_
 have no : ¬ QL g p r = true → QL g p r = false := Qq
 by_cases h0 : 1 ≤ p.length ∧ p.length ≤ 4 ∧ 0 ≤ g ∧ g ≤ 1099511627776
 ·refine Br.no (QxG.2 fun ebye => by simp [-List.getD_eq_getElem?_getD, -Int.default_eq_zero, h0] at ebye <;> grind) ?_; conv=>whnf
  refine Go0 ?_
  have wg : IntKind.i64.wrap (g - 1) = g - 1 := Qa _ om om
  refine QuY hΓ (ι := Nat) [1] (fun i => [(3, .c (.int .i64 i))]) (fun _ => [.vr [.int .i64 g, Qh p, retC r]]) (fun k => k ≤ p.length ∧ ∀ i, i < k → p.getD i default = -1 ∨ 0 ≤ p.getD i default ∧ (p.getD i default = g ∨ p.getD i default = g - 1)) (fun i => p.length - i) 0 ⟨Qxx _, fun j hj => absurd hj (QxN _)⟩ ?_ ?_
  ·exact QuW
  ·rintro k ⟨hk, hk2⟩
   refine Go1 fun _h=>?_
   refine Br.of (fun h2=>?_) (fun h2=>?_)<;>(try simp only [Qxy] at h2)<;>refine Go0 ?_
   ·have w0 := Qa (↑k + 1) om om
    by_cases e : p.getD k default = -1 ∨ 0 ≤ p.getD k default ∧ (p.getD k default = g ∨ p.getD k default = g - 1)
    ·refine Br.no ((pinB (x := p.getD k default) wg).trans (by rw [Qxz e]; rfl)) (Go0 ?_)
     refine ⟨k + 1, ⟨om, Q0 hk2 e⟩, om, ?_⟩
     exact QuW
    ·refine Br.yes ((pinB (x := p.getD k default) wg).trans (by rw [QxE e]; rfl)) (Go0 ?_)
     rw [no (fun q => e ((epochsOk_iff.1 q).2.1 k om))]
     exact QuV
   ·have hpins : ∀ i, i < p.length → p.getD i default = -1 ∨ 0 ≤ p.getD i default ∧ (p.getD i default = g ∨ p.getD i default = g - 1) := fun i hi => hk2 i om
    clear hk hk2 h2
    refine QuY hΓ (ι := Nat) [1] (fun i => [(5, .c (.int .i64 i))]) (fun _ => [.vr [.int .i64 g, Qh p, retC r]]) (fun k => k ≤ r.length ∧ ∀ i, i < k → 0 ≤ (r.getD i default).zone ∧ 0 ≤ (r.getD i default).epoch ∧ (r.getD i default).epoch ≤ g ∧ ∀ j, j < i → (r.getD j default).zone ≠ (r.getD i default).zone) (fun i => r.length - i) 0 ⟨Qxx _, fun j hj => absurd hj (QxN _)⟩ ?_ ?_
    ·exact QuW
    ·rintro q ⟨hq, hq2⟩
     refine Go1 fun _h=>?_
     refine Br.of (fun h3=>?_) (fun h3=>?_)<;>(try simp only [Qxy] at h3)<;>refine Go0 ?_
     ·refine Dr.mk hΓ hMix (by kernel_rfl) (Go0 ?_)
      refine QvE Qgx (fun _ => Qg3 g p r (r.getD q default).zone q hr hq ) (Go0 ?_)
      have w0 := Qa (↑q + 1) om om
      have hmem : QbO (r.take q) (r.getD q default).zone = true ↔ ¬ ∀ j, j < q → (r.getD j default).zone ≠ (r.getD q default).zone := by
       have := Qe3 (r := r) (k := q) om (n := (r.getD q default).zone)
       unfold QbO
       rw [QyN]
       unfold Qcx at this
       rw [Qyj] at this
       constructor
       ·rintro ⟨x, hx, h2⟩ h3
        obtain ⟨j, h4, h5⟩ := this.1 ⟨x, hx, Qx4 h2⟩
        exact h3 j h4 h5
       ·intro h
        obtain ⟨x, hx, h2⟩ := this.2 (QyK fun hn => h fun j hj e => hn ⟨j, hj, e⟩)
        exact ⟨x, hx, Qxz h2⟩
      by_cases e : 0 ≤ (r.getD q default).zone ∧ 0 ≤ (r.getD q default).epoch ∧ (r.getD q default).epoch ≤ g ∧ ∀ j, j < q → (r.getD j default).zone ≠ (r.getD q default).zone
      ·have hf : QbO (r.take q) (r.getD q default).zone = false := Qq (fun h => hmem.1 h e.2.2.2)
       refine Br.no (QxG.2 fun z => by simp [-List.getD_eq_getElem?_getD, hf] at z; omega) ?_
       refine Go0 ?_
       refine ⟨q + 1, ⟨om, Q0 hq2 e⟩, om, ?_⟩
       exact QuW
      ·refine Br.yes (QxC fun z => e (by
        simp [-List.getD_eq_getElem?_getD] at z
        have h4 : ∀ j, j < q → (r.getD j default).zone ≠ (r.getD q default).zone := QyK fun hn => by
         have := hmem.2 hn
         rw [this] at z
         simp at z
        exact ⟨om, om, om, h4⟩)) ?_
       refine Go0 ?_
       rw [no (fun z => e ((epochsOk_iff.1 z).2.2 q om))]
       exact QuV
     ·rw [epochsOk_iff.2 ⟨h0, hpins, fun i hi => hq2 i om⟩]
      exact QuV
 ·refine Br.yes (QxC fun ebye => h0 (by simp [-List.getD_eq_getElem?_getD, -Int.default_eq_zero] at ebye <;> grind)) ?_; conv=>whnf
  refine Go0 ?_
  rw [no (fun z => h0 (epochsOk_iff.1 z).1)]
  exact QuV
theorem Qgv : HB 61 := hB Tryz.func61
theorem Qu [Inhabited α] (l : List α) (i : Nat) (h : i < l.length) : l.getD i default = l[i] := by simp [List.getD, h]
def Asc (l : List Ent) : Prop := l.Pairwise fun a b => a.block < b.block
theorem Qi5 {l : List Ent} {b : Int} : ∀ {k : Nat}, k ≤ l.length → (∀ i, Qa3 l b k ≤ i → i < k → b < (l.getD i default).block) ∧ (0 < Qa3 l b k → (l.getD (Qa3 l b k - 1) default).block ≤ b)
 | 0, _ => ⟨fun i _ h => by omega, fun h => by simp [Qa3] at h⟩
 | k + 1, hk => by
  obtain ⟨h1, h2⟩ := Qi5 (l := l) (b := b) (k := k) om
  unfold Qa3
  split
  ·rename_i c
   refine ⟨fun i hi hik => ?_, h2⟩
   by_cases e : i = k
   ·subst e; exact c
   ·exact h1 i hi om
  ·rename_i c
   exact ⟨fun i hi hik => by omega, fun _ => by simpa using Int.not_lt.1 c⟩
theorem Asc.get (h : Asc l) {j : Nat} (hi : i < j) (hj : j < l.length) : (l.getD i default).block < (l.getD j default).block := by
 rw [Qu _ _ om, Qu _ _ hj]
 exact Qyk.1 h i j om hj hi
theorem QrH (l : List Ent) (x : Ent) : (insE l x).Perm (x :: l) := by
 unfold insE
 refine (List.perm_middle).trans ?_
 rw [List.take_append_drop]
theorem QsC {x : Ent} (h : Asc l) (hx : ∀ e ∈ l, e.block ≠ x.block) : Asc (insE l x) := by
 obtain ⟨s1, s2⟩ := Qi5 (l := l) (b := x.block) (k := l.length) (QxB _)
 have sl := Qin l x.block l.length
 generalize hs : Qa3 l x.block l.length = s at *
 unfold insE
 rw [hs]
 have lo : ∀ i, i < s → (l.getD i default).block < x.block := fun i hi => by
  have h1 := s2 om
  have h2 := hx (l.getD (s - 1) default) (by rw [Qu _ _ (show s - 1 < l.length by omega)]; exact Qx0 _)
  have h3 : (l.getD (s - 1) default).block < x.block := by omega
  by_cases e : i = s - 1
  ·rw [e]; exact h3
  ·have := h.get (i := i) (j := s - 1) om om
   omega
 refine List.pairwise_append.2 ⟨Qy6 (List.take_sublist _ _) h, ?_, ?_⟩
 ·refine List.pairwise_cons.2 ⟨fun e he => ?_, Qy6 (List.drop_sublist _ _) h⟩
  obtain ⟨i, hi, rfl⟩ := QxP he
  rw [Qyn] at hi
  have := s1 (s + i) om om
  rw [Qu _ _ om] at this
  simpa using this
 ·intro a ha b hb
  obtain ⟨i, hi, rfl⟩ := QxP ha
  rw [QxO] at hi
  have hl := lo i om
  rw [Qu _ _ om] at hl
  have ea : (l.take s)[i]'(by rw [QxO]; omega) = l[i]'om := by simp
  rw [ea]
  rcases Qyf.1 hb with rfl | hb
  ·exact hl
  ·obtain ⟨j, hj, rfl⟩ := QxP hb
   rw [Qyn] at hj
   have := s1 (s + j) om om
   rw [Qu _ _ om] at this
   simp only [List.getElem_drop]
   omega
theorem Qut : ∀ {out : List Ent}, Asc out → (∀ e ∈ out, ∀ x ∈ l, e.block ≠ x.block) → (l.map Ent.block).Nodup → Asc (l.foldl insE out) ∧ (l.foldl insE out).Perm (l ++ out) := by
 induction l with
 | nil => intro out h _ _; exact ⟨h, List.Perm.refl _⟩
 | cons x l ih =>
  intro out h hx hn
  simp only [Qyz, Qy4] at hn
  have h1 := QsC h fun e he => hx e he x (Qys ..)
  have h2 := QrH out x
  obtain ⟨i1, i2⟩ := ih (out := insE out x) h1 (fun e he y hy => by
   have := h2.mem_iff.1 he
   rcases Qyf.1 this with rfl | he
   ·exact fun q => hn.1 (q ▸ QyJ hy)
   ·exact hx e he y (Qyi _ hy)) hn.2
  refine ⟨i1, i2.trans ?_⟩
  refine (List.Perm.append_left l h2).trans ?_
  exact List.perm_middle
theorem Qg6 (h : Qx m = true) (hi : i < m.length) {e : Ent} (he : e ∈ m.getD i default) : e.block.tmod m.length = i ∧ QaQ e = true := by
 obtain ⟨h1, h2⟩ := Qch h hi
 obtain ⟨k, hk, rfl⟩ := QxP he
 unfold Qan at h2
 unfold QM at h1
 rw [Qxw] at h1 h2
 have a := h2 k hk
 have b := (h1 k hk).1
 rw [Qu _ _ hk] at a b
 exact ⟨a, b⟩
theorem QeS (h : QM l = true) : Asc l := by
 unfold QM at h
 rw [Qxw] at h
 have key : ∀ d i, i + d + 1 < l.length → (l.getD i default).block < (l.getD (i + d + 1) default).block := by
  intro d
  induction d with
  | zero => intro i hi; exact (h (i + 1) hi).2 om
  | succ d ih =>
   intro i hi
   have h1 := ih i om
   have h2 := (h (i + (d + 1) + 1) hi).2 om
   rw [show i + (d + 1) + 1 - 1 = i + d + 1 by omega] at h2
   omega
 refine Qyk.2 fun i j hi hj hij => ?_
 have := key (j - i - 1) i om
 rw [show i + (j - i - 1) + 1 = j by omega, Qu _ _ hi, Qu _ _ hj] at this
 exact this
theorem Qi8 (h : Qx m = true) : (m.flatten.map Ent.block).Nodup := by
 rw [List.map_flatten, List.Nodup, List.pairwise_flatten]
 constructor
 ·intro l hl
  obtain ⟨x, hx, rfl⟩ := Qyj.1 hl
  obtain ⟨i, hi, rfl⟩ := QxP hx
  have := QeS (Qch h hi).1
  rw [Qu _ _ hi] at this
  exact List.pairwise_map.2 (this.imp fun h => by omega)
 ·rw [List.pairwise_map, Qyk]
  intro i j hi hj hij a ha b hb hab
  subst hab
  obtain ⟨e, he, rfl⟩ := Qyj.1 ha
  obtain ⟨e', he', h3⟩ := Qyj.1 hb
  have h1 := (Qg6 h hi (e := e) (by rw [Qu _ _ hi]; exact he)).1
  have h2 := (Qg6 h hj (e := e') (by rw [Qu _ _ hj]; exact he')).1
  rw [h3, h1] at h2
  omega
theorem QcJ (h : Qx m = true) : Asc (allM m) ∧ (allM m).Perm m.flatten := by
 have := Qut (l := m.flatten) (out := []) List.Pairwise.nil (fun e he => by cases he) (Qi8 h)
 rw [Qy1] at this
 exact this
theorem Qrn (h : Qx m = true) (hp : l.Perm m.flatten) (hs : l.Pairwise fun a b => ¬ b.block < a.block) : l = allM m := by
 obtain ⟨a1, a2⟩ := QcJ h
 refine List.Perm.eq_of_pairwise (le := fun a b => ¬ b.block < a.block) (fun a b ha hb h1 h2 => ?_) hs (a1.imp fun h => by omega) (hp.trans a2.symm)
 have hb' := a2.mem_iff.1 hb
 have ha' := hp.mem_iff.1 ha
 have hn := Qi8 h
 obtain ⟨i, hi, rfl⟩ := QxP ha'
 obtain ⟨j, hj, rfl⟩ := QxP hb'
 have hne : i = j := by
  refine QxC fun hij => ?_
  have hp := Qyk.1 hn
  have hi' : i < (m.flatten.map Ent.block).length := by rw [Qy7]; exact hi
  have hj' : j < (m.flatten.map Ent.block).length := by rw [Qy7]; exact hj
  rcases Nat.lt_or_gt_of_ne hij with c | c
  ·exact hp i j hi' hj' c (by rw [Qzd, Qzd]; omega)
  ·exact hp j i hj' hi' c (by rw [Qzd, Qzd]; omega)
 subst hne
 rfl
theorem Qtd (h : Qx m = true) (e : Ent) : e ∈ allM m ↔ ∃ i, i < m.length ∧ e ∈ m.getD i default := by
 rw [(QcJ h).2.mem_iff, List.mem_flatten]
 constructor
 ·rintro ⟨l, h1, h2⟩
  obtain ⟨i, hi, rfl⟩ := QxP h1
  exact ⟨i, hi, by rw [Qu _ _ hi]; exact h2⟩
 ·rintro ⟨i, hi, he⟩
  rw [Qu _ _ hi] at he
  exact ⟨_, Qx0 hi, he⟩
theorem QbA {l : List α} {q : Nat} {x d : α} (hq : q < l.length) : (l.set q x).getD i d = if i = q then x else l.getD i d := by
 simp only [List.getD, List.getElem?_set]
 by_cases h : q = i
 ·subst h; simp [hq]
 ·rw [Qxu h, Qxu (fun e => h e.symm)]
theorem QgN {l : List α} {x d : α} (hi : i < l.length + 1) : (l ++ [x]).getD i d = if i = l.length then x else l.getD i d := by
 simp only [List.getD]
 by_cases h : i = l.length
 ·subst h; simp
 ·rw [Qxu h, QxS om]
structure QOk (c : Conf) (serial : Int) (r : Rng) (w : Wrk) : Prop where
 ring : QbH r = true
 depth : r.depth = c.depth
 work : Qd3 c w = true
 req : w.state = 0 ∨ w.req.serial < serial
 items : ∀ k, k < r.items.length → (r.items.getD k default).serial < serial
theorem QOk.later {c : Conf} {n n' : Int} {w : Wrk} (h : QOk c n r w) (hn : n ≤ n') : QOk c n' r w :=
 ⟨h.ring, h.depth, h.work, h.req.imp id fun k => by omega, fun k hk => by have := h.items k hk; omega⟩
theorem QrP : Qdn s i = true ↔ QOk s.cfg s.serial (s.rings.getD i default) (s.works.getD i default) := by
 unfold Qdn
 simp only [QxA, Qxw]
 exact ⟨fun ⟨a, b, c, d, e⟩ => ⟨a, b, c, d, e⟩, fun ⟨a, b, c, d, e⟩ => ⟨a, b, c, d, e⟩⟩
structure Parts (s : St) : Prop where
 cfg : QB s.cfg = 0
 dev : check s.dev = 0
 zones : (s.dev.zones.length : Int) = s.cfg.zones
 size : s.dev.size = s.cfg.size
 map : Qx s.map = true
 shards : (s.map.length : Int) = s.cfg.shards
 blocks : QaJ s.map s.cfg.blocks = true
 counts : Qr s.live s.pend = true
 live : (s.live.length : Int) = s.cfg.zones
 locks : QbI s.owner = true
 stripes : (s.owner.length : Int) = s.cfg.shards
 epochs : QL s.glob s.pins s.rets = true
 pins : (s.pins.length : Int) = s.cfg.queues
 pool : poolOk s.cfg s.free s.host s.lane = true
 rings : (s.rings.length : Int) = s.cfg.queues
 works : (s.works.length : Int) = s.cfg.queues
 next : 1 ≤ s.next ∧ s.next ≤ 1099511627776
 serial : 0 ≤ s.serial ∧ s.serial ≤ 1099511627776
theorem QsE : QaT s = true ↔ Parts s := by
 unfold QaT
 simp only [QxA, Qxw]
 constructor
 ·rintro ⟨a1, a2, ⟨a3, a4⟩, a5, a6, a7, a8, a9, a10, a11, a12, a13, a14, ⟨a15, a16⟩, a17, a18, a19, a20⟩
  exact ⟨a1, a2, a3, a4, a5, a6, a7, a8, a9, a10, a11, a12, a13, a14, a15, a16, ⟨a17, a18⟩, ⟨a19, a20⟩⟩
 ·rintro ⟨a1, a2, a3, a4, a5, a6, a7, a8, a9, a10, a11, a12, a13, a14, a15, a16, ⟨a17, a18⟩, ⟨a19, a20⟩⟩
  exact ⟨a1, a2, ⟨a3, a4⟩, a5, a6, a7, a8, a9, a10, a11, a12, a13, a14, ⟨a15, a16⟩, a17, a18, a19, a20⟩
structure Val (s : St) : Prop where
 parts : Parts s
 queues : ∀ i, i < s.rings.length → QOk s.cfg s.serial (s.rings.getD i default) (s.works.getD i default)
 evs : ∀ i, i < s.evs.length → (s.evs.getD i default).serial < s.serial
theorem validS_V : QaI s = true ↔ Val s := by
 unfold QaI
 simp only [QxA, Qxw, QrP, QsE]
 exact ⟨fun ⟨a, b, c⟩ => ⟨a, b, c⟩, fun ⟨a, b, c⟩ => ⟨a, b, c⟩⟩
theorem ringOk_R : QbH r = true ↔ (1 ≤ r.depth ∧ r.depth ≤ 8 ∧ (r.items.length : Int) ≤ r.depth) ∧ ∀ i, i < r.items.length → 0 ≤ (r.items.getD i default).serial ∧ (0 < i → (r.items.getD (i - 1) default).serial < (r.items.getD i default).serial) := by
 unfold QbH
 rw [QxA, Qxw, Qxw]
theorem QnI {x : Req} (h : QbH r = true) (h0 : 0 ≤ x.serial) (hx : ∀ k, k < r.items.length → (r.items.getD k default).serial < x.serial) :
  ((r.items.length : Int) = r.depth ∧ QtT r x = (r, 13)) ∨ ((r.items.length : Int) < r.depth ∧ QtT r x = (⟨r.depth, r.items ++ [x]⟩, 0) ∧ QbH ⟨r.depth, r.items ++ [x]⟩ = true) := by
 have hr := ringOk_R.1 h
 by_cases c : (r.items.length : Int) = r.depth
 ·left
  exact ⟨c, by unfold QtT; rw [Qxt h, Qxt c]⟩
 ·right
  refine ⟨om, ?_, ?_⟩
  ·unfold QtT
   rw [Qxt h, Qxu c, Qxu]
   rintro (q | ⟨q1, q2⟩)
   ·omega
   ·have := hx (r.items.length - 1) om; omega
  ·rw [ringOk_R]
   simp only [QxL, QxR, Qx5]
   refine ⟨om, fun i hi => ?_⟩
   rw [QgN hi]
   by_cases e : i = r.items.length
   ·rw [Qxt e]
    refine ⟨h0, fun hi0 => ?_⟩
    rw [QgN om, Qxu om]
    exact hx _ om
   ·rw [Qxu e]
    have := hr.2 i om
    refine ⟨this.1, fun hi0 => ?_⟩
    rw [QgN om, Qxu om]
    exact this.2 hi0
theorem Qsc (h : QbH r = true) (hn : 0 < r.items.length) : Qsx r = (⟨r.depth, r.items.drop 1⟩, r.items.getD 0 default, true) ∧ QbH ⟨r.depth, r.items.drop 1⟩ = true := by
 have hr := ringOk_R.1 h
 refine ⟨Qxt ⟨h, hn⟩, ?_⟩
 rw [ringOk_R]
 have hd : ∀ i, (r.items.drop 1).getD i default = r.items.getD (1 + i) default := fun i => by simp only [List.getD, QyE]
 simp only [Qyn]
 refine ⟨om, fun i hi => ?_⟩
 rw [hd, hd]
 have := hr.2 (1 + i) om
 refine ⟨this.1, fun hi0 => ?_⟩
 have h2 := this.2 om
 rw [show 1 + i - 1 = 1 + (i - 1) by omega] at h2
 exact h2
theorem Val.submit (h : Val s) (q : Int) (x : Req) : Val (Qo4 s q x).1 := by
 unfold Qo4
 rw [Qxt (validS_V.2 h)]
 split
 ·rename_i hq
  split
  ·exact h
  ·rename_i hl
   have hser := h.parts.serial
   by_cases hc : s.closed = true
   ·simp only [Qxt hc]
    refine ⟨{ h.parts with serial := ⟨by show 0 ≤ s.serial + 1; omega, by show s.serial + 1 ≤ _; omega⟩ }, fun i hi => ?_, fun i hi => ?_⟩
    ·exact (h.queues i hi).later (show s.serial ≤ s.serial + 1 by omega)
    ·simp only [St.addEv, QxL, QxR, Qx5] at hi ⊢
     rw [QgN (by simp; omega)]
     split
     ·show s.serial < s.serial + 1; omega
     ·rename_i hne
      simp only [QxL, QxR, Qx5] at hne
      rw [QgN om]
      split
      ·show s.serial < s.serial + 1; omega
      ·have := h.evs i om
       show _ < s.serial + 1; omega
   ·simp only [Qxu hc]
    have hq2 : q.toNat < s.rings.length := by omega
    have hQ := h.queues q.toNat hq2
    rcases QnI (x := { x with serial := s.serial }) hQ.ring hser.1 hQ.items with ⟨_, e⟩ | ⟨hlt, e, hok⟩
    ·rw [e]; rw [Qxt (show (13 : Int) ≠ 0 by decide)]; exact h
    ·rw [e]
     rw [Qxu (show ¬ (0 : Int) ≠ 0 by decide)]
     refine ⟨{ h.parts with serial := ⟨by show 0 ≤ s.serial + 1; omega, by show s.serial + 1 ≤ _; omega⟩, rings := by simp only [St.addEv, St.setRing, QxT]; exact h.parts.rings }, fun i hi => ?_, fun i hi => ?_⟩
     ·simp only [St.addEv, St.setRing, QxT] at hi ⊢
      have := h.queues i hi
      rw [QbA hq2]
      split
      ·rename_i ei
       subst ei
       refine ⟨hok, hQ.depth, hQ.work, hQ.req.imp id fun k => by omega, fun k hk => ?_⟩
       simp only [QxL, QxR, Qx5] at hk
       rw [QgN hk]
       split
       ·show s.serial < s.serial + 1; omega
       ·have := hQ.items k om; omega
      ·exact this.later om
     ·simp only [St.addEv, St.setRing, QxL, QxR, Qx5] at hi ⊢
      rw [QgN hi]
      split
      ·show s.serial < s.serial + 1; omega
      ·have := h.evs i om; omega
 ·exact h
theorem Val.setWork {s : St} (h : Val s) {q : Nat} {w : Wrk} (hq : q < s.works.length) (h1 : Qd3 s.cfg w = true) (h2 : w.state = 0 ∨ w.req.serial < s.serial) : Val (s.setWork q w) := by
 refine ⟨{ h.parts with works := by simp only [St.setWork, QxT]; exact h.parts.works }, fun i hi => ?_, h.evs⟩
 have := h.queues i hi
 simp only [St.setWork]
 rw [QbA hq]
 split
 ·rename_i e; subst e; exact ⟨this.ring, this.depth, h1, h2, this.items⟩
 ·exact this
def QbR (l : List Int) (i n : Int) : List Int := l.set i.toNat (l.getD i.toNat default + n)
@[simp] theorem addAt_len (l : List Int) (i n : Int) : (QbR l i n).length = l.length := QxT
theorem Qpg {l : List Int} {i n : Int} (h0 : 0 ≤ i) (h1 : i < l.length) (k : Nat) : (QbR l i n).getD k default = if k = i.toNat then l.getD i.toNat default + n else l.getD k default := by
 unfold QbR
 rw [QbA om]
def hasC (live pend : List Int) (z : Int) : Bool := Qr live pend && decide (0 ≤ z ∧ z < live.length)
theorem hasC_iff {live pend : List Int} {z : Int} : hasC live pend z = true ↔ Qr live pend = true ∧ 0 ≤ z ∧ z < live.length := by
 unfold hasC; rw [QxA, Qxw]
def Qc9 (live : List Int) (oz fz : Int) (had is : Bool) : List Int :=
 if is = true then QbR (if had = true then QbR live oz (-1) else live) fz 1 else if had = true then QbR live oz (-1) else live
def Qar (live pend : List Int) (oz fz : Int) (had is : Bool) : List Int × Bool :=
 if Qr live pend = true ∧ (had = true → hasC live pend oz = true) ∧ (is = true → hasC live pend fz = true) ∧ Qr (Qc9 live oz fz had is) pend = true then (Qc9 live oz fz had is, true) else (live, false)
def Qtb (live pend : List Int) (z : Int) : List Int × Bool :=
 if hasC live pend z = true ∧ pend.getD z.toNat default ≠ 1099511627776 then (QbR pend z 1, true) else (pend, false)
def QuM (o : List Int) (i : Int) : Bool := QbI o && decide (0 ≤ i ∧ i < o.length ∧ o.getD i.toNat default = -1)
def Qrp (o : List Int) (i t : Int) : List Int × Bool := if QuM o i = true ∧ 0 ≤ t then (o.set i.toNat t, true) else (o, false)
def pinM (g : Int) (pins : List Int) (rets : List Ret) (q : Int) : List Int × Bool :=
 if QL g pins rets = true ∧ 0 ≤ q ∧ q < pins.length ∧ pins.getD q.toNat default = -1 then (pins.set q.toNat g, true) else (pins, false)
def Qas (g : Int) (pins : List Int) (rets : List Ret) (z : Int) : List Ret × Bool :=
 if QL g pins rets = true ∧ 0 ≤ z ∧ QbO rets z = false then (rets ++ [⟨z, g⟩], true) else (rets, false)
def Qmi (g : Int) (pins : List Int) : Bool := decide (∀ i, i < pins.length → pins.getD i default = -1 ∨ pins.getD i default = g)
def advM (g : Int) (pins : List Int) (rets : List Ret) : Int × Bool :=
 if QL g pins rets = true ∧ g ≠ 1099511627776 ∧ Qmi g pins = true then (g + 1, true) else (g, false)
def orW (x y : Int) : Int := IntKind.i64.wrap (BitVec.ofInt IntKind.i64.bits x ||| BitVec.ofInt IntKind.i64.bits y).toNat
def shW (x : Int) : Int := IntKind.i64.wrap (x * 2 ^ min (8 : Int).toNat IntKind.i64.bits)
def Qa8 (b : ByteArray) (k : Nat) : Int := IntKind.i64.wrap ((b.data.toList.getD k 0).toNat : Int)
def Qdx (b : ByteArray) (at_ size : Nat) : Nat → Int
 | 0 => 0
 | k + 1 => orW (shW (Qdx b at_ size k)) (Qa8 b (at_ + (size - 1 - k)))
def getE (b : ByteArray) (at_ size : Nat) : Int := if b.size < at_ + size then 2 else 0
def getS (b : ByteArray) (at_ size : Nat) : Int := if b.size < at_ + size then 0 else Qdx b at_ size size
def sumW (b : ByteArray) : Int := IntKind.i64.wrap (addU 0 b)
def rawR (s : ByteArray) : Rec := ⟨getS s 2 1, getS s 4 4, getS s 8 6, getS s 14 1, s.extract 16 (16 + min (getS s 3 1) 20).toNat⟩
def decE (s : ByteArray) : Int := if s.size = 40 then if getS s 36 4 = sumW (s.extract 0 36) then if Qm (rawR s) = 0 ∧ encR (rawR s) = s then 0 else 3 else 4 else 2
def decR (s : ByteArray) : Rec := if decE s = 0 then rawR s else default
def QbB (r : Rec) : Bool := decide (r.kind = 1 ∨ r.kind = 2)
def QbV (r : Rec) : Rec × Bool := if Qm r = 0 ∧ QbB r = true then ({ r with move := min (r.move + 1) 255 }, true) else (default, false)
def QaA (s : ByteArray) : Rec × Bool := if decE s = 0 ∧ QbB (decR s) = true then (decR s, true) else (default, false)
def QaN (l : List ByteArray) : Nat → Int
 | 0 => 1099511627776
 | k + 1 => min (QaN l k) (decR (l.getD k ByteArray.empty)).version
def Qbi (l : List ByteArray) : Nat → Int
 | 0 => 0
 | k + 1 => max (Qbi l k) (decR (l.getD k ByteArray.empty)).version
def Q8 (l : List ByteArray) : Nat → ByteArray
 | 0 => ByteArray.empty
 | k + 1 => Q8 l k ++ (l.getD k ByteArray.empty).extract 0 36
def blkE (s : ByteArray) : Int := if decE s = 0 then if QbB (decR s) = true then 0 else 3 else decE s
def QY (l : List ByteArray) : Nat → Int
 | 0 => 0
 | k + 1 => if QY l k = 0 then blkE (l.getD k ByteArray.empty) else QY l k
def QaF (l : List ByteArray) : Int := if l.length = 0 ∨ 64 < l.length then 19 else QY l l.length
def QU (l : List ByteArray) : Rec := if QaF l = 0 then ⟨3, l.length, Qbi l l.length, 0, putS (QaN l l.length) 6 ++ putS (sumW (Q8 l l.length)) 4⟩ else default
theorem Qwc {H : List O} {id e n t : Nat} {x : Bool} {g : Nat → Nat → C} {l : List Int} (hid : getL H id = some (.arr e 1 n g)) (ht : t = n) (hn : n = l.length) (hg : ∀ i, i < n → ∀ j, j < 1 → g i j = QaK .i64 l i j) : Fw H (.sl id 1 t t x) (Qh l) := by
 subst ht
 exact QvI hid rfl hn hg (fun _ _ => rfl)
theorem Qiw (a b : List Int) (z : Int) (ha : a.length ≤ 1000000) (hb : b.length ≤ 1000000) : PS 133 [.a [Qh a, Qh b], .c (.int .i64 z)] (.c (.bool (hasC a b z))) := by
 refine PSpec.rm ?_
 refine ov0 hΓ Tryz.func133 18 0 [.tmp 4] Tryz.ntmps133 Tryz.results133 ?_
 refine QuU QbK (QbD a b ha hb ) (Go0 ?_)
 refine Qvj rfl (WS.c (WC.bool ?_))
 rw [QxW, hasC_iff]
 simp
 grind
theorem Qju : HB 133 := hB Tryz.func133
theorem QdF (l : List Int) (i n : Int) (hl : l.length ≤ 1000000) (h0 : 0 ≤ i) (h1 : i < l.length) (hw : IntKind.i64.wrap (l.getD i.toNat default + n) = l.getD i.toNat default + n) : PS 261 [.c (Qh l), .c (.int .i64 i), .c (.int .i64 n)] (.c (Qh (QbR l i n))) := by
 have hi : i.toNat < l.length := by omega
 refine PSpec.rm ?_
 refine ov0 hΓ Tryz.func261 21 0 [.tmp 6] Tryz.ntmps261 Tryz.results261 ?_
 refine Frc.mk (.c (.int .i64 (l.getD i.toNat default))) rfl (Go0 ?_)
 refine Qwj (Qwc rfl rfl (by simp) ?_)
 intro a _ b hb
 refine (Qnd hi a b hb).trans ?_
 unfold QbR
 rw [hw]
theorem QdA : HB 261 := hB Tryz.func261
set_option maxHeartbeats 4000000 in
theorem Qge (a b : List Int) (o f : Ent) (had is : Bool) (ha : a.length ≤ 1000000) (hb : b.length ≤ 1000000) : PS 204 [.a [Qh a, Qh b], .a o.cells, .a f.cells, .c (.bool had), .c (.bool is)] (.t [.inr [Qh (Qar a b o.zone f.zone had is).1, Qh b], .inl (.bool (Qar a b o.zone f.zone had is).2)]) := by
 refine PSpec.rm ?_
 refine ov0 hΓ Tryz.func204 61 0 [.cell 10 34, .tmp 11] Tryz.ntmps204 Tryz.results204 ?_
 refine QuU QbK (QbD a b ha hb ) (Go0 ?_)
 refine CallG.auto Qju (fun _ => Qiw a b o.zone ha hb ) (Go0 ?_)
 refine CallG.auto Qju (fun _ => Qiw a b f.zone ha hb ) (Go0 ?_)
 refine Need.mk (fun h => by rw [h]; rfl) (Go0 ?_)
 by_cases c : Qr a b = true ∧ (had = true → hasC a b o.zone = true) ∧ (is = true → hasC a b f.zone = true)
 ·have c2 := countsOk_iff2.1 c.1
  refine Br.no (by cases had <;> cases is <;> simp_all) ?_
  refine Go0 ?_
  cases had <;> cases is
  ·refine Br.no rfl (Go0 ?_)
   refine Br.no rfl (Go0 ?_)
   refine QuU QbK (QbD a b ha hb ) (Go0 ?_)
   by_cases hv : Qr (Qc9 a o.zone f.zone false false) b = true
   ·refine Br.no (QxK not hv) (Go0 ?_)
    rw [show Qar a b o.zone f.zone false false = (Qc9 a o.zone f.zone false false, true) from Qxt ⟨c.1, c.2.1, c.2.2, hv⟩]
    exact QuV
   ·refine Br.yes (QxK not (Qq hv)) (Go0 ?_)
    rw [show Qar a b o.zone f.zone false false = (a, false) from Qxu (fun k => hv k.2.2.2)]
    exact QuV
  ·have c4 := hasC_iff.1 (c.2.2 rfl)
   have c5 := c2.2 f.zone.toNat om
   refine Br.no rfl (Go0 ?_)
   refine Br.yes rfl (Go0 ?_)
   refine QuU QdA (QdF a f.zone 1 ha c4.2.1 c4.2.2 (Qa _ om om) ) (Go0 ?_)
   refine QuU QbK (QbD (QbR a f.zone 1) b (by simpa using ha) hb ) (Go0 ?_)
   by_cases hv : Qr (Qc9 a o.zone f.zone false true) b = true
   ·refine Br.no (QxK not hv) (Go0 ?_)
    rw [show Qar a b o.zone f.zone false true = (Qc9 a o.zone f.zone false true, true) from Qxt ⟨c.1, c.2.1, c.2.2, hv⟩]
    exact QuV
   ·refine Br.yes (QxK not (Qq hv)) (Go0 ?_)
    rw [show Qar a b o.zone f.zone false true = (a, false) from Qxu (fun k => hv k.2.2.2)]
    exact QuV
  ·have c4 := hasC_iff.1 (c.2.1 rfl)
   have c5 := c2.2 o.zone.toNat om
   refine Br.yes rfl (Go0 ?_)
   refine QuU QdA (QdF a o.zone (-1) ha c4.2.1 c4.2.2 (Qa _ om om) ) (Go0 ?_)
   refine Br.no rfl (Go0 ?_)
   refine QuU QbK (QbD (QbR a o.zone (-1)) b (by simpa using ha) hb ) (Go0 ?_)
   by_cases hv : Qr (Qc9 a o.zone f.zone true false) b = true
   ·refine Br.no (QxK not hv) (Go0 ?_)
    rw [show Qar a b o.zone f.zone true false = (Qc9 a o.zone f.zone true false, true) from Qxt ⟨c.1, c.2.1, c.2.2, hv⟩]
    exact QuV
   ·refine Br.yes (QxK not (Qq hv)) (Go0 ?_)
    rw [show Qar a b o.zone f.zone true false = (a, false) from Qxu (fun k => hv k.2.2.2)]
    exact QuV
  ·have c4 := hasC_iff.1 (c.2.1 rfl)
   have c5 := c2.2 o.zone.toNat om
   have c6 := hasC_iff.1 (c.2.2 rfl)
   have c7 := c2.2 f.zone.toNat om
   have c8 := Qpg (n := -1) c4.2.1 c4.2.2 f.zone.toNat
   have c9 : -1 ≤ (QbR a o.zone (-1)).getD f.zone.toNat default ∧ (QbR a o.zone (-1)).getD f.zone.toNat default ≤ 1099511627776 := by
    rw [c8]; split <;> omega
   refine Br.yes rfl (Go0 ?_)
   refine QuU QdA (QdF a o.zone (-1) ha c4.2.1 c4.2.2 (Qa _ om om) ) (Go0 ?_)
   refine Br.yes rfl (Go0 ?_)
   refine QuU QdA (QdF (QbR a o.zone (-1)) f.zone 1 (by simpa using ha) c6.2.1 (by simpa using c6.2.2) (Qa _ om om) ) (Go0 ?_)
   refine QuU QbK (QbD (QbR (QbR a o.zone (-1)) f.zone 1) b (by simpa using ha) hb ) (Go0 ?_)
   by_cases hv : Qr (Qc9 a o.zone f.zone true true) b = true
   ·refine Br.no (QxK not hv) (Go0 ?_)
    rw [show Qar a b o.zone f.zone true true = (Qc9 a o.zone f.zone true true, true) from Qxt ⟨c.1, c.2.1, c.2.2, hv⟩]
    exact QuV
   ·refine Br.yes (QxK not (Qq hv)) (Go0 ?_)
    rw [show Qar a b o.zone f.zone true true = (a, false) from Qxu (fun k => hv k.2.2.2)]
    exact QuV
 ·refine Br.yes (by
   refine QxC fun e => c ?_
   cases had <;> cases is <;> simp_all) ?_
  refine Go0 ?_
  rw [show Qar a b o.zone f.zone had is = (a, false) from Qxu (fun k => c ⟨k.1, k.2.1, k.2.2.1⟩)]
  exact QuV
theorem Qgd : HB 204 := hB Tryz.func204
end Go.Proofs
end
