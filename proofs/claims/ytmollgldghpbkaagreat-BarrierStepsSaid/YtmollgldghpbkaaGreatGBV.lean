/- Contracts, lemmas; no condition. -/
import Derived.Test.YtmollgldghpbkaaGreatGAV
import Derived.Test.YtmollgldghpbkaaGreatCtHV
import Derived.Test.YtmollgldghpbkaaGreatCtGV
import Derived.Test.YtmollgldghpbkaaGreatS22V
import Derived.Test.YtmollgldghpbkaaGreatStAV
set_option linter.all false
section
open Go Go.Am
namespace Go.Proofs
set_option maxRecDepth 20000
theorem Qew (c : Conf) (r : Req) : PS 88 [.a c.cells, .a [.int .i64 r.kind, .int .i64 r.block, .str r.data]] (.c (.int .i64 (cmdE c r))) := by
 refine PSpec.rm ?_
 refine ov0 hΓ Tryz.func88 56 0 [.tmp 4] Tryz.ntmps88 Tryz.results88 ?_
 have hE : (r.data = ByteArray.empty) ↔ r.data.size = 0 := ⟨fun h => by rw [h]; rfl, QuM⟩
 by_cases h1 : r.kind < 1 ∨ 4 < r.kind
 ·refine Br.yes (by simp; omega) (Go0 ?_)
  rw [show cmdE c r = 3 from if_pos h1]
  exact RM.i0
 ·refine Br.no (by simp; omega) (Go0 ?_)
  by_cases h2 : r.kind = 4 ∧ r.block ≠ 0 ∨ r.kind ≠ 4 ∧ (r.block < 0 ∨ c.blocks ≤ r.block)
  ·have e : cmdE c r = 1 := by unfold cmdE; rw [if_neg h1, if_pos h2]
   by_cases h3 : r.kind = 4 ∧ r.block ≠ 0
   ·refine Br.yes (by simp; omega) (Go0 ?_)
    refine Br.yes (by simp; omega) (Go0 ?_)
    rw [e]
    exact RM.i0
   ·refine Br.no (by simp; omega) (Go0 ?_)
    refine Br.yes (by simp; omega) (Go0 ?_)
    rw [e]
    exact RM.i0
  ·refine Br.no (by simp; omega) (Go0 ?_)
   refine Br.no (by simp; omega) (Go0 ?_)
   by_cases h3 : r.kind = 2 ∧ r.data.size ≠ 16 ∨ r.kind ≠ 2 ∧ r.data.size ≠ 0
   ·have e : cmdE c r = 2 := by unfold cmdE; rw [if_neg h1, if_neg h2, if_pos h3]
    by_cases h4 : r.kind = 2 ∧ r.data.size ≠ 16
    ·refine Br.yes (by simp; omega) (Go0 ?_)
     refine Br.yes (by simp; omega) (Go0 ?_)
     rw [e]
     exact RM.i0
    ·refine Br.no (by simp; omega) (Go0 ?_)
     refine Br.yes (by simp; rw [show (ByteArray.mk #[]) = ByteArray.empty from rfl, hE]; omega) (Go0 ?_)
     rw [e]
     exact RM.i0
   ·have e : cmdE c r = 0 := by unfold cmdE; rw [if_neg h1, if_neg h2, if_neg h3]
    refine Br.no (by simp; omega) (Go0 ?_)
    refine Br.no (by simp; rw [show (ByteArray.mk #[]) = ByteArray.empty from rfl, hE]; omega) (Go0 ?_)
    rw [e]
    exact RM.i0
theorem Qep : HB 88 := hB Tryz.func88
theorem Qdo (r : Rng) (hr : r.items.length ≤ 1000000) : PS 117 [.a r.cells] (.c (.bool (QX r))) := by
 have no : ¬ QX r = true → QX r = false := Qg
 refine PSpec.rm ?_
 refine ov0 hΓ Tryz.func117 54 0 [.tmp 2] Tryz.ntmps117 Tryz.results117 ?_
 by_cases h0 : 1 ≤ r.depth ∧ r.depth ≤ 8 ∧ (r.items.length : Int) ≤ r.depth
 ·refine Br.no (Bool.eq_false_iff.2 fun ebye => by simp [-List.getD_eq_getElem?_getD, -Int.default_eq_zero, h0.1,h0.2.1,h0.2.2] at ebye <;> grind) ?_; conv=>whnf
  refine Go0 ?_
  refine Lp.mkK hΓ (ι := Nat) [1] (fun i => [(3, .c (.int .i64 i))]) (fun _ => [.vr r.cells]) (fun k => k ≤ r.items.length ∧ ∀ i, i < k → 0 ≤ (r.items.getD i default).serial ∧ (0 < i → (r.items.getD (i - 1) default).serial < (r.items.getD i default).serial)) (fun i => r.items.length - i) 0 ⟨Nat.zero_le _, fun j hj => absurd hj (Nat.not_lt_zero _)⟩ ?_ ?_
  ·exact Mv.k0
  ·rintro k ⟨hk, hk2⟩
   refine Go1 fun _h=>?_
   refine Br.of (fun h1=>Go0 ?_) (fun h1=>Go0 ?_)
   ·refine Dr.mk hΓ hMix (by kernel_rfl) (Go0 ?_)
    have w0 := Qa (↑k + 1) om om
    rcases Nat.eq_zero_or_pos k with k0 | k0
    ·subst k0
     refine Go0 ?_
     by_cases d : 0 ≤ (r.items.getD 0 default).serial
     ·refine Br.no (Bool.eq_false_iff.2 fun ebye => by simp [-List.getD_eq_getElem?_getD, -Int.default_eq_zero, d] at ebye <;> grind) ?_; conv=>whnf
      refine Go0 ?_
      refine ⟨0 + 1, ⟨om, QD hk2 ⟨d, fun z => absurd z (Nat.lt_irrefl 0)⟩⟩, om, ?_⟩
      exact Mv.k0
     ·refine Br.yes (Decidable.byContradiction fun ebye => d (by simp [-List.getD_eq_getElem?_getD, -Int.default_eq_zero] at ebye <;> grind)) ?_; conv=>whnf
      refine Go0 ?_
      rw [no (fun z => d ((ringOk_R.1 z).2 0 om).1)]
      exact RM.i0
    ·have w2 := Qa ((k : Int) - 1) om om
     have w3 : ((k : Int) - 1).toNat = k - 1 := by omega
     rw [w2]
     refine Go0 ?_
     rw [w3]
     by_cases d : 0 ≤ (r.items.getD k default).serial ∧ (r.items.getD (k - 1) default).serial < (r.items.getD k default).serial
     ·refine Br.no (Bool.eq_false_iff.2 fun ebye => by simp [-List.getD_eq_getElem?_getD, -Int.default_eq_zero, d.1,d.2] at ebye <;> grind) ?_; conv=>whnf
      refine Go0 ?_
      refine ⟨k + 1, ⟨om, QD hk2 ⟨d.1, fun _ => d.2⟩⟩, om, ?_⟩
      exact Mv.k0
     ·refine Br.yes (Decidable.byContradiction fun ebye => d (by simp [-List.getD_eq_getElem?_getD, -Int.default_eq_zero] at ebye <;> grind)) ?_; conv=>whnf
      refine Go0 ?_
      rw [no (fun z => d (by have := (ringOk_R.1 z).2 k om; exact ⟨this.1, this.2 k0⟩))]
      exact RM.i0
   ·rw [ringOk_R.2 ⟨h0, fun i hi => hk2 i om⟩]
    exact RM.i0
 ·refine Br.yes (Decidable.byContradiction fun ebye => h0 (by simp [-List.getD_eq_getElem?_getD, -Int.default_eq_zero] at ebye <;> grind)) ?_; conv=>whnf
  refine Go0 ?_
  rw [no (fun z => h0 (ringOk_R.1 z).1)]
  exact RM.i0
theorem Qdw : HB 117 := hB Tryz.func117
set_option maxHeartbeats 2000000 in
theorem QrM (r : Rng) (x : Req) (hr : r.items.length ≤ 1000000) : PS 85 [.a r.cells, .a x.cells] (.t [.inr (QU r x).1.cells, .inl (.int .i64 (QU r x).2)]) := by
 refine PSpec.rm ?_
 refine ov0 hΓ Tryz.func85 53 0 [.cell 4 98, .tmp 5] Tryz.ntmps85 Tryz.results85 ?_
 refine CallN.pureA Qdw (Qdo r hr ) (Go0 ?_)
 by_cases h0 : QX r = true
 ·refine Br.no (by rw [h0]; rfl) (Go1 fun _h=>?_)
  by_cases h1 : (r.items.length : Int) = r.depth
  ·refine Br.yes (by simpa using h1) (Go0 ?_)
   rw [show QU r x = (r, 13) by unfold QU; rw [if_pos h0, if_pos h1]]
   exact RM.i0
  ·refine Br.no (by simpa using h1) (Go0 ?_)
   refine Dr.mk hΓ hMix (by kernel_rfl) (Go0 ?_)
   rcases Nat.eq_zero_or_pos r.items.length with k0 | k0
   ·have z0 : ¬ (0 : Int) < (r.items.length : Int) := by omega
    refine Go0 ?_
    by_cases d : 0 ≤ x.serial
    ·refine Br.no (Bool.eq_false_iff.2 fun ebye => by simp [-List.getD_eq_getElem?_getD, -Int.default_eq_zero, d,k0] at ebye <;> grind) ?_; conv=>whnf
     refine Go0 ?_
     refine Dr.mkE hΓ hMix [4294967296] [(4, 3), (5, 3)] (by kernel_rfl) (Go0 ?_)
     rw [show QU r x = (⟨r.depth, r.items ++ [x]⟩, 0) by unfold QU; rw [if_pos h0, if_neg h1, if_neg om]]
     refine RM.allT (FwT.consL (FwL.cons (Fw.same rfl) (FwL.cons (Fw.slP rfl rfl (by simp) (fun i hi j hj => Qko (x := x) (by simp) om hj) (fun i j => Qct _ _)) FwL.nil)) (FwT.consC (Fw.same rfl) FwT.nil))
    ·refine Br.yes (by simp; omega) (Go0 ?_)
     rw [show QU r x = (r, 17) by unfold QU; rw [if_pos h0, if_neg h1, if_pos (Or.inl om)]]
     exact RM.i0
   ·have w2 := Qa ((r.items.length : Int) - 1) om om
    have w3 : ((r.items.length : Int) - 1).toNat = r.items.length - 1 := by omega
    rw [w2]
    refine Go0 ?_
    rw [w3]
    by_cases d : 0 ≤ x.serial ∧ (r.items.getD (r.items.length - 1) default).serial < x.serial
    ·refine Br.no (Bool.eq_false_iff.2 fun ebye => by simp [-List.getD_eq_getElem?_getD, -Int.default_eq_zero, d.1,d.2] at ebye <;> grind) ?_; conv=>whnf
     refine Go0 ?_
     refine Dr.mkE hΓ hMix [4294967296] [(4, 3), (5, 3)] (by kernel_rfl) (Go0 ?_)
     rw [show QU r x = (⟨r.depth, r.items ++ [x]⟩, 0) by unfold QU; rw [if_pos h0, if_neg h1, if_neg om]]
     refine RM.allT (FwT.consL (FwL.cons (Fw.same rfl) (FwL.cons (Fw.slP rfl rfl (by simp) (fun i hi j hj => Qko (x := x) (by simp) om hj) (fun i j => Qct _ _)) FwL.nil)) (FwT.consC (Fw.same rfl) FwT.nil))
    ·refine Br.yes (Decidable.byContradiction fun ebye => d (by simp [-List.getD_eq_getElem?_getD, -Int.default_eq_zero] at ebye <;> grind)) ?_; conv=>whnf
     refine Go0 ?_
     rw [show QU r x = (r, 17) by unfold QU; rw [if_pos h0, if_neg h1, if_pos om]]
     exact RM.i0
 ·refine Br.yes (by rw [Qg h0]; rfl) (Go0 ?_)
  rw [show QU r x = (r, 6) from if_neg h0]
  exact RM.i0
theorem Qrw : HB 85 := hB Tryz.func85
theorem Qo2 (r : Rng) (hr : r.items.length ≤ 1000000) : PS 87 [.a r.cells] (.t [.inr (Qah r).1.cells, .inr (Qah r).2.1.cells, .inl (.bool (Qah r).2.2)]) := by
 refine PSpec.rm ?_
 refine ov0 hΓ Tryz.func87 29 0 [.cell 2 98, .cell 3 66, .tmp 4] Tryz.ntmps87 Tryz.results87 ?_
 refine CallN.pureA Qdw (Qdo r hr ) (Go0 ?_)
 by_cases h : QX r = true ∧ 0 < r.items.length
 ·refine Br.no (Bool.eq_false_iff.2 fun ebye => by simp [-List.getD_eq_getElem?_getD, -Int.default_eq_zero, h.1] at ebye <;> grind) ?_; conv=>whnf
  refine Go0 ?_
  refine Dr.mkE hΓ hMix [] [(1, 2)] (by kernel_rfl) (Go0 ?_)
  rw [show Qah r = (⟨r.depth, r.items.drop 1⟩, r.items.getD 0 default, true) from if_pos h]
  have e : (r.items.drop 1).length = r.items.length - 1 := by simp
  refine RM.allT (FwT.consL (FwL.cons (Fw.same rfl) (FwL.cons (Fw.slP rfl rfl (by simp) (fun i hi j hj => (show reqG r.items (1 + i) j = reqG (r.items.drop 1) i j from rowG_drop.symm)) (fun i j => Qct _ _)) FwL.nil)) (FwT.consL (FwL.cons (Fw.same rfl) (FwL.cons (Fw.same rfl) (FwL.cons (Fw.same rfl) (FwL.cons (Fw.same rfl) FwL.nil)))) (FwT.consC (Fw.same rfl) FwT.nil)))
 ·refine Br.yes (Decidable.byContradiction fun ebye => h (by simp [-List.getD_eq_getElem?_getD, -Int.default_eq_zero] at ebye <;> grind)) ?_; conv=>whnf
  refine Go0 ?_
  rw [show Qah r = (r, default, false) from if_neg h]
  exact RM.i0
theorem Qoo : HB 87 := hB Tryz.func87
theorem Qrn (s : St) (hs : s.small) (z : Int) : PS 171 [.a s.cells, .c (.int .i64 z)] (.c (.bool (canV s z))) := by
 have no : ¬ canV s z = true → canV s z = false := Qg
 refine PSpec.rm ?_
 refine ov0 hΓ Tryz.func171 85 0 [.tmp 4] Tryz.ntmps171 Tryz.results171 ?_
 refine CallN.pureA Qdv (Qdz s.cfg z ) (Go0 ?_)
 by_cases h0 : QO s.cfg z = true ∧ z < s.dev.zones.length ∧ z < s.live.length ∧ z < s.pend.length
 ·have h1 := Qbr h0.1
  have hr := confR_iff.1 h1.2.2
  have h2 := h0.2.1
  have h3 := h0.2.2.1
  have h4 := h0.2.2.2
  have w0 := Qa (s.cfg.size - 1) om om
  refine Br.no (Bool.eq_false_iff.2 fun ebye => by simp [-List.getD_eq_getElem?_getD, -Int.default_eq_zero, h0.1,h2,h3,h4] at ebye <;> grind) ?_; conv=>whnf
  refine Go0 ?_
  refine Dr.mk hΓ hMix (by kernel_rfl) (Go0 ?_)
  refine CallP.autoG Qkw (fun _ => QkN s.glob s.pins s.rets z hs.rets ) (Go0 ?_)
  refine RM.immW rfl (WS.c (WC.bool ?_))
  rw [Bool.eq_iff_iff, canV_iff, w0]
  simp [-List.getD_eq_getElem?_getD, -Int.default_eq_zero, h0.1, h2, h3, h4]
  grind
 ·refine Br.yes (Decidable.byContradiction fun ebye => h0 (by simp [-List.getD_eq_getElem?_getD, -Int.default_eq_zero] at ebye <;> grind)) ?_; conv=>whnf
  refine Go0 ?_
  rw [no (fun q => h0 (by have := canV_iff.1 q; exact ⟨this.1, this.2.1⟩))]
  exact RM.i0
theorem QrJ : HB 171 := hB Tryz.func171
theorem Qrp {s : St} {k : Nat} (h : canV s k = true ∧ ((QT s k).2 = false ∨ s.live.getD k default < s.live.getD (QT s k).1 default)) : QT s (k + 1) = (k, true) := if_pos h
theorem Qoz {s : St} {k : Nat} (h : ¬ (canV s k = true ∧ ((QT s k).2 = false ∨ s.live.getD k default < s.live.getD (QT s k).1 default))) : QT s (k + 1) = QT s k := if_neg h
set_option maxHeartbeats 1000000 in
theorem QlH (s : St) (hs : s.small) : PS 99 [.a s.cells] (.t [.inl (.int .i64 (QQ s).1), .inl (.bool (QQ s).2)]) := by
 refine PSpec.rm ?_
 refine ov0 hΓ Tryz.func99 40 0 [.tmp 2, .tmp 3] Tryz.ntmps99 Tryz.results99 ?_
 have hz := hs.dev.z
 refine Lp.mkK hΓ (ι := Nat) [1] (fun i => [(6, .c (.int .i64 i)), (4, .c (.int .i64 (QT s i).1)), (5, .c (.bool (QT s i).2))]) (fun _ => [.vr s.cells]) (fun k => k ≤ s.dev.zones.length) (fun i => s.dev.zones.length - i) 0 (Nat.zero_le _) ?_ ?_
 ·exact Mv.k0
 ·intro k hk
  refine Go1 fun _h=>?_
  refine Br.of (fun h1=>?_) (fun h1=>?_)<;>(try simp only [Int.toNat_natCast] at h1)<;>refine Go0 ?_
  ·have w0 := Qa (↑k + 1) om om
   have q1 : canV s k = true → (k : Int) < s.live.length := fun h => (canV_iff.1 h).2.1.2.1
   have q2 : (QT s k).2 = true → ((QT s k).1 : Int) < s.live.length := fun h => (canV_iff.1 (Qhb h).2).2.1.2.1
   refine Dr.mk hΓ hMix (by kernel_rfl) (Go0 ?_)
   refine CallP.auto QrJ (Qrn s hs k ) (Go0 ?_)
   by_cases d : canV s k = true ∧ ((QT s k).2 = false ∨ s.live.getD k default < s.live.getD (QT s k).1 default)
   ·refine Br.yes (by
     rcases d with ⟨d1, d2 | d2⟩ <;> simp [-List.getD_eq_getElem?_getD, -Int.default_eq_zero, d1, d2]) ?_
    refine Go0 ?_
    refine ⟨k + 1, om, om, ?_⟩
    rw [Qrp d]
    exact Mv.k0
   ·refine Br.no (Bool.eq_false_iff.2 fun e => d (by
     simp [-List.getD_eq_getElem?_getD, -Int.default_eq_zero] at e
     exact ⟨e.1, e.2.imp_left (by intro h; simpa using h)⟩)) ?_
    refine Go0 ?_
    refine ⟨k + 1, om, om, ?_⟩
    rw [Qoz d]
    exact Mv.k0
  ·have : k = s.dev.zones.length := by omega
   subst this
   exact RM.i0
theorem QlQ : HB 99 := hB Tryz.func99
theorem QgS (c : Conf) (w : Wrk) : PS 118 [.a c.cells, .a w.cells] (.c (.bool (Qas c w))) := by
 refine PSpec.rm ?_
 refine ov0 hΓ Tryz.func118 46 0 [.tmp 4] Tryz.ntmps118 Tryz.results118 ?_
 by_cases h0 : w.state = 0
 ·refine Br.yes (by simpa using h0) (Go0 ?_)
  rw [show Qas c w = true from decide_eq_true (Or.inl h0)]
  exact RM.i0
 ·refine Br.no (by simpa using h0) (Go0 ?_)
  refine CallN.pureA Qep (Qew c w.req ) (Go0 ?_)
  by_cases h1 : cmdE c w.req = 0
  ·refine Br.no (by simpa using h1) (Go0 ?_)
   have hk : 1 ≤ w.req.kind ∧ w.req.kind ≤ 4 := by
    unfold cmdE at h1
    split at h1
    ·cases h1
    ·omega
   refine Br.of (fun h2=>?_) (fun h2=>?_)<;>(try simp only [Int.toNat_natCast] at h2)<;>refine Go0 ?_
   ·refine RM.immW rfl (WS.c (WC.bool ?_))
    unfold Qas
    rw [Bool.eq_iff_iff, decide_eq_true_eq]
    simp
    omega
   ·refine Br.of (fun h3=>?_) (fun h3=>?_)<;>(try simp only [Int.toNat_natCast] at h3)<;>refine Go0 ?_
    ·refine RM.immW rfl (WS.c (WC.bool ?_))
     unfold Qas
     rw [Bool.eq_iff_iff, decide_eq_true_eq]
     simp
     omega
    ·refine RM.immW rfl (WS.c (WC.bool ?_))
     unfold Qas
     rw [Bool.eq_iff_iff, decide_eq_true_eq]
     simp
     omega
  ·refine Br.yes (by simpa using h1) (Go0 ?_)
   rw [show Qas c w = false from decide_eq_false (fun q => by rcases q with q | q; exact h0 q; exact h1 q.1)]
   exact RM.i0
theorem QgQ : HB 118 := hB Tryz.func118
structure Ser (s : St) : Prop where
 evs : ∀ i, i < s.evs.length → (s.evs.getD i default).serial < s.serial
 items : ∀ i, i < s.rings.length → ∀ k, k < (s.rings.getD i default).items.length → ((s.rings.getD i default).items.getD k default).serial < s.serial
 works : ∀ i, i < s.rings.length → (s.works.getD i default).state = 0 ∨ (s.works.getD i default).req.serial < s.serial
 rng : 0 ≤ s.serial ∧ s.serial ≤ 1099511627776
instance (s : St) : Decidable (Ser s) := decidable_of_iff ((∀ i, i < s.evs.length → (s.evs.getD i default).serial < s.serial) ∧ (∀ i, i < s.rings.length → ∀ k, k < (s.rings.getD i default).items.length → ((s.rings.getD i default).items.getD k default).serial < s.serial) ∧ (∀ i, i < s.rings.length → (s.works.getD i default).state = 0 ∨ (s.works.getD i default).req.serial < s.serial) ∧ 0 ≤ s.serial ∧ s.serial ≤ 1099511627776) ⟨fun ⟨a, b, c, d⟩ => ⟨a, b, c, d⟩, fun h => ⟨h.evs, h.items, h.works, h.rng⟩⟩
set_option maxHeartbeats 2000000 in
theorem QfT (s : St) (hs : s.small) (hw : s.rings.length ≤ s.works.length) : PS 119 [.a s.cells] (.c (.bool (decide (Ser s)))) := by
 have he := hs.evs
 have hr := hs.rings
 refine PSpec.rm ?_
 refine ov0 hΓ Tryz.func119 80 0 [.tmp 2] Tryz.ntmps119 Tryz.results119 ?_
 refine Lp.mkK hΓ (ι := Nat) [1] (fun i => [(3, .c (.int .i64 i))]) (fun _ => [.vr s.cells]) (fun k => k ≤ s.evs.length ∧ ∀ i, i < k → (s.evs.getD i default).serial < s.serial) (fun i => s.evs.length - i) 0 ⟨Nat.zero_le _, fun j hj => absurd hj (Nat.not_lt_zero _)⟩ ?_ ?_
 ·exact Mv.k0
 ·rintro k ⟨hk, hk2⟩
  refine Go1 fun _h=>?_
  refine Br.of (fun h1=>?_) (fun h1=>?_)<;>(try simp only [Int.toNat_natCast] at h1)<;>refine Go0 ?_
  ·have w0 := Qa (↑k + 1) om om
   refine Dr.mk hΓ hMix (by kernel_rfl) (Go0 ?_)
   refine Br.of (fun h2=>?_) (fun h2=>?_)<;>(try simp only [Int.toNat_natCast] at h2)<;>refine Go0 ?_
   ·rw [decide_eq_false (fun z : Ser s => by have := z.evs k om; omega)]
    exact RM.i0
   ·refine ⟨k + 1, ⟨om, QD hk2 om⟩, om, ?_⟩
    exact Mv.k0
  ·have hev : ∀ i, i < s.evs.length → (s.evs.getD i default).serial < s.serial := fun i hi => hk2 i om
   refine Lp.mkK hΓ (ι := Nat) [1] (fun i => [(4, .c (.int .i64 i))]) (fun _ => [.vr s.cells]) (fun k => k ≤ s.rings.length ∧ ∀ i, i < k → (∀ j, j < (s.rings.getD i default).items.length → ((s.rings.getD i default).items.getD j default).serial < s.serial) ∧ ((s.works.getD i default).state = 0 ∨ (s.works.getD i default).req.serial < s.serial)) (fun i => s.rings.length - i) 0 ⟨Nat.zero_le _, fun j hj => absurd hj (Nat.not_lt_zero _)⟩ ?_ ?_
   ·exact Mv.k0
   ·rintro n ⟨hn, hn2⟩
    refine Go1 fun _h=>?_
    refine Br.of (fun h3=>?_) (fun h3=>?_)<;>(try simp only [Int.toNat_natCast] at h3)<;>refine Go0 ?_
    ·have hi := hs.items n
     refine Lp.mkK hΓ (ι := Nat) [1, 4] (fun i => [(5, .c (.int .i64 i))]) (fun _ => [.vr s.cells]) (fun k => k ≤ (s.rings.getD n default).items.length ∧ ∀ i, i < k → ((s.rings.getD n default).items.getD i default).serial < s.serial) (fun i => (s.rings.getD n default).items.length - i) 0 ⟨Nat.zero_le _, fun j hj => absurd hj (Nat.not_lt_zero _)⟩ ?_ ?_
     ·exact Mv.k0
     ·rintro m ⟨hm, hm2⟩
      refine Go1 fun _h=>?_
      refine Br.of (fun h4=>?_) (fun h4=>?_)<;>(try simp only [Int.toNat_natCast] at h4)<;>refine Go0 ?_
      ·have w0 := Qa (↑m + 1) om om
       refine Dr.mk hΓ hMix (by kernel_rfl) (Go0 ?_)
       refine Br.of (fun h5=>?_) (fun h5=>?_)<;>(try simp only [Int.toNat_natCast] at h5)<;>refine Go0 ?_
       ·rw [decide_eq_false (fun z : Ser s => by have := z.items n om m om; omega)]
        exact RM.i0
       ·refine ⟨m + 1, ⟨om, QD hm2 om⟩, om, ?_⟩
        exact Mv.k0
      ·have w0 := Qa (↑n + 1) om om
       refine Dr.mk hΓ hMix (by kernel_rfl) (Go0 ?_)
       by_cases d : (s.works.getD n default).state = 0 ∨ (s.works.getD n default).req.serial < s.serial
       ·refine Br.no (Bool.eq_false_iff.2 fun ebye => by simp [-List.getD_eq_getElem?_getD, -Int.default_eq_zero, d] at ebye <;> grind) ?_; conv=>whnf
        refine Go0 ?_
        refine ⟨n + 1, ⟨om, QD hn2 ⟨fun j hj => hm2 j om, d⟩⟩, om, ?_⟩
        exact Mv.k0
       ·refine Br.yes (Decidable.byContradiction fun ebye => d (by simp [-List.getD_eq_getElem?_getD, -Int.default_eq_zero] at ebye <;> grind)) ?_; conv=>whnf
        refine Go0 ?_
        rw [decide_eq_false (fun z : Ser s => d (z.works n om))]
        exact RM.i0
    ·refine RM.immW rfl (WS.c (WC.bool ?_))
     rw [Bool.eq_iff_iff, decide_eq_true_eq]
     simp
     exact ⟨fun h => ⟨hev, fun i hi => (hn2 i om).1, fun i hi => (hn2 i om).2, h⟩, fun h => h.rng⟩
theorem Qgb : HB 119 := hB Tryz.func119
theorem QfK {m : List (List Ent)} (h : Qu m = true) (n : Int) : QaE m n = true ↔ (0 < (allM m).length → ((allM m).getD ((allM m).length - 1) default).block < n) := by
 rw [blocksIn_iff]
 have ha := (QbO h).1
 constructor
 ·intro hb h0
  rw [Qp _ _ (show (allM m).length - 1 < (allM m).length by omega)]
  obtain ⟨i, hi, he⟩ := (QiE h _).1 (List.getElem_mem (l := allM m) (n := (allM m).length - 1) om)
  exact hb i hi _ he
 ·intro hl i hi e he
  have hm := (QiE h e).2 ⟨i, hi, he⟩
  obtain ⟨k, hk, rfl⟩ := List.getElem_of_mem hm
  have h1 := hl om
  by_cases q : k = (allM m).length - 1
  ·rw [← q, Qp _ _ hk] at h1
   exact h1
  ·have := ha.get (i := k) (j := (allM m).length - 1) om om
   rw [Qp _ _ hk] at this
   omega
theorem Quo {m : List (List Ent)} (h : Qu m = true) : allS m = allM m := if_pos h
set_option maxHeartbeats 4000000 in
theorem Qds (s : St) (hs : s.small) : PS 48 [.a s.cells] (.c (.bool (Qz s))) := by
 have no : ¬ Qz s = true → Qz s = false := Qg
 have vP : Qz s = true → Val s := validS_V.1
 refine PSpec.rm ?_
 refine ov0 hΓ Tryz.func48 175 0 [.tmp 2] Tryz.ntmps48 Tryz.results48 ?_
 refine CallN.pureA Qcs (Qcq s.cfg ) (Go0 ?_)
 refine CallG.auto Qb2 (fun _ => QbZ s.dev ) (Go0 ?_)
 by_cases h1 : Qw s.cfg = 0 ∧ check s.dev = 0 ∧ (s.dev.zones.length : Int) = s.cfg.zones ∧ s.dev.size = s.cfg.size
 ·refine Br.no (Bool.eq_false_iff.2 fun ebye => by simp [-List.getD_eq_getElem?_getD, -Int.default_eq_zero, h1.1,h1.2.1,h1.2.2.1,h1.2.2.2] at ebye <;> grind) ?_; conv=>whnf
  refine Go0 ?_
  refine CallN.pureA Qc9 (Qc4 s.map hs.map hs.shard ) (Go0 ?_)
  refine CallG.auto Qbx (fun _ => Qbs s.live s.pend hs.live hs.pend ) (Go0 ?_)
  by_cases h2 : Qu s.map = true ∧ (s.map.length : Int) = s.cfg.shards ∧ QC s.live s.pend = true ∧ (s.live.length : Int) = s.cfg.zones
  ·refine Br.no (Bool.eq_false_iff.2 fun ebye => by simp [-List.getD_eq_getElem?_getD, -Int.default_eq_zero, h2.1,h2.2.1,h2.2.2.1,h2.2.2.2] at ebye <;> grind) ?_; conv=>whnf
   refine Go0 ?_
   refine CallN.pureA Qeg (Qd7 s.map hs.shard hs.map ) (Go0 ?_)
   rw [Quo h2.1]
   have hl : (allM s.map).length ≤ 8000000 := by
    have e1 := Qcg (m := s.map) (k := s.map.length) (Nat.le_refl _) hs.shard
    rw [Qex] at e1
    have e2 := Qbp h2.1
    rw [(QbO h2.1).2.length_eq]
    omega
   have hp4 : s.cfg.queues = s.cfg.queues := rfl
   by_cases h3 : QaE s.map s.cfg.blocks = true
   ·have h3' := (QfK h2.1 s.cfg.blocks).1 h3
    refine Dr.mk hΓ hMix (by kernel_rfl) ?_; conv=>whnf
    rcases Nat.eq_zero_or_pos (allM s.map).length with k0 | k0
    ·have z0 : ¬ (0 : Int) < ((allM s.map).length : Int) := by omega
     refine Go0 ?_
     refine Br.no (by simp [k0]) (Go0 ?_)
     refine CallN.pureA Qe7 (Qe4 s.owner hs.owner ) (Go0 ?_)
     refine CallG.auto QcJ (fun _ => QcL s.glob s.pins s.rets hs.pins hs.rets ) (Go0 ?_)
     refine CallG.auto Qha (fun _ => Qh1 s.cfg s.free s.host s.lane hs.free ) (Go0 ?_)
     by_cases h4 : Qaj s.owner = true ∧ (s.owner.length : Int) = s.cfg.shards ∧ QA s.glob s.pins s.rets = true ∧ (s.pins.length : Int) = s.cfg.queues ∧ poolOk s.cfg s.free s.host s.lane = true
     ·refine Br.no (Bool.eq_false_iff.2 fun ebye => by simp [-List.getD_eq_getElem?_getD, -Int.default_eq_zero, h4.1,h4.2.1,h4.2.2.1,h4.2.2.2.1,h4.2.2.2.2] at ebye <;> grind) ?_; conv=>whnf
      refine Go1 fun _h=>?_
      by_cases h5 : (s.rings.length : Int) = s.cfg.queues ∧ (s.works.length : Int) = s.cfg.queues ∧ 1 ≤ s.next ∧ s.next ≤ 1099511627776
      ·refine Br.no (Bool.eq_false_iff.2 fun ebye => by simp [-List.getD_eq_getElem?_getD, -Int.default_eq_zero, h5.1,h5.2.1,h5.2.2.1,h5.2.2.2] at ebye <;> grind) ?_; conv=>whnf
       refine Go0 ?_
       have h51 := h5.1
       have h52 := h5.2.1
       refine Lp.mkK hΓ (ι := Nat) [1, 3] (fun i => [(5, .c (.int .i64 i))]) (fun _ => [.vr s.cells, .vr s.cfg.cells]) (fun k => k ≤ s.rings.length ∧ ∀ i, i < k → QX (s.rings.getD i default) = true ∧ (s.rings.getD i default).depth = s.cfg.depth ∧ Qas s.cfg (s.works.getD i default) = true) (fun i => s.rings.length - i) 0 ⟨Nat.zero_le _, fun j hj => absurd hj (Nat.not_lt_zero _)⟩ ?_ ?_
       ·exact Mv.k0
       ·rintro k ⟨hk, hk2⟩
        refine Go0 ?_
        refine Br.of (fun h6=>Go0 ?_) (fun h6=>Go0 ?_)
        ·have w0 := Qa (↑k + 1) om om
         have hr := hs.rings
         have kr : k < s.rings.length := by omega
         have kw : k < s.works.length := by omega
         refine Dr.mk hΓ hMix (by kernel_rfl) (Go0 ?_)
         refine CallP.auto Qdw (Qdo (s.rings.getD k default) (hs.items k) ) (Go0 ?_)
         refine CallP.autoG QgQ (fun _ => QgS s.cfg (s.works.getD k default) ) (Go0 ?_)
         by_cases d : QX (s.rings.getD k default) = true ∧ (s.rings.getD k default).depth = s.cfg.depth ∧ Qas s.cfg (s.works.getD k default) = true
         ·refine Br.no (Bool.eq_false_iff.2 fun ebye => by simp [-List.getD_eq_getElem?_getD, -Int.default_eq_zero, d.1,d.2.1,d.2.2] at ebye <;> grind) ?_; conv=>whnf
          refine Go0 ?_
          refine ⟨k + 1, ⟨om, QD hk2 d⟩, om, ?_⟩
          exact Mv.k0
         ·refine Br.yes (Decidable.byContradiction fun ebye => d (by simp [-List.getD_eq_getElem?_getD, -Int.default_eq_zero] at ebye <;> grind)) ?_; conv=>whnf
          refine Go0 ?_
          rw [no (fun q => d (by have := (vP q).queues k om; exact ⟨this.ring, this.depth, this.work⟩))]
          exact RM.i0
        ·have : k = s.rings.length := by omega
         subst this
         refine CallN.pureA Qgb (QfT s hs om ) (Go0 ?_)
         refine RM.immW rfl (WS.c (WC.bool ?_))
         rw [Bool.eq_iff_iff, decide_eq_true_eq, validS_V]
         constructor
         ·intro z
          exact ⟨⟨h1.1, h1.2.1, h1.2.2.1, h1.2.2.2, h2.1, h2.2.1, h3, h2.2.2.1, h2.2.2.2, h4.1, h4.2.1, h4.2.2.1, h4.2.2.2.1, h4.2.2.2.2, h5.1, h5.2.1, h5.2.2, z.rng⟩, fun i hi => ⟨(hk2 i hi).1, (hk2 i hi).2.1, (hk2 i hi).2.2, z.works i hi, z.items i hi⟩, z.evs⟩
         ·intro v
          exact ⟨v.evs, fun i hi => (v.queues i hi).items, fun i hi => (v.queues i hi).req, v.parts.serial⟩
      ·refine Br.yes (Decidable.byContradiction fun ebye => h5 (by simp [-List.getD_eq_getElem?_getD, -Int.default_eq_zero] at ebye <;> grind)) ?_; conv=>whnf
       refine Go0 ?_
       rw [no (fun q => h5 (by have := (vP q).parts; exact ⟨this.rings, this.works, this.next⟩))]
       exact RM.i0
     ·refine Br.yes (Decidable.byContradiction fun ebye => h4 (by simp [-List.getD_eq_getElem?_getD, -Int.default_eq_zero] at ebye <;> grind)) ?_; conv=>whnf
      refine Go0 ?_
      rw [no (fun q => h4 (by have := (vP q).parts; exact ⟨this.locks, this.stripes, this.epochs, this.pins, this.pool⟩))]
      exact RM.i0
    ·have w2 := Qa (((allM s.map).length : Int) - 1) om om
     have w3 : (((allM s.map).length : Int) - 1).toNat = (allM s.map).length - 1 := by omega
     refine Go0 ?_
     rw [w2]
     refine Go0 ?_
     rw [w3]
     have h3'' := h3' k0
     refine Br.no (Bool.eq_false_iff.2 fun ebye => by simp [-List.getD_eq_getElem?_getD, -Int.default_eq_zero, h3''] at ebye <;> grind) ?_; conv=>whnf
     refine Go0 ?_
     refine CallN.pureA Qe7 (Qe4 s.owner hs.owner ) (Go0 ?_)
     refine CallG.auto QcJ (fun _ => QcL s.glob s.pins s.rets hs.pins hs.rets ) (Go0 ?_)
     refine CallG.auto Qha (fun _ => Qh1 s.cfg s.free s.host s.lane hs.free ) (Go0 ?_)
     by_cases h4 : Qaj s.owner = true ∧ (s.owner.length : Int) = s.cfg.shards ∧ QA s.glob s.pins s.rets = true ∧ (s.pins.length : Int) = s.cfg.queues ∧ poolOk s.cfg s.free s.host s.lane = true
     ·refine Br.no (Bool.eq_false_iff.2 fun ebye => by simp [-List.getD_eq_getElem?_getD, -Int.default_eq_zero, h4.1,h4.2.1,h4.2.2.1,h4.2.2.2.1,h4.2.2.2.2] at ebye <;> grind) ?_; conv=>whnf
      refine Go1 fun _h=>?_
      by_cases h5 : (s.rings.length : Int) = s.cfg.queues ∧ (s.works.length : Int) = s.cfg.queues ∧ 1 ≤ s.next ∧ s.next ≤ 1099511627776
      ·refine Br.no (Bool.eq_false_iff.2 fun ebye => by simp [-List.getD_eq_getElem?_getD, -Int.default_eq_zero, h5.1,h5.2.1,h5.2.2.1,h5.2.2.2] at ebye <;> grind) ?_; conv=>whnf
       refine Go0 ?_
       have h51 := h5.1
       have h52 := h5.2.1
       refine Lp.mkK hΓ (ι := Nat) [1, 3] (fun i => [(5, .c (.int .i64 i))]) (fun _ => [.vr s.cells, .vr s.cfg.cells]) (fun k => k ≤ s.rings.length ∧ ∀ i, i < k → QX (s.rings.getD i default) = true ∧ (s.rings.getD i default).depth = s.cfg.depth ∧ Qas s.cfg (s.works.getD i default) = true) (fun i => s.rings.length - i) 0 ⟨Nat.zero_le _, fun j hj => absurd hj (Nat.not_lt_zero _)⟩ ?_ ?_
       ·exact Mv.k0
       ·rintro k ⟨hk, hk2⟩
        refine Go0 ?_
        refine Br.of (fun h6=>Go0 ?_) (fun h6=>Go0 ?_)
        ·have w0 := Qa (↑k + 1) om om
         have hr := hs.rings
         have kr : k < s.rings.length := by omega
         have kw : k < s.works.length := by omega
         refine Dr.mk hΓ hMix (by kernel_rfl) (Go0 ?_)
         refine CallP.auto Qdw (Qdo (s.rings.getD k default) (hs.items k) ) (Go0 ?_)
         refine CallP.autoG QgQ (fun _ => QgS s.cfg (s.works.getD k default) ) (Go0 ?_)
         by_cases d : QX (s.rings.getD k default) = true ∧ (s.rings.getD k default).depth = s.cfg.depth ∧ Qas s.cfg (s.works.getD k default) = true
         ·refine Br.no (Bool.eq_false_iff.2 fun ebye => by simp [-List.getD_eq_getElem?_getD, -Int.default_eq_zero, d.1,d.2.1,d.2.2] at ebye <;> grind) ?_; conv=>whnf
          refine Go0 ?_
          refine ⟨k + 1, ⟨om, QD hk2 d⟩, om, ?_⟩
          exact Mv.k0
         ·refine Br.yes (Decidable.byContradiction fun ebye => d (by simp [-List.getD_eq_getElem?_getD, -Int.default_eq_zero] at ebye <;> grind)) ?_; conv=>whnf
          refine Go0 ?_
          rw [no (fun q => d (by have := (vP q).queues k om; exact ⟨this.ring, this.depth, this.work⟩))]
          exact RM.i0
        ·have : k = s.rings.length := by omega
         subst this
         refine CallN.pureA Qgb (QfT s hs om ) (Go0 ?_)
         refine RM.immW rfl (WS.c (WC.bool ?_))
         rw [Bool.eq_iff_iff, decide_eq_true_eq, validS_V]
         constructor
         ·intro z
          exact ⟨⟨h1.1, h1.2.1, h1.2.2.1, h1.2.2.2, h2.1, h2.2.1, h3, h2.2.2.1, h2.2.2.2, h4.1, h4.2.1, h4.2.2.1, h4.2.2.2.1, h4.2.2.2.2, h5.1, h5.2.1, h5.2.2, z.rng⟩, fun i hi => ⟨(hk2 i hi).1, (hk2 i hi).2.1, (hk2 i hi).2.2, z.works i hi, z.items i hi⟩, z.evs⟩
         ·intro v
          exact ⟨v.evs, fun i hi => (v.queues i hi).items, fun i hi => (v.queues i hi).req, v.parts.serial⟩
      ·refine Br.yes (Decidable.byContradiction fun ebye => h5 (by simp [-List.getD_eq_getElem?_getD, -Int.default_eq_zero] at ebye <;> grind)) ?_; conv=>whnf
       refine Go0 ?_
       rw [no (fun q => h5 (by have := (vP q).parts; exact ⟨this.rings, this.works, this.next⟩))]
       exact RM.i0
     ·refine Br.yes (Decidable.byContradiction fun ebye => h4 (by simp [-List.getD_eq_getElem?_getD, -Int.default_eq_zero] at ebye <;> grind)) ?_; conv=>whnf
      refine Go0 ?_
      rw [no (fun q => h4 (by have := (vP q).parts; exact ⟨this.locks, this.stripes, this.epochs, this.pins, this.pool⟩))]
      exact RM.i0
   ·have k0 : 0 < (allM s.map).length := Decidable.byContradiction fun q => h3 ((QfK h2.1 _).2 fun z => absurd z q)
    have w2 := Qa (((allM s.map).length : Int) - 1) om om
    have w3 : (((allM s.map).length : Int) - 1).toNat = (allM s.map).length - 1 := by omega
    refine Dr.mk hΓ hMix (by kernel_rfl) (Go0 ?_)
    rw [w2]
    refine Go0 ?_
    rw [w3]
    have h3'' : ¬ ((allM s.map).getD ((allM s.map).length - 1) default).block < s.cfg.blocks := fun z => h3 ((QfK h2.1 _).2 fun _ => z)
    refine Br.yes (by simp [-List.getD_eq_getElem?_getD, k0]; omega) ?_
    refine Go0 ?_
    rw [no (fun q => h3 (vP q).parts.blocks)]
    exact RM.i0
  ·refine Br.yes (Decidable.byContradiction fun ebye => h2 (by simp [-List.getD_eq_getElem?_getD, -Int.default_eq_zero] at ebye <;> grind)) ?_; conv=>whnf
   refine Go0 ?_
   rw [no (fun q => h2 (by have := (vP q).parts; exact ⟨this.map, this.shards, this.counts, this.live⟩))]
   exact RM.i0
 ·refine Br.yes (Decidable.byContradiction fun ebye => h1 (by simp [-List.getD_eq_getElem?_getD, -Int.default_eq_zero] at ebye <;> grind)) ?_; conv=>whnf
  refine Go0 ?_
  rw [no (fun q => h1 (by have := (vP q).parts; exact ⟨this.cfg, this.dev, this.zones, this.size⟩))]
  exact RM.i0
theorem QdG : HB 48 := hB Tryz.func48
end Go.Proofs
end
