/- Contracts, lemmas; no condition. -/
import Derived.Test.YtmollgldghpbkaaGreatCtBV
set_option linter.all false
section
open Go Go.Am
namespace Go.Proofs
set_option maxRecDepth 20000
theorem QoT {α : Type} [Inhabited α] {a b : List α} (hl : a.length = b.length) (h : ∀ i, i < a.length → a.getD i default = b.getD i default) : a = b := by
 refine List.ext_getElem hl fun i h1 h2 => ?_
 have := h i h1
 simpa [List.getD, h1, h2] using this
theorem Qn5 {α : Type} [Inhabited α] {a b : List α} {k : Nat} (h : a.getD k default ≠ b.getD k default) : a ≠ b := fun e => h (by rw [e])
theorem Qwz (x y : Ent) : ((decide (x.block = y.block) && (decide (x.kind = y.kind) && (decide (x.version = y.version) && (decide (x.move = y.move) && (decide (x.zone = y.zone) && (decide (x.offset = y.offset) && true)))))) == false) = !decide (x = y) := by
 rw [show (∀ b : Bool, (b == false) = !b) from fun b => by cases b <;> rfl]
 congr 1
 rw [Bool.eq_iff_iff]
 cases x; cases y
 simp [Ent.mk.injEq]
theorem Qxq (x y : Req) : ((decide (x.serial = y.serial) && (decide (x.kind = y.kind) && (decide (x.block = y.block) && (decide (x.data = y.data) && true)))) == false) = !decide (x = y) := by
 rw [show (∀ b : Bool, (b == false) = !b) from fun b => by cases b <;> rfl]
 congr 1
 rw [Bool.eq_iff_iff]
 cases x; cases y
 simp [Req.mk.injEq]
theorem Qxp (x y : Ret) : ((decide (x.zone = y.zone) && (decide (x.epoch = y.epoch) && true)) == false) = !decide (x = y) := by
 rw [show (∀ b : Bool, (b == false) = !b) from fun b => by cases b <;> rfl]
 congr 1
 rw [Bool.eq_iff_iff]
 cases x; cases y
 simp [Ret.mk.injEq]
theorem Qxo (x y : Rec) : ((decide (x.kind = y.kind) && (decide (x.block = y.block) && (decide (x.version = y.version) && (decide (x.move = y.move) && (decide (x.payload = y.payload) && true))))) == false) = !decide (x = y) := by
 rw [show (∀ b : Bool, (b == false) = !b) from fun b => by cases b <;> rfl]
 congr 1
 rw [Bool.eq_iff_iff]
 cases x; cases y
 simp [Rec.mk.injEq]
theorem Qxr (x y : Evt) : ((decide (x.ret = y.ret) && (decide (x.queue = y.queue) && (decide (x.serial = y.serial) && (decide (x.kind = y.kind) && (decide (x.block = y.block) && (decide (x.data = y.data) && (decide (x.err = y.err) && (decide (x.rdata = y.rdata) && true)))))))) == false) = !decide (x = y) := by
 rw [show (∀ b : Bool, (b == false) = !b) from fun b => by cases b <;> rfl]
 congr 1
 rw [Bool.eq_iff_iff]
 cases x; cases y
 simp [Evt.mk.injEq]
theorem Qxn (x y : Wrk) : ((decide (x.state = y.state) && (decide (x.req.serial = y.req.serial) && (decide (x.req.kind = y.req.kind) && (decide (x.req.block = y.req.block) && (decide (x.req.data = y.req.data) && (decide (x.ent.block = y.ent.block) && (decide (x.ent.kind = y.ent.kind) && (decide (x.ent.version = y.ent.version) && (decide (x.ent.move = y.ent.move) && (decide (x.ent.zone = y.ent.zone) && (decide (x.ent.offset = y.ent.offset) && (decide (x.data = y.data) && true)))))))))))) == false) = !decide (x = y) := by
 rw [show (∀ b : Bool, (b == false) = !b) from fun b => by cases b <;> rfl]
 congr 1
 rw [Bool.eq_iff_iff]
 obtain ⟨_, ⟨⟩, ⟨⟩, _⟩ := x; obtain ⟨_, ⟨⟩, ⟨⟩, _⟩ := y
 simp [Wrk.mk.injEq, Req.mk.injEq, Ent.mk.injEq, and_assoc]
theorem Qxw (x y : Conf) : ((decide (x.zones = y.zones) && (decide (x.size = y.size) && (decide (x.blocks = y.blocks) && (decide (x.queues = y.queues) && (decide (x.depth = y.depth) && (decide (x.shards = y.shards) && true)))))) == false) = !decide (x = y) := by
 rw [show (∀ b : Bool, (b == false) = !b) from fun b => by cases b <;> rfl]
 congr 1
 rw [Bool.eq_iff_iff]
 cases x; cases y
 simp [Conf.mk.injEq]
theorem QxA (x y : Cln) : ((decide (x.state = y.state) && (decide (x.victim = y.victim) && (decide (x.offset = y.offset) && (decide (x.ent.block = y.ent.block) && (decide (x.ent.kind = y.ent.kind) && (decide (x.ent.version = y.ent.version) && (decide (x.ent.move = y.ent.move) && (decide (x.ent.zone = y.ent.zone) && (decide (x.ent.offset = y.ent.offset) && (decide (x.pzone = y.pzone) && (decide (x.poff = y.poff) && true))))))))))) == true) = decide (x = y) := by
 rw [show (∀ b : Bool, (b == true) = b) from fun b => by cases b <;> rfl]
 rw [Bool.eq_iff_iff]
 obtain ⟨_, _, _, ⟨⟩, _, _⟩ := x; obtain ⟨_, _, _, ⟨⟩, _, _⟩ := y
 simp [Cln.mk.injEq, Ent.mk.injEq, and_assoc]
theorem Qwn (x y : Int) : (!decide (x = y)) = !decide (x = y) := rfl
theorem Qwa (a b : List Int) (ha : a.length ≤ 1000000) : PS 28 [.c (Qi a), .c (Qi b)] (.c (.bool (decide (a = b)))) := by
 refine PSpec.rm ?_
 refine ov hΓ Tryz.func28 26 0 [.tmp 4] Tryz.ntmps28 Tryz.results28 ?_
 refine Go2 fun _h _h=>?_
 (first|refine Br.od (fun h1=>?_) (fun h1=>?_)|refine Br.mk (fun h1=>?_) (fun h1=>?_)<;>simp [-List.length_eq_zero_iff,-List.getD_eq_getElem?_getD] at h1)<;>(try simp only [Int.toNat_natCast] at h1)<;>(conv=>whnf)
 ·refine Go0 ?_
  rw [show decide (a = b) = false from decide_eq_false (fun e => h1 (by rw [e]))]
  exact RM.i0
 ·refine Go0 ?_
  refine Lp.mkK hΓ (ι := Nat) [0, 1] (fun i => [(5, .c (.int .i64 i))]) (fun _ => []) (fun i => i ≤ a.length ∧ ∀ j, j < i → a.getD j default = b.getD j default) (fun i => a.length - i) 0 ⟨Nat.zero_le _, fun j hj => absurd hj (Nat.not_lt_zero _)⟩ ?_ ?_
  ·exact Mv.k0
  ·rintro k ⟨hk, hk2⟩
   refine Go1 fun _h=>?_
   refine Br.of (fun h2=>Go0 ?_) (fun h2=>Go0 ?_)
   ·refine Dr.mk hΓ hMix (by kernel_rfl) (Go0 ?_)
    by_cases e : a.getD k default = b.getD k default
    ·refine Br.no ((Qwn (a.getD k default) (b.getD k default)).trans (by simp only [e, decide_true, Bool.not_true])) (Go0 ?_)
     have w0 := Qa (↑k + 1) om om
     refine ⟨k + 1, ⟨om, QD hk2 e⟩, om, ?_⟩
     exact Mv.k0
    ·refine Br.yes ((Qwn (a.getD k default) (b.getD k default)).trans (by simp only [e, decide_false, Bool.not_false])) (Go0 ?_)
     rw [decide_eq_false (Qn5 e)]
     exact RM.i0
   ·have e : a = b := QoT om (fun i hi => hk2 i om)
    rw [decide_eq_true e]
    exact RM.i0
theorem Qv9 : HB 28 := hB Tryz.func28
theorem QwN (a b : List Ent) (ha : a.length ≤ 1000000) : PS 145 [.c (Qaw a), .c (Qaw b)] (.c (.bool (decide (a = b)))) := by
 refine PSpec.rm ?_
 refine ov hΓ Tryz.func145 26 0 [.tmp 4] Tryz.ntmps145 Tryz.results145 ?_
 refine Go2 fun _h _h=>?_
 (first|refine Br.od (fun h1=>?_) (fun h1=>?_)|refine Br.mk (fun h1=>?_) (fun h1=>?_)<;>simp [-List.length_eq_zero_iff,-List.getD_eq_getElem?_getD] at h1)<;>(try simp only [Int.toNat_natCast] at h1)<;>(conv=>whnf)
 ·refine Go0 ?_
  rw [show decide (a = b) = false from decide_eq_false (fun e => h1 (by rw [e]))]
  exact RM.i0
 ·refine Go0 ?_
  refine Lp.mkK hΓ (ι := Nat) [0, 1] (fun i => [(5, .c (.int .i64 i))]) (fun _ => []) (fun i => i ≤ a.length ∧ ∀ j, j < i → a.getD j default = b.getD j default) (fun i => a.length - i) 0 ⟨Nat.zero_le _, fun j hj => absurd hj (Nat.not_lt_zero _)⟩ ?_ ?_
  ·exact Mv.k0
  ·rintro k ⟨hk, hk2⟩
   refine Go1 fun _h=>?_
   refine Br.of (fun h2=>Go0 ?_) (fun h2=>Go0 ?_)
   ·refine Dr.mk hΓ hMix (by kernel_rfl) (Go0 ?_)
    by_cases e : a.getD k default = b.getD k default
    ·refine Br.no ((Qwz (a.getD k default) (b.getD k default)).trans (by simp only [e, decide_true, Bool.not_true])) (Go0 ?_)
     have w0 := Qa (↑k + 1) om om
     refine ⟨k + 1, ⟨om, QD hk2 e⟩, om, ?_⟩
     exact Mv.k0
    ·refine Br.yes ((Qwz (a.getD k default) (b.getD k default)).trans (by simp only [e, decide_false, Bool.not_false])) (Go0 ?_)
     rw [decide_eq_false (Qn5 e)]
     exact RM.i0
   ·have e : a = b := QoT om (fun i hi => hk2 i om)
    rw [decide_eq_true e]
    exact RM.i0
theorem Qw0 : HB 145 := hB Tryz.func145
theorem QwQ (a b : List Evt) (ha : a.length ≤ 1000000) : PS 77 [.c (evC a), .c (evC b)] (.c (.bool (decide (a = b)))) := by
 refine PSpec.rm ?_
 refine ov hΓ Tryz.func77 26 0 [.tmp 4] Tryz.ntmps77 Tryz.results77 ?_
 refine Go2 fun _h _h=>?_
 (first|refine Br.od (fun h1=>?_) (fun h1=>?_)|refine Br.mk (fun h1=>?_) (fun h1=>?_)<;>simp [-List.length_eq_zero_iff,-List.getD_eq_getElem?_getD] at h1)<;>(try simp only [Int.toNat_natCast] at h1)<;>(conv=>whnf)
 ·refine Go0 ?_
  rw [show decide (a = b) = false from decide_eq_false (fun e => h1 (by rw [e]))]
  exact RM.i0
 ·refine Go0 ?_
  refine Lp.mkK hΓ (ι := Nat) [0, 1] (fun i => [(5, .c (.int .i64 i))]) (fun _ => []) (fun i => i ≤ a.length ∧ ∀ j, j < i → a.getD j default = b.getD j default) (fun i => a.length - i) 0 ⟨Nat.zero_le _, fun j hj => absurd hj (Nat.not_lt_zero _)⟩ ?_ ?_
  ·exact Mv.k0
  ·rintro k ⟨hk, hk2⟩
   refine Go1 fun _h=>?_
   refine Br.of (fun h2=>Go0 ?_) (fun h2=>Go0 ?_)
   ·refine Dr.mk hΓ hMix (by kernel_rfl) (Go0 ?_)
    by_cases e : a.getD k default = b.getD k default
    ·refine Br.no ((Qxr (a.getD k default) (b.getD k default)).trans (by simp only [e, decide_true, Bool.not_true])) (Go0 ?_)
     have w0 := Qa (↑k + 1) om om
     refine ⟨k + 1, ⟨om, QD hk2 e⟩, om, ?_⟩
     exact Mv.k0
    ·refine Br.yes ((Qxr (a.getD k default) (b.getD k default)).trans (by simp only [e, decide_false, Bool.not_false])) (Go0 ?_)
     rw [decide_eq_false (Qn5 e)]
     exact RM.i0
   ·have e : a = b := QoT om (fun i hi => hk2 i om)
    rw [decide_eq_true e]
    exact RM.i0
theorem QwL : HB 77 := hB Tryz.func77
theorem QwJ (a b : List (List Ent)) (ha : a.length ≤ 1000000) (hs : ∀ i, (a.getD i default).length ≤ 1000000) : PS 71 [.a [QH a], .a [QH b]] (.c (.bool (decide (a = b)))) := by
 refine PSpec.rm ?_
 refine ov hΓ Tryz.func71 32 0 [.tmp 4] Tryz.ntmps71 Tryz.results71 ?_
 refine Go2 fun _h _h=>?_
 (first|refine Br.od (fun h1=>?_) (fun h1=>?_)|refine Br.mk (fun h1=>?_) (fun h1=>?_)<;>simp [-List.length_eq_zero_iff,-List.getD_eq_getElem?_getD] at h1)<;>(try simp only [Int.toNat_natCast] at h1)<;>(conv=>whnf)
 ·refine Go0 ?_
  rw [show decide (a = b) = false from decide_eq_false (fun e => h1 (by rw [e]))]
  exact RM.i0
 ·refine Go0 ?_
  refine Lp.mkK hΓ (ι := Nat) [2, 3] (fun i => [(5, .c (.int .i64 i))]) (fun _ => [.vr [QH a], .vr [QH b]]) (fun i => i ≤ a.length ∧ ∀ j, j < i → a.getD j default = b.getD j default) (fun i => a.length - i) 0 ⟨Nat.zero_le _, fun j hj => absurd hj (Nat.not_lt_zero _)⟩ ?_ ?_
  ·exact Mv.k0
  ·rintro k ⟨hk, hk2⟩
   have hsk := hs k
   refine Go1 fun _h=>?_
   refine Br.of (fun h2=>Go0 ?_) (fun h2=>Go0 ?_)
   ·refine Dr.mk hΓ hMix (by kernel_rfl) (Go0 ?_)
    refine CallP.auto Qw0 (QwN (a.getD k default) (b.getD k default) hsk ) (Go0 ?_)
    by_cases e : a.getD k default = b.getD k default
    ·refine Br.no (by simp only [e, decide_true, Bool.not_true]) (Go0 ?_)
     have w0 := Qa (↑k + 1) om om
     refine ⟨k + 1, ⟨om, QD hk2 e⟩, om, ?_⟩
     exact Mv.k0
    ·refine Br.yes (by simp only [e, decide_false, Bool.not_false]) (Go0 ?_)
     rw [decide_eq_false (Qn5 e)]
     exact RM.i0
   ·have e : a = b := QoT om (fun i hi => hk2 i om)
    rw [decide_eq_true e]
    exact RM.i0
theorem QwM : HB 71 := hB Tryz.func71
theorem QwR (a b c d : List Int) (ha : a.length ≤ 1000000) (hc : c.length ≤ 1000000) : PS 72 [.a [Qi a, Qi c], .a [Qi b, Qi d]] (.c (.bool (decide (a = b ∧ c = d)))) := by
 refine PSpec.rm ?_
 refine ov0 hΓ Tryz.func72 17 0 [.tmp 4] Tryz.ntmps72 Tryz.results72 ?_
 refine CallN.pureA Qv9 (Qwa a b ha ) (Go0 ?_)
 refine CallG.auto Qv9 (fun _ => Qwa c d hc ) (Go0 ?_)
 exact RM.i0
theorem QwP : HB 72 := hB Tryz.func72
theorem QwO (g g' : Int) (a b : List Int) (c d : List Ret) (ha : a.length ≤ 1000000) (hc : c.length ≤ 1000000) : PS 73 [.a [.int .i64 g, Qi a, retC c], .a [.int .i64 g', Qi b, retC d]] (.c (.bool (decide (g = g' ∧ a = b ∧ c = d)))) := by
 refine PSpec.rm ?_
 refine ov0 hΓ Tryz.func73 66 0 [.tmp 4] Tryz.ntmps73 Tryz.results73 ?_
 by_cases hc : g = g' ∧ a.length = b.length ∧ c.length = d.length
 ·obtain ⟨h1, h3, h4⟩ := hc
  refine Br.no (by simp [h1, h3, h4]) (Go0 ?_)
  refine Lp.mkK hΓ (ι := Nat) [2, 3] (fun i => [(5, .c (.int .i64 i))]) (fun _ => [.vr [.int .i64 g, Qi a, retC c], .vr [.int .i64 g', Qi b, retC d]]) (fun i => i ≤ a.length ∧ ∀ j, j < i → a.getD j default = b.getD j default) (fun i => a.length - i) 0 ⟨Nat.zero_le _, fun j hj => absurd hj (Nat.not_lt_zero _)⟩ ?_ ?_
  ·exact Mv.k0
  ·rintro k ⟨hk, hk2⟩
   refine Go1 fun _h=>?_
   refine Br.of (fun h2=>Go0 ?_) (fun h2=>Go0 ?_)
   ·refine Dr.mk hΓ hMix (by kernel_rfl) (Go0 ?_)
    by_cases e : a.getD k default = b.getD k default
    ·refine Br.no ((Qwn (a.getD k default) (b.getD k default)).trans (by simp only [e, decide_true, Bool.not_true])) (Go0 ?_)
     have w0 := Qa (↑k + 1) om om
     refine ⟨k + 1, ⟨om, QD hk2 e⟩, om, ?_⟩
     exact Mv.k0
    ·refine Br.yes ((Qwn (a.getD k default) (b.getD k default)).trans (by simp only [e, decide_false, Bool.not_false])) (Go0 ?_)
     rw [decide_eq_false (fun q => Qn5 e q.2.1)]
     exact RM.i0
   ·have e6 : a = b := QoT om (fun i hi => hk2 i om)
    clear hk hk2 h2
    refine Lp.mkK hΓ (ι := Nat) [2, 3] (fun i => [(6, .c (.int .i64 i))]) (fun _ => [.vr [.int .i64 g, Qi a, retC c], .vr [.int .i64 g', Qi b, retC d]]) (fun i => i ≤ c.length ∧ ∀ j, j < i → c.getD j default = d.getD j default) (fun i => c.length - i) 0 ⟨Nat.zero_le _, fun j hj => absurd hj (Nat.not_lt_zero _)⟩ ?_ ?_
    ·exact Mv.k0
    ·rintro k ⟨hk, hk2⟩
     refine Go1 fun _h=>?_
     refine Br.of (fun h2=>Go0 ?_) (fun h2=>Go0 ?_)
     ·refine Dr.mk hΓ hMix (by kernel_rfl) (Go0 ?_)
      by_cases e : c.getD k default = d.getD k default
      ·refine Br.no ((Qxp (c.getD k default) (d.getD k default)).trans (by simp only [e, decide_true, Bool.not_true])) (Go0 ?_)
       have w0 := Qa (↑k + 1) om om
       refine ⟨k + 1, ⟨om, QD hk2 e⟩, om, ?_⟩
       exact Mv.k0
      ·refine Br.yes ((Qxp (c.getD k default) (d.getD k default)).trans (by simp only [e, decide_false, Bool.not_false])) (Go0 ?_)
       rw [decide_eq_false (fun q => Qn5 e q.2.2)]
       exact RM.i0
     ·have e11 : c = d := QoT om (fun i hi => hk2 i om)
      clear hk hk2 h2
      rw [decide_eq_true ⟨h1, e6, e11⟩]
      exact RM.i0
 ·refine Br.yes (by by_cases x : g = g' <;> by_cases y : a.length = b.length <;> by_cases z : c.length = d.length <;> simp_all <;> omega) ?_
  refine Go0 ?_
  rw [decide_eq_false (fun e => hc ⟨e.1, by rw [e.2.1], by rw [e.2.2]⟩)]
  exact RM.i0
theorem QwK : HB 73 := hB Tryz.func73
theorem QwW (a b : List Int) (h l h' l' : Int) (ha : a.length ≤ 1000000) : PS 74 [.a [Qi a, .int .i64 h, .int .i64 l], .a [Qi b, .int .i64 h', .int .i64 l']] (.c (.bool (decide (h = h' ∧ l = l' ∧ a = b)))) := by
 refine PSpec.rm ?_
 refine ov0 hΓ Tryz.func74 45 0 [.tmp 4] Tryz.ntmps74 Tryz.results74 ?_
 by_cases hc : h = h' ∧ l = l' ∧ a.length = b.length
 ·obtain ⟨h1, h3, h4⟩ := hc
  refine Br.no (by simp [h1, h3, h4]) (Go0 ?_)
  refine Lp.mkK hΓ (ι := Nat) [2, 3] (fun i => [(5, .c (.int .i64 i))]) (fun _ => [.vr [Qi a, .int .i64 h, .int .i64 l], .vr [Qi b, .int .i64 h', .int .i64 l']]) (fun i => i ≤ a.length ∧ ∀ j, j < i → a.getD j default = b.getD j default) (fun i => a.length - i) 0 ⟨Nat.zero_le _, fun j hj => absurd hj (Nat.not_lt_zero _)⟩ ?_ ?_
  ·exact Mv.k0
  ·rintro k ⟨hk, hk2⟩
   refine Go1 fun _h=>?_
   refine Br.of (fun h2=>Go0 ?_) (fun h2=>Go0 ?_)
   ·refine Dr.mk hΓ hMix (by kernel_rfl) (Go0 ?_)
    by_cases e : a.getD k default = b.getD k default
    ·refine Br.no ((Qwn (a.getD k default) (b.getD k default)).trans (by simp only [e, decide_true, Bool.not_true])) (Go0 ?_)
     have w0 := Qa (↑k + 1) om om
     refine ⟨k + 1, ⟨om, QD hk2 e⟩, om, ?_⟩
     exact Mv.k0
    ·refine Br.yes ((Qwn (a.getD k default) (b.getD k default)).trans (by simp only [e, decide_false, Bool.not_false])) (Go0 ?_)
     rw [decide_eq_false (fun q => Qn5 e q.2.2)]
     exact RM.i0
   ·have e6 : a = b := QoT om (fun i hi => hk2 i om)
    clear hk hk2 h2
    rw [decide_eq_true ⟨h1, h3, e6⟩]
    exact RM.i0
 ·refine Br.yes (by by_cases x : h = h' <;> by_cases y : l = l' <;> by_cases z : a.length = b.length <;> simp_all <;> omega) ?_
  refine Go0 ?_
  rw [decide_eq_false (fun e => hc ⟨e.1, e.2.1, by rw [e.2.2]⟩)]
  exact RM.i0
theorem QwU : HB 74 := hB Tryz.func74
theorem QwV (a b : Rng) (ha : a.items.length ≤ 1000000) : PS 75 [.a a.cells, .a b.cells] (.c (.bool (decide (a = b)))) := by
 refine PSpec.rm ?_
 refine ov0 hΓ Tryz.func75 38 0 [.tmp 4] Tryz.ntmps75 Tryz.results75 ?_
 by_cases hc : a.depth = b.depth ∧ a.items.length = b.items.length
 ·obtain ⟨h1, h3⟩ := hc
  refine Br.no (by simp [h1, h3]) (Go0 ?_)
  refine Lp.mkK hΓ (ι := Nat) [2, 3] (fun i => [(5, .c (.int .i64 i))]) (fun _ => [.vr a.cells, .vr b.cells]) (fun i => i ≤ a.items.length ∧ ∀ j, j < i → a.items.getD j default = b.items.getD j default) (fun i => a.items.length - i) 0 ⟨Nat.zero_le _, fun j hj => absurd hj (Nat.not_lt_zero _)⟩ ?_ ?_
  ·exact Mv.k0
  ·rintro k ⟨hk, hk2⟩
   refine Go1 fun _h=>?_
   refine Br.of (fun h2=>Go0 ?_) (fun h2=>Go0 ?_)
   ·refine Dr.mk hΓ hMix (by kernel_rfl) (Go0 ?_)
    by_cases e : a.items.getD k default = b.items.getD k default
    ·refine Br.no ((Qxq (a.items.getD k default) (b.items.getD k default)).trans (by simp only [e, decide_true, Bool.not_true])) (Go0 ?_)
     have w0 := Qa (↑k + 1) om om
     refine ⟨k + 1, ⟨om, QD hk2 e⟩, om, ?_⟩
     exact Mv.k0
    ·refine Br.yes ((Qxq (a.items.getD k default) (b.items.getD k default)).trans (by simp only [e, decide_false, Bool.not_false])) (Go0 ?_)
     rw [decide_eq_false (fun q => Qn5 e (by rw [q]))]
     exact RM.i0
   ·have e6 : a.items = b.items := QoT om (fun i hi => hk2 i om)
    clear hk hk2 h2
    have e : a = b := by cases a; cases b; simp_all
    rw [decide_eq_true e]
    exact RM.i0
 ·refine Br.yes (by by_cases x : a.depth = b.depth <;> by_cases y : a.items.length = b.items.length <;> simp_all <;> omega) ?_
  refine Go0 ?_
  rw [decide_eq_false (fun e => hc ⟨by rw [e], by rw [e]⟩)]
  exact RM.i0
theorem QwZ : HB 75 := hB Tryz.func75
def Sav.cells (s : Sav) : List C := [.int .i64 s.state, .int .i64 s.done, .int .i64 s.slot, .int .i64 s.seq, .int .i64 s.next, .int .i64 s.cut, Qaw s.ents, Qib s.recs]
theorem QwA (a b : Sav) (ha : a.ents.length ≤ 1000000) (hr : a.recs.length ≤ 1000000) : PS 76 [.a a.cells, .a b.cells] (.c (.bool (decide (a = b)))) := by
 refine PSpec.rm ?_
 refine ov0 hΓ Tryz.func76 112 0 [.tmp 4] Tryz.ntmps76 Tryz.results76 ?_
 by_cases hc : a.state = b.state ∧ a.done = b.done ∧ a.slot = b.slot ∧ a.seq = b.seq ∧ a.next = b.next ∧ a.cut = b.cut ∧ a.ents.length = b.ents.length ∧ a.recs.length = b.recs.length
 ·obtain ⟨h1, h2, h3, h4, h5, h6, h7, h8⟩ := hc
  refine Br.no (by simp [h1, h2, h3, h4, h5, h6, h7, h8]) (Go0 ?_)
  refine Lp.mkK hΓ (ι := Nat) [2, 3] (fun i => [(5, .c (.int .i64 i))]) (fun _ => [.vr a.cells, .vr b.cells]) (fun i => i ≤ a.ents.length ∧ ∀ j, j < i → a.ents.getD j default = b.ents.getD j default) (fun i => a.ents.length - i) 0 ⟨Nat.zero_le _, fun j hj => absurd hj (Nat.not_lt_zero _)⟩ ?_ ?_
  ·exact Mv.k0
  ·rintro k ⟨hk, hk2⟩
   refine Go1 fun _h=>?_
   refine Br.of (fun h2=>Go0 ?_) (fun h2=>Go0 ?_)
   ·refine Dr.mk hΓ hMix (by kernel_rfl) (Go0 ?_)
    by_cases e : a.ents.getD k default = b.ents.getD k default
    ·refine Br.no ((Qwz (a.ents.getD k default) (b.ents.getD k default)).trans (by simp only [e, decide_true, Bool.not_true])) (Go0 ?_)
     have w0 := Qa (↑k + 1) om om
     refine ⟨k + 1, ⟨om, QD hk2 e⟩, om, ?_⟩
     exact Mv.k0
    ·refine Br.yes ((Qwz (a.ents.getD k default) (b.ents.getD k default)).trans (by simp only [e, decide_false, Bool.not_false])) (Go0 ?_)
     rw [decide_eq_false (fun q => Qn5 e (by rw [q]))]
     exact RM.i0
   ·have e6 : a.ents = b.ents := QoT om (fun i hi => hk2 i om)
    clear hk hk2 h2
    refine Lp.mkK hΓ (ι := Nat) [2, 3] (fun i => [(6, .c (.int .i64 i))]) (fun _ => [.vr a.cells, .vr b.cells]) (fun i => i ≤ a.recs.length ∧ ∀ j, j < i → a.recs.getD j default = b.recs.getD j default) (fun i => a.recs.length - i) 0 ⟨Nat.zero_le _, fun j hj => absurd hj (Nat.not_lt_zero _)⟩ ?_ ?_
    ·exact Mv.k0
    ·rintro k ⟨hk, hk2⟩
     refine Go1 fun _h=>?_
     refine Br.of (fun h2=>Go0 ?_) (fun h2=>Go0 ?_)
     ·refine Dr.mk hΓ hMix (by kernel_rfl) (Go0 ?_)
      by_cases e : a.recs.getD k default = b.recs.getD k default
      ·refine Br.no ((Qxo (a.recs.getD k default) (b.recs.getD k default)).trans (by simp only [e, decide_true, Bool.not_true])) (Go0 ?_)
       have w0 := Qa (↑k + 1) om om
       refine ⟨k + 1, ⟨om, QD hk2 e⟩, om, ?_⟩
       exact Mv.k0
      ·refine Br.yes ((Qxo (a.recs.getD k default) (b.recs.getD k default)).trans (by simp only [e, decide_false, Bool.not_false])) (Go0 ?_)
       rw [decide_eq_false (fun q => Qn5 e (by rw [q]))]
       exact RM.i0
     ·have e11 : a.recs = b.recs := QoT om (fun i hi => hk2 i om)
      clear hk hk2 h2
      have e : a = b := by cases a; cases b; simp_all
      rw [decide_eq_true e]
      exact RM.i0
 ·refine Br.yes ?_ ?_
  ·by_cases y : a.ents.length = b.ents.length <;> by_cases z : a.recs.length = b.recs.length <;> cases x1 : a.state != b.state <;> cases x2 : a.done != b.done <;> cases x3 : a.slot != b.slot <;> cases x4 : a.seq != b.seq <;> cases x5 : a.next != b.next <;> cases x6 : a.cut != b.cut <;> simp_all <;> omega
  refine Go0 ?_
  rw [decide_eq_false (fun e => hc (by rw [e]; simp))]
  exact RM.i0
theorem QwE : HB 76 := hB Tryz.func76
theorem QoE (a b : Zone) : Qe2 a b = decide (a = b) := by
 unfold Qe2
 rw [Bool.eq_iff_iff]
 cases a; cases b
 simp only [Bool.and_eq_true, decide_eq_true_eq, Zone.mk.injEq]
 constructor
 ·rintro ⟨⟨h1, h2, -⟩, h3⟩; exact ⟨h1, h2, h3⟩
 ·rintro ⟨rfl, rfl, rfl⟩; exact ⟨⟨rfl, rfl, rfl⟩, rfl⟩
theorem Qrr : ∀ a b : List Zone, Qbc a b = decide (a = b)
 | [], [] => by simp [Qbc]
 | x :: r, y :: r' => by
  rw [Bool.eq_iff_iff]
  simp [Qbc, QoE, Qrr r r']
 | [], _ :: _ => by simp [Qbc]
 | _ :: _, [] => by simp [Qbc]
theorem Qw1 (a b : Dev) : same a b = decide (a = b) := by
 unfold same
 rw [Qrr, Bool.eq_iff_iff]
 cases a; cases b
 simp only [Bool.and_eq_true, decide_eq_true_eq, Dev.mk.injEq]
 constructor
 ·rintro ⟨⟨h1, h2, h3, -⟩, h4⟩; exact ⟨h1, h2, h3, h4⟩
 ·rintro ⟨rfl, rfl, rfl, rfl⟩; exact ⟨⟨rfl, rfl, rfl, rfl⟩, rfl⟩
theorem Qxy {a b : St} (h0 : a.cfg = b.cfg) (h1 : a.dev = b.dev) (h2 : a.map = b.map) (h3 : a.live = b.live) (h4 : a.pend = b.pend) (h5 : a.owner = b.owner) (h6 : a.glob = b.glob) (h7 : a.pins = b.pins) (h8 : a.rets = b.rets) (h9 : a.free = b.free) (h10 : a.host = b.host) (h11 : a.lane = b.lane) (h12 : a.rings = b.rings) (h13 : a.works = b.works) (h14 : a.cln = b.cln) (h15 : a.sav = b.sav) (h16 : a.next = b.next) (h17 : a.serial = b.serial) (h18 : a.seq = b.seq) (h19 : a.slot = b.slot) (h20 : a.want = b.want) (h21 : a.closed = b.closed) (h22 : a.evs = b.evs) : a = b := by
 cases a; cases b
 simp only [St.mk.injEq]
 exact ⟨h0, h1, h2, h3, h4, h5, h6, h7, h8, h9, h10, h11, h12, h13, h14, h15, h16, h17, h18, h19, h20, h21, h22⟩
theorem orF {a b : Bool} (h : (bif a then true else b) = false) : a = false ∧ b = false := by cases a <;> simp_all
set_option maxHeartbeats 4000000 in
theorem QwT (a b : St) (ha : a.small) : PS 31 [.a a.cells, .a b.cells] (.c (.bool (decide (a = b)))) := by
 refine PSpec.rm ?_
 refine ov0 hΓ Tryz.func31 178 0 [.tmp 4] Tryz.ntmps31 Tryz.results31 ?_
 refine CallG.auto Qxc (fun _ => Qxd a.dev b.dev ) (Go0 ?_)
 refine CallG.auto QwM (fun _ => QwJ a.map b.map ha.map ha.shard ) (Go0 ?_)
 refine CallG.auto QwP (fun _ => QwR a.live b.live a.pend b.pend ha.live ha.pend ) (Go0 ?_)
 refine CallG.auto Qv9 (fun _ => Qwa a.owner b.owner ha.owner ) (Go0 ?_)
 refine CallG.auto QwK (fun _ => QwO a.glob b.glob a.pins b.pins a.rets b.rets ha.pins ha.rets ) (Go0 ?_)
 refine CallG.auto QwU (fun _ => QwW a.free b.free a.host a.lane b.host b.lane ha.free ) (Go0 ?_)
 refine Br.mk (fun h => ?_) (fun h => ?_)
 ·refine Go0 ?_
  rw [decide_eq_false (fun e => by subst e; simp [Qw1] at h)]
  exact RM.i0
 ·obtain ⟨h, h9⟩ := orF h
  obtain ⟨h, h8⟩ := orF h
  obtain ⟨h, h7⟩ := orF h
  obtain ⟨h, h6⟩ := orF h
  obtain ⟨h, h5⟩ := orF h
  obtain ⟨h, h4⟩ := orF h
  obtain ⟨h, h3⟩ := orF h
  obtain ⟨h1, h2⟩ := orF h
  rw [Qxw] at h1
  rw [Qw1] at h2
  simp only [Bool.not_eq_false', decide_eq_true_eq] at h1 h2 h3 h4 h5 h6 h7
  simp only [bne_eq_false_iff_eq, Int.natCast_inj] at h8 h9
  refine Go0 ?_
  refine Lp.mkK hΓ (ι := Nat) [2, 3] (fun i => [(5, .c (.int .i64 i))]) (fun _ => [.vr a.cells, .vr b.cells]) (fun i => i ≤ a.rings.length ∧ ∀ j, j < i → a.rings.getD j default = b.rings.getD j default) (fun i => a.rings.length - i) 0 ⟨Nat.zero_le _, fun j hj => absurd hj (Nat.not_lt_zero _)⟩ ?_ ?_
  ·exact Mv.k0
  ·rintro k ⟨hk, hk2⟩
   have hri := ha.items k
   have hrl := ha.rings
   refine Go1 fun _h=>?_
   refine Br.of (fun hh=>Go0 ?_) (fun hh=>Go0 ?_)
   ·refine Dr.mk hΓ hMix (by kernel_rfl) (Go0 ?_)
    refine CallP.auto QwZ (QwV (a.rings.getD k default) (b.rings.getD k default) hri ) (Go0 ?_)
    by_cases e : a.rings.getD k default = b.rings.getD k default
    ·refine Br.no (by simp only [e, decide_true, Bool.not_true]) (Go0 ?_)
     have w0 := Qa (↑k + 1) om om
     refine ⟨k + 1, ⟨om, QD hk2 e⟩, om, ?_⟩
     exact Mv.k0
    ·refine Br.yes (by simp only [e, decide_false, Bool.not_false]) (Go0 ?_)
     rw [decide_eq_false (fun q => Qn5 e (by rw [q]))]
     exact RM.i0
   ·have er : a.rings = b.rings := QoT om (fun i hi => hk2 i om)
    clear hk hk2 hh
    refine Lp.mkK hΓ (ι := Nat) [2, 3] (fun i => [(6, .c (.int .i64 i))]) (fun _ => [.vr a.cells, .vr b.cells]) (fun i => i ≤ a.works.length ∧ ∀ j, j < i → a.works.getD j default = b.works.getD j default) (fun i => a.works.length - i) 0 ⟨Nat.zero_le _, fun j hj => absurd hj (Nat.not_lt_zero _)⟩ ?_ ?_
    ·exact Mv.k0
    ·rintro q ⟨hq, hq2⟩
     have hwl := ha.works
     refine Go1 fun _h=>?_
     refine Br.of (fun hh=>Go0 ?_) (fun hh=>Go0 ?_)
     ·refine Dr.mk hΓ hMix (by kernel_rfl) (Go0 ?_)
      by_cases e : a.works.getD q default = b.works.getD q default
      ·refine Br.no ((Qxn (a.works.getD q default) (b.works.getD q default)).trans (by simp only [e, decide_true, Bool.not_true])) (Go0 ?_)
       have w0 := Qa (↑q + 1) om om
       refine ⟨q + 1, ⟨om, QD hq2 e⟩, om, ?_⟩
       exact Mv.k0
      ·refine Br.yes ((Qxn (a.works.getD q default) (b.works.getD q default)).trans (by simp only [e, decide_false, Bool.not_false])) (Go0 ?_)
       rw [decide_eq_false (fun q => Qn5 e (by rw [q]))]
       exact RM.i0
     ·have ew : a.works = b.works := QoT om (fun i hi => hq2 i om)
      clear hq hq2 hh
      refine CallG.auto QwE (fun _ => QwA a.sav b.sav ha.ents ha.recs ) ?_
      conv=>whnf
      repeat' ((first | refine Need.mk (fun h => h) ?_ | refine Need.auto ?_ | refine Have.mk (fun _h => ?_)); conv=>whnf)
      refine CallG.auto QwL (fun _ => QwQ a.evs b.evs ha.evs ) ?_
      conv=>whnf
      repeat' ((first | refine Need.mk (fun h => h) ?_ | refine Need.auto ?_ | refine Have.mk (fun _h => ?_)); conv=>whnf)
      refine RM.immW rfl (WS.c (WC.bool ?_))
      rw [QxA, Bool.eq_iff_iff]
      simp only [Bool.cond_false_right, Bool.and_eq_true, decide_eq_true_eq, beq_iff_eq]
      constructor
      ·rintro ⟨⟨⟨⟨⟨⟨⟨⟨q1, q2⟩, q3⟩, q4⟩, q5⟩, q6⟩, q7⟩, q8⟩, q9⟩
       exact Qxy h1 h2 h3 h4.1 h4.2 h5 h6.1 h6.2.1 h6.2.2 h7.2.2 h7.1 h7.2.1 er ew q1 q2 q3 q4 q5 q6 q7 q8 q9
      ·intro e
       subst e
       simp only [and_self]
theorem QwS : HB 31 := hB Tryz.func31
end Go.Proofs
end
