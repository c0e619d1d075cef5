/- Contracts, lemmas; no condition. -/
import Derived.Test.YtkelkepdcfogaaaGreatP18D
import Derived.Test.YtkelkepdcfogaaaGreatP13D
import Derived.Test.YtkelkepdcfogaaaGreatP11D
import Derived.Test.YtkelkepdcfogaaaGreatEnvD
import Derived.Test.YtkelkepdcfogaaaGreatP16D
import Derived.Test.YtkelkepdcfogaaaGreatP17D
set_option linter.all false
section
open Go Go.Am
namespace Go.Proofs
set_option maxRecDepth 20000
theorem entOk_iff {e : Ent} : QbE e = true ↔ (e.kind = 1 ∨ e.kind = 2) ∧ 1 ≤ e.version ∧ e.version ≤ 1099511627776 ∧ 0 ≤ e.move ∧ e.move ≤ 255 ∧ 0 ≤ e.block ∧ 0 ≤ e.zone ∧ 0 ≤ e.offset := by
 unfold QbE; rw [decide_eq_true_eq]
theorem QqM (n : Int) : PS 163 [.c (.int .i64 n)] (.c (.bool (decide (0 ≤ n ∧ n ≤ 255)))) := by
 refine PSpec.rm ?_
 refine ov0 hΓ Tryz.func163 9 0 [.tmp 2] Tryz.ntmps163 Tryz.results163 ?_
 exact RM.i0
theorem Qqz : HB 163 := hB Tryz.func163
theorem Qog (z o : Int) : PS 164 [.a [.int .i64 z, .int .i64 o]] (.c (.bool (decide (0 ≤ z ∧ 0 ≤ o)))) := by
 refine PSpec.rm ?_
 refine ov0 hΓ Tryz.func164 11 0 [.tmp 2] Tryz.ntmps164 Tryz.results164 ?_
 exact RM.i0
theorem Qom : HB 164 := hB Tryz.func164
theorem Qia (e : Ent) : PS 143 [.a e.cells] (.c (.bool (QbE e))) := by
 refine PSpec.rm ?_
 refine ov0 hΓ Tryz.func143 36 0 [.tmp 2] Tryz.ntmps143 Tryz.results143 ?_
 refine CallG.auto Qqz (fun _ => QqM e.move ) (Go0 ?_)
 refine CallG.auto Qom (fun _ => Qog e.zone e.offset ) (Go0 ?_)
 refine RM.immW rfl (WS.c (WC.bool ?_))
 rw [Bool.eq_iff_iff, entOk_iff]
 by_cases h1 : e.kind = 1 <;> by_cases h2 : e.kind = 2 <;> simp [h1, h2] <;> omega
theorem Qic : HB 143 := hB Tryz.func143
theorem QpI {k : Nat} {a b : Int} : (bif decide ((k : Int) > 0) then decide (a ≥ b) else false) = decide (0 < k ∧ b ≤ a) := by
 by_cases h : 0 < k
 ·rw [decide_eq_true (show (k : Int) > 0 by omega)]
  exact decide_eq_decide.2 ⟨fun q => ⟨h, q⟩, fun q => q.2⟩
 ·rw [decide_eq_false (show ¬ (k : Int) > 0 by omega)]
  exact (decide_eq_false fun q => h q.1).symm
theorem QeZ (l : List Ent) (hl : l.length ≤ 1000000) : PS 142 [.c (QQ l)] (.c (.bool (QT l))) := by
 refine PSpec.rm ?_
 refine ov hΓ Tryz.func142 31 0 [.tmp 2] Tryz.ntmps142 Tryz.results142 ?_
 refine Go1 fun _h=>?_
 refine Lp.mkK hΓ (ι := Nat) [0, 5, 6] (fun i => [(7, .c (.int .i64 i))]) (fun _ => []) (fun k => k ≤ l.length ∧ ∀ i, i < k → QbE (l.getD i default) = true ∧ (0 < i → (l.getD (i - 1) default).block < (l.getD i default).block)) (fun i => l.length - i) 0 ⟨Nat.zero_le _, fun j hj => absurd hj (Nat.not_lt_zero _)⟩ ?_ ?_
 ·exact Mv.k0
 ·rintro k ⟨hk, hk2⟩
  refine Go0 ?_
  refine Br.of (fun h2=>Go0 ?_) (fun h2=>Go0 ?_)
  ·refine Dr.mk hΓ hMix (by kernel_rfl) (Go0 ?_)
   refine CallP.auto Qic (Qia (l.getD k default) ) (Go0 ?_)
   have hw : IntKind.i64.wrap (↑k - 1) = ↑k - 1 := Qa _ (by omega) (by omega)
   refine Need.mk (fun h => by rw [hw]; simp only [Bool.and_eq_true, decide_eq_true_eq] at h; omega) ?_
   conv=>whnf
   refine Need.mk (fun h => by rw [hw]; simp only [Bool.and_eq_true, decide_eq_true_eq] at h; omega) (Go0 ?_)
   have hp : (IntKind.i64.wrap (↑k - 1)).toNat = k - 1 := by rw [hw]; omega
   have w0 := Qa (↑k + 1) (by omega) (by omega)
   by_cases e : QbE (l.getD k default) = true ∧ (0 < k → (l.getD (k - 1) default).block < (l.getD k default).block)
   ·refine Br.no ?_ ?_
    ·rw [hp, e.1]
     refine (QpI (k := k)).trans (decide_eq_false fun q => ?_)
     have := e.2 q.1
     have q2 : (l.getD k default).block ≤ (l.getD (k - 1) default).block := q.2
     omega
    refine Go0 ?_
    refine ⟨k + 1, ⟨by omega, QbA hk2 e⟩, by omega, ?_⟩
    exact Mv.k0
   ·refine Br.yes ?_ ?_
    ·rw [hp]
     show (bif !QbE (l.getD k default) then true else bif decide ((k : Int) > 0) then decide ((l.getD (k - 1) default).block ≥ (l.getD k default).block) else false) = true
     cases h1 : QbE (l.getD k default) with
     | false => rfl
     | true =>
      have h0 : 0 < k := by
       rcases Nat.eq_zero_or_pos k with c | c
       ·exact absurd ⟨h1, fun q => by omega⟩ e
       ·exact c
      have h3 : (l.getD k default).block ≤ (l.getD (k - 1) default).block := by
       have : ¬ (l.getD (k - 1) default).block < (l.getD k default).block := fun q => e ⟨h1, fun _ => q⟩
       omega
      exact (QpI (k := k)).trans (decide_eq_true ⟨h0, h3⟩)
    refine Go0 ?_
    rw [show QT l = false from decide_eq_false (fun q => e (q k (by omega)))]
    exact RM.i0
  ·rw [show QT l = true from decide_eq_true (fun i hi => hk2 i (by omega))]
   exact RM.i0
theorem Qe0 : HB 142 := hB Tryz.func142
theorem QbW {α : Type} [Inhabited α] {l : List α} {p : α → Bool} {k : Nat} (hk : k < l.length) (h : p (l.getD k default) = true) (hs : ∀ j, j < k → p (l.getD j default) = false) : l.any p = true ∧ l.findIdx p = k := by
 have ek : ∀ j (h : j < l.length), l.getD j default = l[j] := fun j h => by simp [List.getD, h]
 refine ⟨List.any_eq_true.2 ⟨l[k], List.getElem_mem hk, by rw [← ek k hk]; exact h⟩, ?_⟩
 rw [List.findIdx_eq hk]
 exact ⟨by rw [← ek k hk]; exact h, fun j hj => by rw [← ek j (by omega)]; exact hs j hj⟩
theorem QnB {α : Type} [Inhabited α] {l : List α} {p : α → Bool} (hs : ∀ j, j < l.length → p (l.getD j default) = false) : ¬ l.any p = true := by
 rw [List.any_eq_true]
 rintro ⟨x, hx, hp⟩
 obtain ⟨j, hj, rfl⟩ := List.getElem_of_mem hx
 have := hs j hj
 rw [show l.getD j default = l[j] by simp [List.getD, hj]] at this
 rw [this] at hp
 cases hp
theorem any_iff {α : Type} [Inhabited α] {l : List α} {p : α → Bool} : l.any p = false ↔ ∀ j, j < l.length → p (l.getD j default) = false := by
 constructor
 ·intro h j hj
  cases hp : p (l.getD j default) with
  | false => rfl
  | true =>
   have : l.any p = true := List.any_eq_true.2 ⟨l[j], List.getElem_mem hj, by rw [← hp]; simp [List.getD, hj]⟩
   rw [this] at h; cases h
 ·intro h
  cases hp : l.any p with
  | false => rfl
  | true => exact absurd hp (QnB h)
def Qaa (m : List (List Ent)) (b : Int) : Int := if b < 0 ∨ m.length = 0 then -1 else b.tmod m.length
theorem QhX (m : List (List Ent)) (b : Int) (hm : m.length ≤ 1000000) : PS 140 [.a [Qh m], .c (.int .i64 b)] (.c (.int .i64 (Qaa m b))) := by
 refine PSpec.rm ?_
 refine ov0 hΓ Tryz.func140 18 0 [.tmp 4] Tryz.ntmps140 Tryz.results140 ?_
 by_cases h : b < 0 ∨ m.length = 0
 ·refine Br.yes (by rcases h with h | h <;> simp [h]) ?_
  refine Go0 ?_
  rw [show Qaa m b = -1 from if_pos h]
  exact RM.i0
 ·have h1 : ¬ b < 0 := by omega
  have h2 : ¬ (m.length : Int) = 0 := by omega
  refine Br.no (by rw [decide_eq_false h1]; exact decide_eq_false h2) (Go1 fun _h=>?_)
  rw [show Qaa m b = b.tmod m.length from if_neg h]
  exact RM.i0
theorem QhP : HB 140 := hB Tryz.func140
def capR (m : List (List Ent)) (i : Int) : Nat → C
 | 0 => .ip 1 fun _ => Qh m
 | _ => .ip 1 fun _ => .int .i64 i
theorem Qie (m : List (List Ent)) (i : Int) (j : Nat) : (capR m i j).imm = true := by
 unfold capR; split <;> rfl
theorem QoS (m : List (List Ent)) (i : Int) (e : Ent) (hm : m.length ≤ 1000000) : PS 162 [.a e.cells, .c (.ip 1 fun _ => Qh m), .c (.ip 1 fun _ => .int .i64 i)] (.c (.bool (!decide (Qaa m e.block = i)))) := by
 refine PSpec.rm ?_
 refine ov0 hΓ Tryz.func162 11 0 [.tmp 4] Tryz.ntmps162 Tryz.results162 ?_
 refine Dr.mk hΓ hMix (by kernel_rfl) (Go0 ?_)
 refine CallP.auto QhP (QhX m e.block hm ) (Go0 ?_)
 exact RM.i0
theorem Qoo : HB 162 := hB Tryz.func162
theorem QoT (m : List (List Ent)) (q0 : Int) (hm : m.length ≤ 1000000) (l : List Ent) (hl : l.length ≤ 1000000) : PS 177 [.c (QQ l), .c (.fn (.func 162) 2 (capR m q0))] (.c (.int .i64 (if l.any (fun (e : Ent) => !decide (Qaa m e.block = q0)) = true then (l.findIdx (fun (e : Ent) => !decide (Qaa m e.block = q0)) : Nat) else -1))) := by
 refine PSpec.rm ?_
 refine ov hΓ Tryz.func177 19 0 [.tmp 4] Tryz.ntmps177 Tryz.results177 ?_
 refine Go1 fun _h=>?_
 refine Lp.mkK hΓ (ι := Nat) [0, 1, 7] (fun i => [(8, .c (.int .i64 i))]) (fun _ => []) (fun i => i ≤ l.length ∧ ∀ j, j < i → (fun (e : Ent) => !decide (Qaa m e.block = q0)) (l.getD j default) = false) (fun i => l.length - i) 0 ⟨Nat.zero_le _, fun j hj => absurd hj (by omega)⟩ ?_ ?_
 ·refine Mv.k1 ?_
  exact WC.fnI (fun j _ => Qie m q0 j)
 ·rintro k ⟨hk, hs⟩
  refine Go0 ?_
  refine Br.of (fun h1=>Go0 ?_) (fun h1=>Go0 ?_)
  ·refine CallN.pureA Qoo (QoS m q0 (l.getD k default) hm ) (Go0 ?_)
   cases hb : (fun (e : Ent) => !decide (Qaa m e.block = q0)) (l.getD k default) with
   | true =>
    refine Br.yes hb (Go0 ?_)
    obtain ⟨q1, q2⟩ := QbW (p := fun (e : Ent) => !decide (Qaa m e.block = q0)) (by omega) hb hs
    rw [if_pos q1, q2]
    exact RM.i0
   | false =>
    refine Br.no hb (Go0 ?_)
    have w0 := Qa (↑k + 1) (by omega) (by omega)
    refine ⟨k + 1, ⟨by omega, QbA hs hb⟩, by omega, ?_⟩
    refine Mv.k1 ?_
    exact WC.fnI (fun j _ => Qie m q0 j)
  ·rw [if_neg (QnB (fun j hj => hs j (by omega)))]
   exact RM.i0
theorem QoG : HB 177 := hB Tryz.func177
theorem Qrv (m : List (List Ent)) (q0 : Int) (hm : m.length ≤ 1000000) (l : List Ent) (hl : l.length ≤ 1000000) : PS 161 [.c (QQ l), .c (.fn (.func 162) 2 (capR m q0))] (.c (.bool (l.any (fun (e : Ent) => !decide (Qaa m e.block = q0))))) := by
 refine PSpec.rm ?_
 refine ov0 hΓ Tryz.func161 9 0 [.tmp 4] Tryz.ntmps161 Tryz.results161 ?_
 refine CallN.reads QoG (QoT m q0 hm l hl) (BwA.cons (BwS.c (Bw.same rfl)) (BwA.cons (BwS.c (Bw.fn fun j _ => Bw.same (Qie m q0 j))) BwA.nil)) rfl (Go0 ?_)
 refine RM.i1 ?_
 cases l.any (fun (e : Ent) => !decide (Qaa m e.block = q0)) with
 | true => simp
 | false => rfl
theorem Qq4 : HB 161 := hB Tryz.func161
theorem QrZ {l : List (List Ent)} {x : List Ent} {t : List C} {n i j : Nat} (hn : n = l.length) (hi : i < l.length + 1) (hj : j < 1) : appG (Qd2 l) n (Q4 1 (QQ x :: t)) i j = Qd2 (l ++ [x]) i j :=
 Qd7 (f := fun l _ => QQ l) hn (fun j hj => by
  have : j = 0 := by omega
  subst this; rfl) hi hj
theorem QnR {α : Type} (l : List α) {k : Nat} (hk : k ≤ l.length) : (l.take k).length = k := by rw [List.length_take]; omega
theorem Q6 {α : Type} [Inhabited α] (l : List α) {k : Nat} (hk : k < l.length) : l.take (k + 1) = l.take k ++ [l.getD k default] := by
 rw [List.take_succ_eq_append_getElem hk]
 simp [List.getD, hk]
theorem QgX {m : List (List Ent)} {l : List Ent} {i : Nat} (hl : QT l = true) (hm : 1 ≤ m.length) : (l.any fun (e : Ent) => !decide (Qaa m e.block = (i : Int))) = !Qbl l m.length i := by
 have hb : ∀ k, k < l.length → 0 ≤ (l.getD k default).block := fun k hk => (entOk_iff.1 ((of_decide_eq_true hl) k hk).1).2.2.2.2.2.1
 have e : ∀ k, k < l.length → Qaa m (l.getD k default).block = (l.getD k default).block.tmod m.length := fun k hk => if_neg (by have := hb k hk; omega)
 cases h : Qbl l m.length i with
 | true =>
  refine any_iff.2 fun k hk => ?_
  rw [e k hk]
  have := of_decide_eq_true h k hk
  simp only [this, decide_true, Bool.not_true]
 | false =>
  cases h2 : (l.any fun (e : Ent) => !decide (Qaa m e.block = (i : Int))) with
  | true => rfl
  | false =>
   have : Qbl l m.length i = true := decide_eq_true fun k hk => by
    have := any_iff.1 h2 k hk
    rw [e k hk] at this
    simpa using this
   rw [this] at h; cases h
theorem Qok (m : List (List Ent)) (hm : m.length ≤ 1000000) (hs : ∀ i, (m.getD i default).length ≤ 1000000) : PS 141 [.a [Qh m]] (.c (.bool (Q7 m))) := by
 refine PSpec.rm ?_
 refine ov hΓ Tryz.func141 32 0 [.tmp 2] Tryz.ntmps141 Tryz.results141 ?_
 refine Go1 fun _h=>?_
 by_cases h : 1 ≤ m.length ∧ m.length ≤ 8
 ·have h1 : ¬ (m.length : Int) < 1 := by omega
  have h2 : ¬ (m.length : Int) > 8 := by omega
  refine Br.no (by rw [decide_eq_false h1]; exact decide_eq_false h2) (Go1 fun _h=>?_)
  refine Lp.mkK hΓ (ι := Nat) [1, 16, 17] (fun i => [(18, .c (.int .i64 i))]) (fun _ => [.vr [Qh m]]) (fun k => k ≤ m.length ∧ ∀ i, i < k → QT (m.getD i default) = true ∧ Qbl (m.getD i default) m.length i = true) (fun i => m.length - i) 0 ⟨Nat.zero_le _, fun j hj => absurd hj (Nat.not_lt_zero _)⟩ ?_ ?_
  ·exact Mv.k0
  ·rintro k ⟨hk, hk2⟩
   have hsk := hs k
   refine Go0 ?_
   refine Br.of (fun h3=>Go0 ?_) (fun h3=>Go0 ?_)
   ·refine CallN.pureA Qe0 (QeZ (m.getD k default) hsk ) (Go0 ?_)
    refine CallG.reads Qq4 (fun _ => Qrv m k hm (m.getD k default) hsk) (fun _ => BwA.cons (BwS.c (Bw.same rfl)) (BwA.cons (BwS.c (Bw.fn2 (g := lget [.ptr 0 0, .ptr 1 0]) (g' := capR m k) (Bw.ptr1 rfl rfl) (Bw.ptr1 rfl rfl))) BwA.nil)) rfl (Go0 ?_)
    have w0 := Qa (↑k + 1) (by omega) (by omega)
    by_cases e : QT (m.getD k default) = true ∧ Qbl (m.getD k default) m.length k = true
    ·refine Br.no (by rw [e.1, QgX e.1 h.1, e.2]; rfl) (Go0 ?_)
     refine ⟨k + 1, ⟨by omega, QbA hk2 e⟩, by omega, ?_⟩
     exact Mv.k0
    ·refine Br.yes ?_ ?_
     ·cases h4 : QT (m.getD k default) with
      | false => rfl
      | true =>
       rw [QgX h4 h.1]
       cases h5 : Qbl (m.getD k default) m.length k with
       | false => rfl
       | true => exact absurd ⟨h4, h5⟩ e
     refine Go0 ?_
     rw [show Q7 m = false by
      unfold Q7
      rw [decide_eq_true h, decide_eq_false (fun q => e (q k (by omega)))]; rfl]
     exact RM.i0
   ·rw [show Q7 m = true by
     unfold Q7
     rw [decide_eq_true h, decide_eq_true (fun i hi => hk2 i (by omega))]; rfl]
    exact RM.i0
 ·refine Br.yes ?_ ?_
  ·by_cases h1 : (m.length : Int) < 1
   ·rw [decide_eq_true h1]; rfl
   ·rw [decide_eq_false h1]; exact decide_eq_true (by omega)
  refine Go0 ?_
  rw [show Q7 m = false by unfold Q7; rw [decide_eq_false h]; rfl]
  exact RM.i0
theorem QoE : HB 141 := hB Tryz.func141
theorem Qqe (l : List Int) : PS 7 [.c (QbY l)] (.c (.bool (decide (l.length ≤ 300)))) := by
 refine PSpec.rm ?_
 refine ov hΓ Tryz.func7 6 0 [.tmp 2] Tryz.ntmps7 Tryz.results7 ?_
 refine Go1 fun _h=>?_
 refine RM.i1 ?_
 exact decide_eq_decide.2 (by omega)
theorem QqV : HB 7 := hB Tryz.func7
theorem QaB (x n : Int) : PS 13 [.c (.int .i64 x), .c (.int .i64 n)] (.c (.int .i64 (modI x n))) := by
 refine PSpec.rm ?_
 refine ov0 hΓ Tryz.func13 14 0 [.tmp 4] Tryz.ntmps13 Tryz.results13 ?_
 refine Br.of (fun h=>Go0 ?_) (fun h=>Go0 ?_)
 ·rw [Qta (by omega)]
  exact RM.i0
 ·rw [show modI x n = (IntKind.i64.wrap (x.tmod n + n)).tmod n from if_neg (by omega)]
  exact RM.i0
theorem QaC : HB 13 := hB Tryz.func13
theorem QkC (l : List Int) (hl : l.length ≤ 10000000) : CS 27 [.c (QbY l)] [] fun s H => s = .c (.ptr 0 0) ∧ H = [.vr (DiceM.cells ⟨l, 0⟩)] := by
 refine CSpec.rm ?_
 refine ov0 hΓ Tryz.func27 8 0 [.tmp 2] Tryz.ntmps27 Tryz.results27 ?_
 refine ⟨_, _, ?_, rfl, rfl⟩
 refine RM.rg 0 (g' := QcT .i64 l) rfl (fun i _ j _ => Qkp j) rfl ?_
 refine RM.fz 0 rfl (Nat.zero_le _) (fun i _ j _ => rfl) ?_
 exact RM.renW [1] (by decide) wb0 wb0
theorem QkR : HB 27 := hB Tryz.func27
theorem QaM (d : DiceM) (hd : d.ok) (n : Int) : CS 34 [.c (.ptr 0 0), .c (.int .i64 n)] [.vr d.cells] fun s H => s = .c (.int .i64 (d.next n)) ∧ H = [.vr d.step.cells] := by
 refine CSpec.rm ?_
 refine ov hΓ Tryz.func34 35 1 [.tmp 4] Tryz.ntmps34 Tryz.results34 ?_
 have h1 := hd.le
 have h2 := hd.len
 refine Go0 ?_
 refine Dr.mk hΓ hMix (by kernel_rfl) (Go0 ?_)
 refine Br.of (fun h=>Go0 ?_) (fun h=>Go0 ?_)
 ·have h' : d.l.length ≤ d.at_ := by omega
  refine ⟨_, _, ?_, rfl, rfl⟩
  rw [show d.step = d from if_pos h', show d.next n = 0 from if_pos h']
  exact RM.w0
 ·have h' : ¬ d.l.length ≤ d.at_ := by omega
  have w0 := Qa (↑d.at_ + 1) (by omega) (by omega)
  have w1 := Qa (↑d.at_ + 1 - 1) (by omega) (by omega)
  refine Dr.mk hΓ hMix (by kernel_rfl) (Go0 ?_)
  have e0 : (IntKind.i64.wrap (IntKind.i64.wrap (↑d.at_ + 1) - 1)).toNat = d.at_ := by rw [w0, w1]; omega
  rw [e0]
  refine CallP.auto QaC (QaB (d.l.getD d.at_ 0) n ) (Go0 ?_)
  refine ⟨_, _, ?_, rfl, rfl⟩
  rw [show d.step = ⟨d.l, d.at_ + 1⟩ from if_neg h', show d.next n = modI (d.l.getD d.at_ 0) n from if_neg h']
  exact RM.w0
theorem QaN : HB 34 := hB Tryz.func34
def Qdr (blocks size : Int) : Int := 2 * (blocks + 2 + size - 1).tdiv size + 6
def Qcc (d : DiceM) : Conf :=
 ⟨Qdr (1 + d.step.next 6) (3 + d.next 4) + d.step.step.step.step.step.next 3, 3 + d.next 4, 1 + d.step.next 6, 1 + d.step.step.next 3, 1 + d.step.step.step.next 3, 1 + d.step.step.step.step.next 3⟩
def QiO (d : DiceM) : DiceM := d.step.step.step.step.step.step
theorem Qjy (d : DiceM) (hd : d.ok) : CS 26 [.c (.ptr 0 0)] [.vr d.cells] fun s H => s = .a (Qcc d).cells ∧ H = [.vr (QiO d).cells] := by
 refine CSpec.rm ?_
 refine ov0 hΓ Tryz.func26 37 1 [.cell 2 26] Tryz.ntmps26 Tryz.results26 ?_
 refine CallN.autoQ [0] QaN (QaM d hd 4) (Go0 ?_)
 refine CallN.autoQ [0] QaN (QaM d.step hd.step 6) (Go0 ?_)
 refine CallN.autoQ [0] QaN (QaM d.step.step hd.step.step 3) (Go0 ?_)
 refine CallN.autoQ [0] QaN (QaM d.step.step.step hd.step.step.step 3) (Go0 ?_)
 refine CallN.autoQ [0] QaN (QaM d.step.step.step.step hd.step.step.step.step 3) (Go0 ?_)
 have r1 := d.next_range (n := 4) (by omega) (by omega)
 have r2 := d.step.next_range (n := 6) (by omega) (by omega)
 have r3 := d.step.step.next_range (n := 3) (by omega) (by omega)
 have r4 := d.step.step.step.next_range (n := 3) (by omega) (by omega)
 have r5 := d.step.step.step.step.next_range (n := 3) (by omega) (by omega)
 have r6 := d.step.step.step.step.step.next_range (n := 3) (by omega) (by omega)
 have w1 := Qa (3 + d.next 4) (by omega) (by omega)
 have w2 := Qa (1 + d.step.next 6) (by omega) (by omega)
 refine Dr.mkE hΓ hMix [34] [(0, 13), (1, 13), (2, 13), (3, 13), (4, 13), (5, 13), (6, 13), (7, 13), (8, 13), (9, 13), (10, 13), (11, 13)] (by kernel_rfl) (Go0 ?_)
 refine CallE.autoQ [0] QaN (QaM d.step.step.step.step.step hd.step.step.step.step.step 3) (Go0 ?_)
 refine ⟨_, _, ?_, rfl, rfl⟩
 have hq : 0 ≤ (1 + d.step.next 6 + 2 + (3 + d.next 4) - 1).tdiv (3 + d.next 4) ∧ (1 + d.step.next 6 + 2 + (3 + d.next 4) - 1).tdiv (3 + d.next 4) ≤ 100 := by
  rw [Int.tdiv_eq_ediv_of_nonneg (by omega)]
  exact ⟨Int.ediv_nonneg (by omega) (by omega), Int.ediv_le_of_le_mul (by omega) (by omega)⟩
 have e1 : IntKind.i64.wrap (IntKind.i64.wrap (2 * IntKind.i64.wrap ((IntKind.i64.wrap (IntKind.i64.wrap (IntKind.i64.wrap (IntKind.i64.wrap (1 + d.step.next 6) + 2) + IntKind.i64.wrap (3 + d.next 4)) - 1)).tdiv (IntKind.i64.wrap (3 + d.next 4)))) + 6) = Qdr (1 + d.step.next 6) (3 + d.next 4) := by
  rw [w1, w2, Qa (1 + d.step.next 6 + 2) (by omega) (by omega), Qa (1 + d.step.next 6 + 2 + (3 + d.next 4)) (by omega) (by omega), Qa (1 + d.step.next 6 + 2 + (3 + d.next 4) - 1) (by omega) (by omega)]
  rw [Qa ((1 + d.step.next 6 + 2 + (3 + d.next 4) - 1).tdiv (3 + d.next 4)) (by omega) (by omega), Qa (2 * (1 + d.step.next 6 + 2 + (3 + d.next 4) - 1).tdiv (3 + d.next 4)) (by omega) (by omega)]
  exact Qa _ (by omega) (by omega)
 have e2 : IntKind.i64.wrap (Qdr (1 + d.step.next 6) (3 + d.next 4) + d.step.step.step.step.step.next 3) = Qdr (1 + d.step.next 6) (3 + d.next 4) + d.step.step.step.step.step.next 3 := Qa _ (by unfold Qdr; omega) (by unfold Qdr; omega)
 have f6 : IntKind.i64.wrap (1 + d.step.step.step.step.next 3) = (Qcc d).shards := Qa _ (by omega) (by omega)
 have f5 : IntKind.i64.wrap (1 + d.step.step.step.next 3) = (Qcc d).depth := Qa _ (by omega) (by omega)
 have f4 : IntKind.i64.wrap (1 + d.step.step.next 3) = (Qcc d).queues := Qa _ (by omega) (by omega)
 have f3 : IntKind.i64.wrap (1 + d.step.next 6) = (Qcc d).blocks := w2
 have f2 : IntKind.i64.wrap (3 + d.next 4) = (Qcc d).size := w1
 have f1 : IntKind.i64.wrap (IntKind.i64.wrap (IntKind.i64.wrap (2 * IntKind.i64.wrap ((IntKind.i64.wrap (IntKind.i64.wrap (IntKind.i64.wrap (IntKind.i64.wrap (1 + d.step.next 6) + 2) + IntKind.i64.wrap (3 + d.next 4)) - 1)).tdiv (IntKind.i64.wrap (3 + d.next 4)))) + 6) + d.step.step.step.step.step.next 3) = (Qcc d).zones := by rw [e1]; exact e2
 rw [show QiO d = d.step.step.step.step.step.step from rfl]
 clear w1 w2 e1 e2 r1 r2 r3 r4 r5 r6 hq
 refine RM.wkW ?_ ?_ leN
 ·exact wb0
 ·refine WS.a (WL.cons (WC.int f1) (WL.cons (WC.int f2) (WL.cons (WC.int f3) (WL.cons (WC.int f4) (WL.cons (WC.int f5) (WL.cons (WC.int f6) WL.nil))))))
theorem Qjh : HB 26 := hB Tryz.func26
theorem QmQ (d : DiceM) : Qn (Qcc d) = 0 := by
 have r1 := d.next_range (n := 4) (by omega) (by omega)
 have r2 := d.step.next_range (n := 6) (by omega) (by omega)
 have r3 := d.step.step.next_range (n := 3) (by omega) (by omega)
 have r4 := d.step.step.step.next_range (n := 3) (by omega) (by omega)
 have r5 := d.step.step.step.step.next_range (n := 3) (by omega) (by omega)
 have r6 := d.step.step.step.step.step.next_range (n := 3) (by omega) (by omega)
 unfold Qcc
 generalize d.next 4 = a at *
 generalize d.step.next 6 = b at *
 generalize d.step.step.next 3 = q at *
 generalize d.step.step.step.next 3 = p at *
 generalize d.step.step.step.step.next 3 = m at *
 generalize d.step.step.step.step.step.next 3 = z at *
 have hs : 1 ≤ (1 + b + 2 + (3 + a) - 1).tdiv (3 + a) ∧ (1 + b + 2 + (3 + a) - 1).tdiv (3 + a) ≤ 4 := by
  rw [Int.tdiv_eq_ediv_of_nonneg (by omega)]
  exact ⟨(Int.le_ediv_iff_mul_le (by omega)).2 (by omega), Int.ediv_le_of_le_mul (by omega) (by omega)⟩
 have hr : Qbr ⟨Qdr (1 + b) (3 + a) + z, 3 + a, 1 + b, 1 + q, 1 + p, 1 + m⟩ = true := by
  rw [confR_iff]; simp only [Qdr]; omega
 unfold Qn
 rw [if_pos hr, if_neg]
 simp only [Qan, capN, Qi, Qdr]
 generalize (1 + b + 2 + (3 + a) - 1).tdiv (3 + a) = t at *
 have h3 : (2 * t + 6 + z - 2 * t - 3) * (3 + a - 1) ≥ 3 * 2 := Int.mul_le_mul (by omega) (by omega) (by omega) (by omega)
 have h4 : (2 * t + 6 + z - 2 * t - 3) * (3 + a - 1) = (3 + z) * (2 + a) := by congr 1 <;> omega
 rintro (h | h)
 ·omega
 ·rw [h4] at h h3
  omega
theorem Qh6 (e : Ent) : PS 110 [.a e.cells] (.c (.bool (QbE e))) := by
 refine PSpec.rm ?_
 refine ov0 hΓ Tryz.func110 48 0 [.tmp 2] Tryz.ntmps110 Tryz.results110 ?_
 refine RM.immW rfl (WS.c (WC.bool ?_))
 rw [Bool.eq_iff_iff, entOk_iff]
 simp [-List.getD_eq_getElem?_getD]
 omega
theorem Qh0 : HB 110 := hB Tryz.func110
theorem shardOk_iff {l : List Ent} : QT l = true ↔ ∀ i, i < l.length → QbE (l.getD i default) = true ∧ (0 < i → (l.getD (i - 1) default).block < (l.getD i default).block) := by
 unfold QT; rw [decide_eq_true_eq]
theorem QdJ (l : List Ent) (hl : l.length ≤ 1000000) : PS 103 [.c (QQ l)] (.c (.bool (QT l))) := by
 refine PSpec.rm ?_
 refine ov0 hΓ Tryz.func103 34 0 [.tmp 2] Tryz.ntmps103 Tryz.results103 ?_
 refine Lp.mkK hΓ (ι := Nat) [0] (fun i => [(3, .c (.int .i64 i))]) (fun _ => []) (fun k => k ≤ l.length ∧ ∀ i, i < k → QbE (l.getD i default) = true ∧ (0 < i → (l.getD (i - 1) default).block < (l.getD i default).block)) (fun i => l.length - i) 0 ⟨Nat.zero_le _, fun j hj => absurd hj (Nat.not_lt_zero _)⟩ ?_ ?_
 ·exact Mv.k0
 ·rintro k ⟨hk, hk2⟩
  refine Go1 fun _h=>?_
  refine Br.of (fun h1=>Go0 ?_) (fun h1=>Go0 ?_)
  ·refine Dr.mk hΓ hMix (by kernel_rfl) (Go0 ?_)
   refine CallP.auto Qh0 (Qh6 (l.getD k default) ) (Go0 ?_)
   have hw : IntKind.i64.wrap (↑k - 1) = ↑k - 1 := Qa _ (by omega) (by omega)
   refine Need.mk (fun h => by rw [hw]; simp only [Bool.and_eq_true, decide_eq_true_eq] at h; omega) ?_
   conv=>whnf
   refine Need.mk (fun h => by rw [hw]; simp only [Bool.and_eq_true, decide_eq_true_eq] at h; omega) (Go0 ?_)
   have hp : (IntKind.i64.wrap (↑k - 1)).toNat = k - 1 := by rw [hw]; omega
   have w0 := Qa (↑k + 1) (by omega) (by omega)
   rw [hp]
   by_cases e : QbE (l.getD k default) = true ∧ (0 < k → (l.getD (k - 1) default).block < (l.getD k default).block)
   ·refine Br.no (Bool.eq_false_iff.2 fun ebye => by simp [-List.getD_eq_getElem?_getD, -Int.default_eq_zero, e.1] at ebye <;> grind) ?_; conv=>whnf
    refine Go0 ?_
    refine ⟨k + 1, ⟨by omega, QbA hk2 e⟩, by omega, ?_⟩
    exact Mv.k0
   ·refine Br.yes (Decidable.byContradiction fun ebye => e (by simp [-List.getD_eq_getElem?_getD, -Int.default_eq_zero] at ebye <;> grind)) ?_; conv=>whnf
    refine Go0 ?_
    rw [Qa3 (fun q => e (shardOk_iff.1 q k (by omega)) : ¬ QT l = true)]
    exact RM.i0
  ·rw [shardOk_iff.2 (fun i hi => hk2 i (by omega))]
   exact RM.i0
theorem QdO : HB 103 := hB Tryz.func103
theorem Qfp (l : List Ent) (b : Int) (hl : l.length ≤ 1000000) : PS 107 [.c (QQ l), .c (.int .i64 b)] (.c (.int .i64 (Qr l b))) := by
 refine PSpec.rm ?_
 refine ov0 hΓ Tryz.func107 22 0 [.tmp 4] Tryz.ntmps107 Tryz.results107 ?_
 refine Lp.mkK hΓ (ι := Nat) [0, 1, 4] (fun i => [(5, .c (.int .i64 i))]) (fun _ => []) (fun k => k ≤ l.length ∧ ∀ i, i < k → (l.getD i default).block < b) (fun i => l.length - i) 0 ⟨Nat.zero_le _, fun j hj => absurd hj (Nat.not_lt_zero _)⟩ ?_ ?_
 ·exact Mv.k0
 ·rintro k ⟨hk, hk2⟩
  refine Go1 fun _h=>?_
  have e0 : (k : Int).toNat = k := rfl
  by_cases c : k < l.length ∧ (l.getD k default).block < b
  ·refine Br.yes (by simp [-List.getD_eq_getElem?_getD, c.1, c.2]) ?_
   refine Go0 ?_
   have w0 := Qa (↑k + 1) (by omega) (by omega)
   refine ⟨k + 1, ⟨by omega, QbA hk2 c.2⟩, by omega, ?_⟩
   exact Mv.k0
  ·refine Br.no (Bool.eq_false_iff.2 fun e => c (by simpa [-List.getD_eq_getElem?_getD] using e)) ?_
   refine Go0 ?_
   rw [QkE hk hk2 (by omega)]
   exact RM.i0
theorem QfB : HB 107 := hB Tryz.func107
theorem hasM_iff {l : List Ent} {b : Int} : hasM l b = true ↔ Qr l b < l.length ∧ (l.getD (Qr l b) default).block = b := by
 unfold hasM; rw [decide_eq_true_eq]
theorem Qga (l : List Ent) (b : Int) (hl : l.length ≤ 1000000) : PS 68 [.c (QQ l), .c (.int .i64 b)] (.t [.inr (QR l b).1.cells, .inl (.bool (QR l b).2)]) := by
 refine PSpec.rm ?_
 refine ov0 hΓ Tryz.func68 32 0 [.cell 4 67, .tmp 5] Tryz.ntmps68 Tryz.results68 ?_
 refine CallN.pureA QdO (QdJ l hl ) (Go0 ?_)
 have hple := QdU l b
 by_cases hv : QT l = true
 ·refine Br.no (by rw [hv]; rfl) (Go0 ?_)
  refine CallN.pureA QfB (Qfp l b hl ) (Go1 fun _h=>?_)
  have e0 : ((Qr l b : Nat) : Int).toNat = Qr l b := rfl
  refine Go0 ?_
  by_cases c : hasM l b = true
  ·have c' := hasM_iff.1 c
   refine Br.no (Bool.eq_false_iff.2 fun e => by simp [-List.getD_eq_getElem?_getD, c'.2] at e; omega) ?_
   refine Go0 ?_
   rw [show QR l b = (l.getD (Qr l b) default, true) from if_pos ⟨hv, c⟩]
   exact RM.i0
  ·refine Br.yes (Decidable.byContradiction fun e => c (hasM_iff.2 (by simp [-List.getD_eq_getElem?_getD] at e; omega))) ?_
   refine Go0 ?_
   rw [show QR l b = (default, false) from if_neg (fun e => c e.2)]
   exact RM.i0
 ·refine Br.yes (by rw [Qa3 hv]; rfl) (Go0 ?_)
  rw [show QR l b = (default, false) from if_neg (fun e => hv e.1)]
  exact RM.i0
theorem Qgw : HB 68 := hB Tryz.func68
instance : PlainF Evt.cell := ⟨fun e j => by unfold Evt.cell; split <;> rfl⟩
instance : PlainF Ent.cell := ⟨fun e j => by unfold Ent.cell; split <;> rfl⟩
instance : PlainF Ret.cell := ⟨fun e j => by unfold Ret.cell; split <;> rfl⟩
instance : PlainF Req.cell := ⟨fun e j => by unfold Req.cell; split <;> rfl⟩
instance : PlainF Rng.cell := ⟨fun e j => by unfold Rng.cell; split <;> rfl⟩
instance : PlainF Wrk.cell := ⟨fun e j => by unfold Wrk.cell; split <;> rfl⟩
instance : PlainF QaK := ⟨fun e j => by unfold QaK; split <;> rfl⟩
instance : PlainF Zone.cell := ⟨fun e j => by unfold Zone.cell; split <;> rfl⟩
instance : PlainF (fun (l : List Ent) (_ : Nat) => QQ l) := ⟨fun e j => rfl⟩
instance {q : IntKind} : PlainF (intC q) := ⟨fun e j => rfl⟩
theorem QpX {g g' : Nat → Nat → C} {k j0 : Nat} {ys : List C} {i j : Nat} (h : g i j = g' i j) : updG g k j0 ys i j = updG g' k j0 ys i j := by
 unfold updG
 rw [h]
theorem QtK {α : Type} {l : List α} {q : Nat} {x d : α} (hq : q < l.length) : (l.set q x).getD q d = x := by
 simp [List.getD, hq]
theorem neI {a b : Int} : (a != b) = !decide (a = b) := rfl
theorem mapOk_iff {m : List (List Ent)} : Q7 m = true ↔ (1 ≤ m.length ∧ m.length ≤ 8) ∧ ∀ i, i < m.length → QT (m.getD i default) = true ∧ Qbl (m.getD i default) m.length i = true := by
 unfold Q7; rw [Bool.and_eq_true, decide_eq_true_eq, decide_eq_true_eq]
theorem inStripe_iff {l : List Ent} {n i : Nat} : Qbl l n i = true ↔ ∀ k, k < l.length → (l.getD k default).block.tmod n = i := by
 unfold Qbl; rw [decide_eq_true_eq]
set_option maxHeartbeats 4000000 in
theorem QdS (m : List (List Ent)) (hm : m.length ≤ 1000000) (hs : ∀ i, (m.getD i default).length ≤ 1000000) : PS 59 [.a [Qh m]] (.c (.bool (Q7 m))) := by
 refine PSpec.rm ?_
 refine ov hΓ Tryz.func59 50 0 [.tmp 2] Tryz.ntmps59 Tryz.results59 ?_
 refine Go1 fun _h=>?_
 have no : ¬ Q7 m = true → Q7 m = false := Qa3
 by_cases h0 : 1 ≤ m.length ∧ m.length ≤ 8
 ·refine Br.no (Bool.eq_false_iff.2 fun e => by simp at e; omega) (Go0 ?_)
  refine Lp.mkK hΓ (ι := Nat) [1, 3] (fun i => [(4, .c (.int .i64 i))]) (fun _ => [.vr [Qh m]]) (fun k => k ≤ m.length ∧ ∀ i, i < k → QT (m.getD i default) = true ∧ Qbl (m.getD i default) m.length i = true) (fun i => m.length - i) 0 ⟨Nat.zero_le _, fun j hj => absurd hj (Nat.not_lt_zero _)⟩ ?_ ?_
  ·exact Mv.k0
  ·rintro k ⟨hk, hk2⟩
   have hsk := hs k
   refine Go0 ?_
   refine Br.of (fun h1=>?_) (fun h1=>?_)<;>(try simp only [Int.toNat_natCast] at h1)<;>refine Go0 ?_
   ·refine CallN.pureA QdO (QdJ (m.getD k default) hsk ) (Go0 ?_)
    by_cases h2 : QT (m.getD k default) = true
    ·refine Br.no (by rw [h2]; rfl) (Go0 ?_)
     refine Lp.mkK hΓ (ι := Nat) [1, 3, 4] (fun i => [(5, .c (.int .i64 i))]) (fun _ => [.vr [Qh m]]) (fun q => q ≤ (m.getD k default).length ∧ ∀ i, i < q → ((m.getD k default).getD i default).block.tmod m.length = k) (fun i => (m.getD k default).length - i) 0 ⟨Nat.zero_le _, fun j hj => absurd hj (Nat.not_lt_zero _)⟩ ?_ ?_
     ·exact Mv.k0
     ·rintro q ⟨hq, hq2⟩
      refine Go1 fun _h=>?_
      have e0 : (k : Int).toNat = k := rfl
      refine Br.of (fun h3=>?_) (fun h3=>?_)<;>(try simp only [Int.toNat_natCast] at h3)<;>refine Go0 ?_
      ·have w0 := Qa (↑q + 1) (by omega) (by omega)
       by_cases c : ((m.getD k default).getD q default).block.tmod m.length = k
       ·refine Br.no ((neI).trans (by simp only [Int.toNat_natCast]; rw [decide_eq_true c]; rfl)) (Go0 ?_)
        refine ⟨q + 1, ⟨by omega, QbA hq2 c⟩, by omega, ?_⟩
        exact Mv.k0
       ·refine Br.yes ((neI).trans (by simp only [Int.toNat_natCast]; rw [decide_eq_false c]; rfl)) (Go0 ?_)
        rw [no (fun z => c (inStripe_iff.1 ((mapOk_iff.1 z).2 k (by omega)).2 q (by omega)))]
        exact RM.i0
      ·have w0 := Qa (↑k + 1) (by omega) (by omega)
       refine ⟨k + 1, ⟨by omega, QbA hk2 ⟨h2, inStripe_iff.2 fun i hi => hq2 i (by omega)⟩⟩, by omega, ?_⟩
       exact Mv.k0
    ·refine Br.yes (by rw [Qa3 h2]; rfl) (Go0 ?_)
     rw [no (fun e => h2 ((mapOk_iff.1 e).2 k (by omega)).1)]
     exact RM.i0
   ·rw [mapOk_iff.2 ⟨h0, fun i hi => hk2 i (by omega)⟩]
    exact RM.i0
 ·refine Br.yes (by simp; omega) (Go0 ?_)
  rw [no (fun e => h0 (mapOk_iff.1 e).1)]
  exact RM.i0
theorem QdL : HB 59 := hB Tryz.func59
theorem QeJ (m : List (List Ent)) (b : Int) (hm : m.length ≤ 1000000) : PS 69 [.a [Qh m], .c (.int .i64 b)] (.c (.int .i64 (Qaa m b))) := by
 refine PSpec.rm ?_
 refine ov0 hΓ Tryz.func69 18 0 [.tmp 4] Tryz.ntmps69 Tryz.results69 ?_
 by_cases h : b < 0 ∨ m.length = 0
 ·refine Br.yes (by rcases h with h | h <;> simp [h]) ?_
  refine Go0 ?_
  rw [show Qaa m b = -1 from if_pos h]
  exact RM.i0
 ·have h1 : ¬ b < 0 := by omega
  have h2 : ¬ (m.length : Int) = 0 := by omega
  refine Br.no (by rw [decide_eq_false h1]; exact decide_eq_false h2) (Go1 fun _h=>?_)
  rw [show Qaa m b = b.tmod m.length from if_neg h]
  exact RM.i0
theorem Qes : HB 69 := hB Tryz.func69
theorem Fw.ints {H : List O} {id e n t : Nat} {x : Bool} {g : Nat → Nat → C} {l : List Int} (hid : getL H id = some (.arr e 1 n g)) (ht : t = n) (hn : n = l.length) (hg : ∀ i, i < n → ∀ j, j < 1 → g i j = QcT .i64 l i j) : Fw H (.sl id 1 t t x) (QbY l) := by
 subst ht
 exact Fw.slP hid rfl hn hg (fun _ _ => rfl)
def Qat (c : Conf) (slot : Int) : List Int := if Qn c = 0 ∧ 0 ≤ slot ∧ slot ≤ 1 then tabL (fun k => slot * Qi c + (k : Nat)) (Qi c).toNat else []
theorem Qh4 (c : Conf) (slot : Int) : PS 77 [.a c.cells, .c (.int .i64 slot)] (.c (QbY (Qat c slot))) := by
 refine PSpec.rm ?_
 refine ov0 hΓ Tryz.func77 36 0 [.tmp 4] Tryz.ntmps77 Tryz.results77 ?_
 refine CallN.pureA QcR (QcS c ) (Go0 ?_)
 by_cases h : Qn c = 0 ∧ 0 ≤ slot ∧ slot ≤ 1
 ·have hr := (Qay h.1).1
  have hs := Qav hr
  refine Br.no (Bool.eq_false_iff.2 fun ebye => by simp [-List.getD_eq_getElem?_getD, -Int.default_eq_zero, h.1,h.2.1,h.2.2] at ebye <;> grind) ?_; conv=>whnf
  refine Go0 ?_
  refine CallN.pureA Qf7 (QfV c hr ) (Go0 ?_)
  refine Lp.reserve 3 1 (QcT .i64 []) 5 rfl ?_
  refine Lp.mkK hΓ (ι := Nat) [1, 4, 6] (fun k => [(7, .c (.int .i64 k)), (5, .c (.sl 1 1 k k false))]) (fun k => [.vr c.cells, .arr 3 1 k (QcT .i64 (tabL (fun k => slot * Qi c + (k : Nat)) k))]) (fun k => k ≤ (Qi c).toNat) (fun k => (Qi c).toNat - k) 0 (Nat.zero_le _) ?_ ?_
  ·exact Mv.k0
  ·intro k hk
   refine Go0 ?_
   have hsl : slot = 0 ∨ slot = 1 := by omega
   refine Br.of (fun h1=>Go0 ?_) (fun h1=>Go0 ?_)
   ·have w0 := Qa (↑k + 1) (by omega) (by omega)
    refine ⟨k + 1, by omega, by omega, ?_⟩
    refine Mv.k1 ?_
    intro i hi j hj
    have e1 : IntKind.i64.wrap (IntKind.i64.wrap (slot * Qi c) + (k : Int)) = slot * Qi c + (k : Nat) := by
     rcases hsl with rfl | rfl
     ·rw [Qa (0 * Qi c) (by omega) (by omega), Qa _ (by omega) (by omega)]
     ·rw [Qa (1 * Qi c) (by omega) (by omega), Qa _ (by omega) (by omega)]
    rw [e1, QkK]
    exact WC.eq (Ql8 (by simp) (by simp; omega) hj) rfl
   ·have : k = (Qi c).toNat := by omega
    subst this
    rw [show Qat c slot = tabL (fun k => slot * Qi c + (k : Nat)) (Qi c).toNat from if_pos h]
    exact RM.allC (Fw.ints rfl rfl (by simp) (fun _ _ _ _ => rfl))
 ·refine Br.yes (Decidable.byContradiction fun ebye => h (by simp [-List.getD_eq_getElem?_getD, -Int.default_eq_zero] at ebye <;> grind)) ?_; conv=>whnf
  refine Go0 ?_
  rw [show Qat c slot = [] from if_neg h]
  exact RM.i0
theorem QhY : HB 77 := hB Tryz.func77
theorem Qsf (n : Int) (hn : 0 ≤ n ∧ n < 256) : PS 147 [.c (.int .i64 n), .c (.int .i64 1)] (.t [.inl (.str (putS n 1)), .inl (.int .i64 0)]) := by
 refine PSpec.rm ?_
 refine ov0 hΓ Tryz.func147 44 0 [.tmp 4, .tmp 5] Tryz.ntmps147 Tryz.results147 ?_
 have e : IntKind.i64.wrap (1 * 2 ^ min (IntKind.u64.wrap (IntKind.i64.wrap (8 * 1))).toNat IntKind.i64.bits) = 256 := by decide
 refine Br.no (by rw [e]; simp; omega) (Go0 ?_)
 refine Lp.mk hΓ (ι := Nat) (fun k => [(7, .c (.int .i64 k)), (6, .c (.sl 0 1 1 1 true)), (0, .c (.int .i64 n)), (1, .c (.int .i64 1))]) (fun k => [.arr 5 1 1 (putG n k)]) (fun k => k ≤ 1) (fun k => 1 - k) 0 (Nat.zero_le _) ?_ ?_
 ·exact Mv.mk' 1 rfl ⟨O.wk.arr rfl (fun i hi j hj => by
   have hj : j < 1 := hj
   have : j = 0 := by omega
   subst this
   exact wkC.imm rfl), trivial⟩ ⟨wkS.imm rfl, wkS.c (wkC.sl (by decide) rfl rfl (fun _ => rfl)), wkS.imm rfl, wkS.imm rfl, trivial⟩ (Nat.zero_le _)
 ·intro k hk
  refine Go0 ?_
  refine Br.of (fun h=>Go0 ?_) (fun h=>Go0 ?_)
  ·refine Need.mk (by rw [IntKind.wrap_u64]; omega) (Go0 ?_)
   have w0 := Qa (↑k + 1) (by omega) (by omega)
   refine ⟨k + 1, by omega, by omega, Mv.mk' 1 rfl ⟨O.wk.arr rfl (fun i hi j hj => wkC.of_eq (Qgt _ _ _ _) ?_), trivial⟩ ⟨wkS.c (wkC.int (by rw [w0]; rfl)), wkS.c (wkC.sl (by decide) rfl rfl (fun e => e)), wkS.imm rfl, wkS.imm rfl, trivial⟩ (Nat.zero_le _)⟩
   have hj : j = 0 := by omega
   subst hj
   rw [Qbm]
   simp only [putG, putB, Int.toNat_natCast]
   by_cases c : i = k
   ·subst c
    simp
   ·rw [if_neg (by simp [c])]
    by_cases c2 : i < k
    ·rw [if_pos c2, if_pos (by omega)]
    ·rw [if_neg c2, if_neg (by omega)]
  ·have : k = 1 := by omega
   subst this
   refine Need.mk (fun i hi => ⟨putB n i, by simp only [putG]; rw [if_pos hi]⟩) (Go0 ?_)
   exact RM.imm rfl (wkS.t ⟨wkC.str (Qgq n 1), wkC.imm rfl, trivial⟩)
theorem Qky (n : Int) (hn : 0 ≤ n ∧ n < 4294967296) : PS 147 [.c (.int .i64 n), .c (.int .i64 4)] (.t [.inl (.str (putS n 4)), .inl (.int .i64 0)]) := by
 refine PSpec.rm ?_
 refine ov0 hΓ Tryz.func147 44 0 [.tmp 4, .tmp 5] Tryz.ntmps147 Tryz.results147 ?_
 have e : IntKind.i64.wrap (1 * 2 ^ min (IntKind.u64.wrap (IntKind.i64.wrap (8 * 4))).toNat IntKind.i64.bits) = 4294967296 := by decide
 refine Br.no (by rw [e]; simp; omega) (Go0 ?_)
 refine Lp.mk hΓ (ι := Nat) (fun k => [(7, .c (.int .i64 k)), (6, .c (.sl 0 1 4 4 true)), (0, .c (.int .i64 n)), (1, .c (.int .i64 4))]) (fun k => [.arr 5 1 4 (putG n k)]) (fun k => k ≤ 4) (fun k => 4 - k) 0 (Nat.zero_le _) ?_ ?_
 ·exact Mv.mk' 1 rfl ⟨O.wk.arr rfl (fun i hi j hj => by
   have hj : j < 1 := hj
   have : j = 0 := by omega
   subst this
   exact wkC.imm rfl), trivial⟩ ⟨wkS.imm rfl, wkS.c (wkC.sl (by decide) rfl rfl (fun _ => rfl)), wkS.imm rfl, wkS.imm rfl, trivial⟩ (Nat.zero_le _)
 ·intro k hk
  refine Go0 ?_
  refine Br.of (fun h=>Go0 ?_) (fun h=>Go0 ?_)
  ·refine Need.mk (by rw [IntKind.wrap_u64]; omega) (Go0 ?_)
   have w0 := Qa (↑k + 1) (by omega) (by omega)
   refine ⟨k + 1, by omega, by omega, Mv.mk' 1 rfl ⟨O.wk.arr rfl (fun i hi j hj => wkC.of_eq (Qgt _ _ _ _) ?_), trivial⟩ ⟨wkS.c (wkC.int (by rw [w0]; rfl)), wkS.c (wkC.sl (by decide) rfl rfl (fun e => e)), wkS.imm rfl, wkS.imm rfl, trivial⟩ (Nat.zero_le _)⟩
   have hj : j = 0 := by omega
   subst hj
   rw [Qbm]
   simp only [putG, putB, Int.toNat_natCast]
   by_cases c : i = k
   ·subst c
    simp
   ·rw [if_neg (by simp [c])]
    by_cases c2 : i < k
    ·rw [if_pos c2, if_pos (by omega)]
    ·rw [if_neg c2, if_neg (by omega)]
  ·have : k = 4 := by omega
   subst this
   refine Need.mk (fun i hi => ⟨putB n i, by simp only [putG]; rw [if_pos hi]⟩) (Go0 ?_)
   exact RM.imm rfl (wkS.t ⟨wkC.str (Qgq n 4), wkC.imm rfl, trivial⟩)
theorem Qlb (n : Int) (hn : 0 ≤ n ∧ n < 281474976710656) : PS 147 [.c (.int .i64 n), .c (.int .i64 6)] (.t [.inl (.str (putS n 6)), .inl (.int .i64 0)]) := by
 refine PSpec.rm ?_
 refine ov0 hΓ Tryz.func147 44 0 [.tmp 4, .tmp 5] Tryz.ntmps147 Tryz.results147 ?_
 have e : IntKind.i64.wrap (1 * 2 ^ min (IntKind.u64.wrap (IntKind.i64.wrap (8 * 6))).toNat IntKind.i64.bits) = 281474976710656 := by decide
 refine Br.no (by rw [e]; simp; omega) (Go0 ?_)
 refine Lp.mk hΓ (ι := Nat) (fun k => [(7, .c (.int .i64 k)), (6, .c (.sl 0 1 6 6 true)), (0, .c (.int .i64 n)), (1, .c (.int .i64 6))]) (fun k => [.arr 5 1 6 (putG n k)]) (fun k => k ≤ 6) (fun k => 6 - k) 0 (Nat.zero_le _) ?_ ?_
 ·exact Mv.mk' 1 rfl ⟨O.wk.arr rfl (fun i hi j hj => by
   have hj : j < 1 := hj
   have : j = 0 := by omega
   subst this
   exact wkC.imm rfl), trivial⟩ ⟨wkS.imm rfl, wkS.c (wkC.sl (by decide) rfl rfl (fun _ => rfl)), wkS.imm rfl, wkS.imm rfl, trivial⟩ (Nat.zero_le _)
 ·intro k hk
  refine Go0 ?_
  refine Br.of (fun h=>Go0 ?_) (fun h=>Go0 ?_)
  ·refine Need.mk (by rw [IntKind.wrap_u64]; omega) (Go0 ?_)
   have w0 := Qa (↑k + 1) (by omega) (by omega)
   refine ⟨k + 1, by omega, by omega, Mv.mk' 1 rfl ⟨O.wk.arr rfl (fun i hi j hj => wkC.of_eq (Qgt _ _ _ _) ?_), trivial⟩ ⟨wkS.c (wkC.int (by rw [w0]; rfl)), wkS.c (wkC.sl (by decide) rfl rfl (fun e => e)), wkS.imm rfl, wkS.imm rfl, trivial⟩ (Nat.zero_le _)⟩
   have hj : j = 0 := by omega
   subst hj
   rw [Qbm]
   simp only [putG, putB, Int.toNat_natCast]
   by_cases c : i = k
   ·subst c
    simp
   ·rw [if_neg (by simp [c])]
    by_cases c2 : i < k
    ·rw [if_pos c2, if_pos (by omega)]
    ·rw [if_neg c2, if_neg (by omega)]
  ·have : k = 6 := by omega
   subst this
   refine Need.mk (fun i hi => ⟨putB n i, by simp only [putG]; rw [if_pos hi]⟩) (Go0 ?_)
   exact RM.imm rfl (wkS.t ⟨wkC.str (Qgq n 6), wkC.imm rfl, trivial⟩)
theorem Qfe : HB 147 := hB Tryz.func147
theorem Qk3 : HB 147 := Qfe
theorem Qlh : HB 147 := Qfe
theorem QeD (n : Int) (hn : 0 ≤ n ∧ n < 256) : PS 100 [.c (.int .i64 n), .c (.int .i64 1)] (.c (.str (putS n 1))) := by
 refine ov hΓ Tryz.func100 14 0 [.tmp 4] Tryz.ntmps100 Tryz.results100 ?_
 conv=>whnf
 refine CallN.pure Qfe (Qsf n hn ) (leA.refl rfl) rfl ?_
 ((conv=>whnf);(repeat' ((first|refine Nd ?_|refine Hv fun _h=>?_);conv=>whnf)))
theorem QeP : HB 100 := hB Tryz.func100
theorem Qhg (n : Int) (hn : 0 ≤ n ∧ n < 4294967296) : PS 100 [.c (.int .i64 n), .c (.int .i64 4)] (.c (.str (putS n 4))) := by
 refine ov hΓ Tryz.func100 14 0 [.tmp 4] Tryz.ntmps100 Tryz.results100 ?_
 conv=>whnf
 refine CallN.pure Qk3 (Qky n hn ) (leA.refl rfl) rfl ?_
 ((conv=>whnf);(repeat' ((first|refine Nd ?_|refine Hv fun _h=>?_);conv=>whnf)))
theorem Qhv : HB 100 := hB Tryz.func100
theorem QnS (n : Int) (hn : 0 ≤ n ∧ n < 281474976710656) : PS 100 [.c (.int .i64 n), .c (.int .i64 6)] (.c (.str (putS n 6))) := by
 refine ov hΓ Tryz.func100 14 0 [.tmp 4] Tryz.ntmps100 Tryz.results100 ?_
 conv=>whnf
 refine CallN.pure Qlh (Qlb n hn ) (leA.refl rfl) rfl ?_
 ((conv=>whnf);(repeat' ((first|refine Nd ?_|refine Hv fun _h=>?_);conv=>whnf)))
theorem Qnk : HB 100 := hB Tryz.func100
theorem Qul (sum : Int) (b : ByteArray) (hb : b.size ≤ 10000000) : PS 109 [.c (.int .u32 sum), .c (.str b)] (.c (.int .u32 (addU sum b))) := by
 refine ov0 hΓ Tryz.func109 37 0 [.tmp 4] Tryz.ntmps109 Tryz.results109 ?_
 refine Lp.mk hΓ (ι := Nat) (fun k => [(6, .c (.int .i64 k)), (5, .c (.int .u32 (Q3 sum b k))), (1, .c (.str b))]) (fun _ => []) (fun k => k ≤ b.size) (fun k => b.size - k) 0 (Nat.zero_le _) ?_ ?_
 ·exact Mv.mk' 0 rfl trivial ⟨wkS.imm rfl, wkS.imm rfl, wkS.imm rfl, trivial⟩ (Nat.zero_le _)
 ·intro k hk
  refine Go1 fun _h=>?_
  refine Br.of (fun h=>Go0 ?_) (fun h=>Go0 ?_)
  ·refine Lp.mk hΓ (ι := Nat) (fun j => [(7, .c (.int .i64 j)), (5, .c (.int .u32 (Qbb QaY j (xorU (Q3 sum b k) (QaH b k))))), (6, .c (.int .i64 k)), (1, .c (.str b))]) (fun _ => []) (fun j => j ≤ 8) (fun j => 8 - j) 0 (Nat.zero_le _) ?_ ?_
   ·exact Mv.mk' 0 rfl trivial ⟨wkS.imm rfl, wkS.imm rfl, wkS.imm rfl, wkS.imm rfl, trivial⟩ (Nat.zero_le _)
   ·intro j hj
    refine Go0 ?_
    have w1 := Qa (↑j + 1) (by omega) (by omega)
    refine Br.of (fun h2=>Go0 ?_) (fun h2=>Go0 ?_)
    ·refine Br.of (fun h3=>Go0 ?_) (fun h3=>Go0 ?_)
     ·exact ⟨j + 1, by omega, by omega, Mv.mk' 0 rfl trivial ⟨wkS.c (wkC.int (by rw [w1]; rfl)), wkS.c (wkC.int (by simp only [Qbb]; exact (if_pos h3).symm)), wkS.imm rfl, wkS.imm rfl, trivial⟩ (Nat.zero_le _)⟩
     ·exact ⟨j + 1, by omega, by omega, Mv.mk' 0 rfl trivial ⟨wkS.c (wkC.int (by rw [w1]; rfl)), wkS.c (wkC.int (by simp only [Qbb]; exact (if_neg h3).symm)), wkS.imm rfl, wkS.imm rfl, trivial⟩ (Nat.zero_le _)⟩
    ·have : j = 8 := by omega
     subst this
     have w0 := Qa (↑k + 1) (by omega) (by omega)
     exact ⟨k + 1, by omega, by omega, Mv.mk' 0 rfl trivial ⟨wkS.c (wkC.int (by rw [w0]; rfl)), wkS.imm rfl, wkS.imm rfl, trivial⟩ (Nat.zero_le _)⟩
  ·have : k = b.size := by omega
   subst this
   rfl
theorem Qty : HB 109 := hB Tryz.func109
theorem Qij (b : ByteArray) (hb : b.size ≤ 10000000) : PS 71 [.c (.str b)] (.c (.int .u32 (addU 0 b))) := by
 refine ov hΓ Tryz.func71 5 0 [.tmp 2] Tryz.ntmps71 Tryz.results71 ?_
 conv=>whnf
 refine CallN.pure Qty (Qul 0 b hb ) (leA.refl rfl) rfl ?_
 ((conv=>whnf);(repeat' ((first|refine Nd ?_|refine Hv fun _h=>?_);conv=>whnf)))
theorem Qir : HB 71 := hB Tryz.func71
theorem Qsu (b : ByteArray) (hb : b.size ≤ 10000000) : PS 102 [.c (.str b)] (.c (.str (b ++ putS (IntKind.i64.wrap (addU 0 b)) 4))) := by
 refine ov hΓ Tryz.func102 9 0 [.tmp 2] Tryz.ntmps102 Tryz.results102 ?_
 conv=>whnf
 refine CallN.pure Qir (Qij b hb ) (leA.refl rfl) rfl ?_
 conv=>whnf
 have hl := QhI 0 b
 refine CallN.pure Qhv (Qhg _ (by rw [Qa _ (by omega) (by omega)]; exact hl) ) (leA.refl rfl) rfl ?_
 conv=>whnf
 refine Need.mk (by rw [Qp]; omega) ?_
 ((conv=>whnf);(repeat' ((first|refine Nd ?_|refine Hv fun _h=>?_);conv=>whnf)))
theorem Qst : HB 102 := hB Tryz.func102
theorem Quv (b : ByteArray) (hb : b.size ≤ 20) : PS 101 [.c (.str b), .c (.int .i64 20)] (.c (.str (padS b))) := by
 refine PSpec.rm ?_
 refine ov hΓ Tryz.func101 18 0 [.tmp 4] Tryz.ntmps101 Tryz.results101 ?_
 refine Go1 fun _h=>?_
 refine Br.of (fun h=>Go0 ?_) (fun h=>Go1 fun _h=>?_)
 ·have : b.size = 20 := by omega
  exact RM.imm rfl (wkS.c (wkC.str (by simp [padS, this])))
 ·have w0 := Qa (20 - (b.size : Int)) (by omega) (by omega)
  have n0 : ((20 : Int) - (b.size : Int)).toNat = 20 - b.size := by omega
  rw [w0]
  refine Go0 ?_
  rw [n0]
  refine Need.mk (fun i hi => ⟨0, rfl⟩) ?_
  conv=>whnf
  refine Need.mk (by rw [Qbf]; omega) (Go0 ?_)
  refine RM.imm rfl (wkS.c (wkC.str ?_))
  simp only [padS]
  rw [if_pos (by omega)]
  rfl
theorem QuB : HB 101 := hB Tryz.func101
theorem Qh5 (r : Rec) : PS 72 [r.s] (.c (.int .i64 (QC r))) := by
 refine ov0 hΓ Tryz.func72 67 0 [.tmp 2] Tryz.ntmps72 Tryz.results72 ?_
 (first|refine Br.od (fun h1=>?_) (fun h1=>?_)|refine Br.mk (fun h1=>?_) (fun h1=>?_)<;>simp [-List.length_eq_zero_iff,-List.getD_eq_getElem?_getD] at h1)<;>(try simp only [Int.toNat_natCast] at h1)<;>(conv=>whnf)
 ·refine Go0 ?_
  have : decide (1 ≤ r.kind ∧ r.kind ≤ 6) = false := by simp only [decide_eq_false_iff_not]; omega
  simp only [QC, this]; rfl
 ·refine Go0 ?_
  have e1 : decide (1 ≤ r.kind ∧ r.kind ≤ 6) = true := by simp only [decide_eq_true_eq]; omega
  (first|refine Br.od (fun h2=>?_) (fun h2=>?_)|refine Br.mk (fun h2=>?_) (fun h2=>?_)<;>simp [-List.length_eq_zero_iff,-List.getD_eq_getElem?_getD] at h2)<;>(try simp only [Int.toNat_natCast] at h2)<;>(conv=>whnf)
  ·refine Go0 ?_
   have : decide (0 ≤ r.block ∧ r.block ≤ 4294967295 ∧ 0 ≤ r.version ∧ r.version ≤ 1099511627776 ∧ 0 ≤ r.move ∧ r.move ≤ 255) = false := by simp only [decide_eq_false_iff_not]; omega
   simp only [QC, e1, this]; rfl
  ·refine Go1 fun _h=>?_
   have e2 : decide (0 ≤ r.block ∧ r.block ≤ 4294967295 ∧ 0 ≤ r.version ∧ r.version ≤ 1099511627776 ∧ 0 ≤ r.move ∧ r.move ≤ 255) = true := by simp only [decide_eq_true_eq]; omega
   have hz : r.payload = ⟨#[]⟩ ↔ r.payload.size = 0 := ⟨fun h => by rw [h]; rfl, Qv5⟩
   refine Br.of (fun h3=>Go0 ?_) (fun h3=>Go0 ?_)
   ·have : decide (r.payload.size ≤ 20 ∧ (r.kind = 1 → r.payload.size = 16) ∧ (r.kind = 2 → r.payload.size = 0)) = false := by
     simp [Bool.cond_eq_ite] at h3
     simp only [decide_eq_false_iff_not]
     rw [hz] at h3
     omega
    simp only [QC, e1, e2, this]; rfl
   ·have : decide (r.payload.size ≤ 20 ∧ (r.kind = 1 → r.payload.size = 16) ∧ (r.kind = 2 → r.payload.size = 0)) = true := by
     simp [Bool.cond_eq_ite] at h3
     simp only [decide_eq_true_eq]
     rw [hz] at h3
     omega
    simp only [QC, e1, e2, this]; rfl
theorem Qh2 : HB 72 := hB Tryz.func72
theorem Qfm (r : Rec) : PS 58 [r.s] (.t [.inl (.str (encR r)), .inl (.int .i64 (QC r))]) := by
 refine PSpec.rm ?_
 refine ov hΓ Tryz.func58 39 0 [.tmp 2, .tmp 3] Tryz.ntmps58 Tryz.results58 ?_
 conv=>whnf
 refine CallN.pure Qh2 (Qh5 r ) (leA.refl rfl) rfl (Go0 ?_)
 refine Br.of (fun h1=>Go0 ?_) (fun h1=>Go0 ?_)
 ·exact RM.imm rfl (wkS.t ⟨wkC.str (by rw [encR, if_neg h1]; rfl), wkC.imm rfl, trivial⟩)
 ·obtain ⟨hk, hr, hp⟩ := QaR h1
  refine Dr.mk hΓ hMix (by kernel_rfl) (Go0 ?_)
  have lit2 : ({ data := #[90, 65] } : ByteArray).size = 2 := rfl
  have lit1 : ({ data := #[0] } : ByteArray).size = 1 := rfl
  refine CallP.mk QeP (QeD r.kind (by omega) ) (leA.refl rfl) rfl ?_
  conv=>whnf
  refine Need.mk (by simp only [ByteArray.size_append, Qp, Qbu _ hp, lit2, lit1]; omega) (Go0 ?_)
  refine CallP.mk QeP (QeD r.payload.size (by omega) ) (leA.refl rfl) rfl ?_
  conv=>whnf
  refine Need.mk (by simp only [ByteArray.size_append, Qp, Qbu _ hp, lit2, lit1]; omega) (Go0 ?_)
  refine CallP.mk Qhv (Qhg r.block (by omega) ) (leA.refl rfl) rfl ?_
  conv=>whnf
  refine Need.mk (by simp only [ByteArray.size_append, Qp, Qbu _ hp, lit2, lit1]; omega) (Go0 ?_)
  refine CallP.mk Qnk (QnS r.version (by omega) ) (leA.refl rfl) rfl ?_
  conv=>whnf
  refine Need.mk (by simp only [ByteArray.size_append, Qp, Qbu _ hp, lit2, lit1]; omega) (Go0 ?_)
  refine CallP.mk QeP (QeD r.move (by omega) ) (leA.refl rfl) rfl ?_
  conv=>whnf
  refine Need.mk (by simp only [ByteArray.size_append, Qp, Qbu _ hp, lit2, lit1]; omega) (Go0 ?_)
  refine Need.mk (by simp only [ByteArray.size_append, Qp, Qbu _ hp, lit2, lit1]; omega) (Go0 ?_)
  refine CallP.mk QuB (Quv r.payload hp ) (leA.refl rfl) rfl ?_
  conv=>whnf
  refine Need.mk (by simp only [ByteArray.size_append, Qp, Qbu _ hp, lit2, lit1]; omega) (Go0 ?_)
  have hb := QiX hp
  refine CallN.pure Qst (Qsu (QaJ r) (by omega) ) (leA.refl rfl) rfl (Go0 ?_)
  exact RM.imm rfl (wkS.t ⟨wkC.str (by rw [encR, if_pos h1]), wkC.int h1.symm, trivial⟩)
theorem Qfn : HB 58 := hB Tryz.func58
theorem Qci (r : Rec) : PS 15 [r.s] (.c (.str (encR r))) := by
 refine ov hΓ Tryz.func15 11 0 [.tmp 2] Tryz.ntmps15 Tryz.results15 ?_
 conv=>whnf
 refine CallN.pure Qfn (Qfm r ) (leA.refl rfl) rfl ?_
 ((conv=>whnf);(repeat' ((first|refine Nd ?_|refine Hv fun _h=>?_);conv=>whnf)))
theorem Qch : HB 15 := hB Tryz.func15
theorem QdE (d : Dev) (zone : Int) : PS 63 [d.s, .c (.int .i64 zone)] (.c (.int .i64 (QS d zone))) := by
 refine PSpec.rm ?_
 refine ov hΓ Tryz.func63 27 0 [.tmp 4] Tryz.ntmps63 Tryz.results63 ?_
 conv=>whnf
 refine CallN.pure Qbx (Qby d ) (leA.refl rfl) rfl (Go0 ?_)
 refine Br.of (fun h1=>Go0 ?_) (fun h1=>Go0 ?_)
 ·exact RM.imm rfl (wkS.c (wkC.int (by simp only [QS, if_neg h1])))
 ·(first|refine Br.od (fun h2=>?_) (fun h2=>?_)|refine Br.mk (fun h2=>?_) (fun h2=>?_)<;>simp [-List.length_eq_zero_iff,-List.getD_eq_getElem?_getD] at h2)<;>(try simp only [Int.toNat_natCast] at h2)<;>(conv=>whnf)
  ·refine Go0 ?_
   have : decide (0 ≤ zone ∧ zone < d.zones.length) = false := by simp only [decide_eq_false_iff_not]; omega
   exact RM.imm rfl (wkS.c (wkC.int (by simp only [QS, if_pos h1, this]; rfl)))
  ·refine Go0 ?_
   have hr : decide (0 ≤ zone ∧ zone < d.zones.length) = true := by simp only [decide_eq_true_eq]; omega
   refine Br.of (fun h3=>Go0 ?_) (fun h3=>Go0 ?_)
   ·exact RM.imm rfl (wkS.c (wkC.int (by simp only [QS, if_pos h1, hr, if_pos, if_pos h3])))
   ·exact RM.imm rfl (wkS.c (wkC.int (by simp only [QS, if_pos h1, hr, if_pos, if_neg h3])))
theorem Qdw : HB 63 := hB Tryz.func63
theorem Qlo (z : Zone) : PS 105 [z.s] ((Qbc z).s) := by
 refine PSpec.rm ?_
 refine ov hΓ Tryz.func105 10 0 [.cell 2 46] Tryz.ntmps105 Tryz.results105 ?_
 refine Go1 fun _h=>?_
 refine Br.of (fun h=>Go0 ?_) (fun h=>Go0 ?_)
 ·have : Qbc z = ⟨0, z.durable, z.sectors⟩ := by simp only [Qbc]; rw [if_pos (by omega)]
  rw [this]
  exact RM.imm rfl (wkS.imm rfl)
 ·have : Qbc z = ⟨3, z.durable, z.sectors⟩ := by simp only [Qbc]; rw [if_neg (by omega)]
  rw [this]
  exact RM.imm rfl (wkS.imm rfl)
theorem QlL : HB 105 := hB Tryz.func105
theorem Qc5 (d : Dev) (hd : d.zones.length ≤ 10000000) (zone : Int) (hz : 0 ≤ zone ∧ zone < d.zones.length) (z : Zone) : PS 66 [d.s, .c (.int .i64 zone), z.s] (({ d with zones := d.zones.set zone.toNat z } : Dev).s) := by
 refine PSpec.rm ?_
 refine ov0 hΓ Tryz.func66 18 0 [.cell 6 29] Tryz.ntmps66 Tryz.results66 ?_
 have hk : zone.toNat < d.zones.length := by omega
 refine RM.devS 3 rfl (fun i hi j hj => ?_) rfl (by simp) (fun i hi j hj => ?_)
 ·exact (congrArg C.imm (QhA hk rfl i j hj)).trans (QA _ _ _)
 ·exact leF.of_eq (QhA hk rfl i j hj)
theorem Qdc : HB 66 := hB Tryz.func66
end Go.Proofs
end
