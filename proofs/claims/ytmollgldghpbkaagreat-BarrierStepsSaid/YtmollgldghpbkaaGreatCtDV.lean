/- Contracts, lemmas; no condition. -/
import Derived.Test.YtmollgldghpbkaaGreatCtCV
import Derived.Test.YtmollgldghpbkaaGreatAmFV
set_option linter.all false
section
open Go Go.Am
namespace Go.Proofs
set_option maxRecDepth 20000
theorem entOk_iff {e : Ent} : Qbl e = true ↔ (e.kind = 1 ∨ e.kind = 2) ∧ 1 ≤ e.version ∧ e.version ≤ 1099511627776 ∧ 0 ≤ e.move ∧ e.move ≤ 255 ∧ 0 ≤ e.block ∧ 0 ≤ e.zone ∧ 0 ≤ e.offset := by
 unfold Qbl; rw [decide_eq_true_eq]
theorem QqV (n : Int) : PS 248 [.c (.int .i64 n)] (.c (.bool (decide (0 ≤ n ∧ n ≤ 255)))) := by
 refine PSpec.rm ?_
 refine ov0 hΓ Tryz.func248 9 0 [.tmp 2] Tryz.ntmps248 Tryz.results248 ?_
 exact RM.i0
theorem QqB : HB 248 := hB Tryz.func248
theorem QoB (z o : Int) : PS 249 [.a [.int .i64 z, .int .i64 o]] (.c (.bool (decide (0 ≤ z ∧ 0 ≤ o)))) := by
 refine PSpec.rm ?_
 refine ov0 hΓ Tryz.func249 11 0 [.tmp 2] Tryz.ntmps249 Tryz.results249 ?_
 exact RM.i0
theorem QoA : HB 249 := hB Tryz.func249
theorem QoO (e : Ent) : PS 229 [.a e.cells] (.c (.bool (Qbl e))) := by
 refine PSpec.rm ?_
 refine ov0 hΓ Tryz.func229 36 0 [.tmp 2] Tryz.ntmps229 Tryz.results229 ?_
 refine CallG.auto QqB (fun _ => QqV e.move ) (Go0 ?_)
 refine CallG.auto QoA (fun _ => QoB e.zone e.offset ) (Go0 ?_)
 refine RM.immW rfl (WS.c (WC.bool ?_))
 rw [Bool.eq_iff_iff, entOk_iff]
 by_cases h1 : e.kind = 1 <;> by_cases h2 : e.kind = 2 <;> simp [h1, h2] <;> omega
theorem Qpb : HB 229 := hB Tryz.func229
theorem Qh5 {k : Nat} {a b : Int} : (bif decide ((k : Int) > 0) then decide (a ≥ b) else false) = decide (0 < k ∧ b ≤ a) := by
 by_cases h : 0 < k
 ·rw [decide_eq_true (show (k : Int) > 0 by omega)]
  exact decide_eq_decide.2 ⟨fun q => ⟨h, q⟩, fun q => q.2⟩
 ·rw [decide_eq_false (show ¬ (k : Int) > 0 by omega)]
  exact (decide_eq_false fun q => h q.1).symm
theorem QjN (l : List Ent) (hl : l.length ≤ 1000000) : PS 200 [.c (Qaw l)] (.c (.bool (Q0 l))) := by
 refine PSpec.rm ?_
 refine ov hΓ Tryz.func200 31 0 [.tmp 2] Tryz.ntmps200 Tryz.results200 ?_
 refine Go1 fun _h=>?_
 refine Lp.mkK hΓ (ι := Nat) [0, 5, 6] (fun i => [(7, .c (.int .i64 i))]) (fun _ => []) (fun k => k ≤ l.length ∧ ∀ i, i < k → Qbl (l.getD i default) = true ∧ (0 < i → (l.getD (i - 1) default).block < (l.getD i default).block)) (fun i => l.length - i) 0 ⟨Nat.zero_le _, fun j hj => absurd hj (Nat.not_lt_zero _)⟩ ?_ ?_
 ·exact Mv.k0
 ·rintro k ⟨hk, hk2⟩
  refine Go0 ?_
  refine Br.of (fun h2=>Go0 ?_) (fun h2=>Go0 ?_)
  ·refine Dr.mk hΓ hMix (by kernel_rfl) (Go0 ?_)
   refine CallP.auto Qpb (QoO (l.getD k default) ) (Go0 ?_)
   have hw : IntKind.i64.wrap (↑k - 1) = ↑k - 1 := Qa _ om om
   refine Need.mk (fun h => by rw [hw]; simp only [Bool.and_eq_true, decide_eq_true_eq] at h; omega) ?_
   conv=>whnf
   refine Need.mk (fun h => by rw [hw]; simp only [Bool.and_eq_true, decide_eq_true_eq] at h; omega) (Go0 ?_)
   have hp : (IntKind.i64.wrap (↑k - 1)).toNat = k - 1 := by rw [hw]; omega
   have w0 := Qa (↑k + 1) om om
   by_cases e : Qbl (l.getD k default) = true ∧ (0 < k → (l.getD (k - 1) default).block < (l.getD k default).block)
   ·refine Br.no ?_ ?_
    ·rw [hp, e.1]
     refine (Qh5 (k := k)).trans (decide_eq_false fun q => ?_)
     have := e.2 q.1
     have q2 : (l.getD k default).block ≤ (l.getD (k - 1) default).block := q.2
     omega
    refine Go0 ?_
    refine ⟨k + 1, ⟨om, QD hk2 e⟩, om, ?_⟩
    exact Mv.k0
   ·refine Br.yes ?_ ?_
    ·rw [hp]
     show (bif !Qbl (l.getD k default) then true else bif decide ((k : Int) > 0) then decide ((l.getD (k - 1) default).block ≥ (l.getD k default).block) else false) = true
     cases h1 : Qbl (l.getD k default) with
     | false => rfl
     | true =>
      have h0 : 0 < k := by
       rcases Nat.eq_zero_or_pos k with c | c
       ·exact absurd ⟨h1, fun q => by omega⟩ e
       ·exact c
      have h3 : (l.getD k default).block ≤ (l.getD (k - 1) default).block := by
       have : ¬ (l.getD (k - 1) default).block < (l.getD k default).block := fun q => e ⟨h1, fun _ => q⟩
       omega
      exact (Qh5 (k := k)).trans (decide_eq_true ⟨h0, h3⟩)
    refine Go0 ?_
    rw [show Q0 l = false from decide_eq_false (fun q => e (q k om))]
    exact RM.i0
  ·rw [show Q0 l = true from decide_eq_true (fun i hi => hk2 i om)]
   exact RM.i0
theorem Qjv : HB 200 := hB Tryz.func200
theorem Qdh {α : Type} [Inhabited α] {l : List α} {p : α → Bool} {k : Nat} (hk : k < l.length) (h : p (l.getD k default) = true) (hs : ∀ j, j < k → p (l.getD j default) = false) : l.any p = true ∧ l.findIdx p = k := by
 have ek : ∀ j (h : j < l.length), l.getD j default = l[j] := fun j h => by simp [List.getD, h]
 refine ⟨List.any_eq_true.2 ⟨l[k], List.getElem_mem hk, by rw [← ek k hk]; exact h⟩, ?_⟩
 rw [List.findIdx_eq hk]
 exact ⟨by rw [← ek k hk]; exact h, fun j hj => by rw [← ek j om]; exact hs j hj⟩
theorem QcF {α : Type} [Inhabited α] {l : List α} {p : α → Bool} (hs : ∀ j, j < l.length → p (l.getD j default) = false) : ¬ l.any p = true := by
 rw [List.any_eq_true]
 rintro ⟨x, hx, hp⟩
 obtain ⟨j, hj, rfl⟩ := List.getElem_of_mem hx
 have := hs j hj
 rw [show l.getD j default = l[j] by simp [List.getD, hj]] at this
 rw [this] at hp
 cases hp
theorem any_iff {α : Type} [Inhabited α] {l : List α} {p : α → Bool} : l.any p = false ↔ ∀ j, j < l.length → p (l.getD j default) = false := by
 constructor
 ·intro h j hj
  cases hp : p (l.getD j default) with
  | false => rfl
  | true =>
   have : l.any p = true := List.any_eq_true.2 ⟨l[j], List.getElem_mem hj, by rw [← hp]; simp [List.getD, hj]⟩
   rw [this] at h; cases h
 ·intro h
  cases hp : l.any p with
  | false => rfl
  | true => exact absurd hp (QcF h)
def QF (m : List (List Ent)) (b : Int) : Int := if b < 0 ∨ m.length = 0 then -1 else b.tmod m.length
theorem Qn9 (m : List (List Ent)) (b : Int) (hm : m.length ≤ 1000000) : PS 202 [.a [QH m], .c (.int .i64 b)] (.c (.int .i64 (QF m b))) := by
 refine PSpec.rm ?_
 refine ov0 hΓ Tryz.func202 18 0 [.tmp 4] Tryz.ntmps202 Tryz.results202 ?_
 by_cases h : b < 0 ∨ m.length = 0
 ·refine Br.yes (by rcases h with h | h <;> simp [h]) ?_
  refine Go0 ?_
  rw [show QF m b = -1 from if_pos h]
  exact RM.i0
 ·have h1 : ¬ b < 0 := by omega
  have h2 : ¬ (m.length : Int) = 0 := by omega
  refine Br.no (by rw [decide_eq_false h1]; exact decide_eq_false h2) (Go1 fun _h=>?_)
  rw [show QF m b = b.tmod m.length from if_neg h]
  exact RM.i0
theorem QoX : HB 202 := hB Tryz.func202
def capR (m : List (List Ent)) (i : Int) : Nat → C
 | 0 => .ip 1 fun _ => QH m
 | _ => .ip 1 fun _ => .int .i64 i
theorem QiR (m : List (List Ent)) (i : Int) (j : Nat) : (capR m i j).imm = true := by
 unfold capR; split <;> rfl
theorem Qn3 (m : List (List Ent)) (i : Int) (e : Ent) (hm : m.length ≤ 1000000) : PS 201 [.a e.cells, .c (.ip 1 fun _ => QH m), .c (.ip 1 fun _ => .int .i64 i)] (.c (.bool (!decide (QF m e.block = i)))) := by
 refine PSpec.rm ?_
 refine ov0 hΓ Tryz.func201 11 0 [.tmp 4] Tryz.ntmps201 Tryz.results201 ?_
 refine Dr.mk hΓ hMix (by kernel_rfl) (Go0 ?_)
 refine CallP.auto QoX (Qn9 m e.block hm ) (Go0 ?_)
 exact RM.i0
theorem QoI : HB 201 := hB Tryz.func201
theorem Qop (m : List (List Ent)) (q0 : Int) (hm : m.length ≤ 1000000) (l : List Ent) (hl : l.length ≤ 1000000) : PS 146 [.c (Qaw l), .c (.fn (.func 201) 2 (capR m q0))] (.c (.int .i64 (if l.any (fun (e : Ent) => !decide (QF m e.block = q0)) = true then (l.findIdx (fun (e : Ent) => !decide (QF m e.block = q0)) : Nat) else -1))) := by
 refine PSpec.rm ?_
 refine ov hΓ Tryz.func146 19 0 [.tmp 4] Tryz.ntmps146 Tryz.results146 ?_
 refine Go1 fun _h=>?_
 refine Lp.mkK hΓ (ι := Nat) [0, 1, 7] (fun i => [(8, .c (.int .i64 i))]) (fun _ => []) (fun i => i ≤ l.length ∧ ∀ j, j < i → (fun (e : Ent) => !decide (QF m e.block = q0)) (l.getD j default) = false) (fun i => l.length - i) 0 ⟨Nat.zero_le _, fun j hj => absurd hj om⟩ ?_ ?_
 ·refine Mv.k1 ?_
  exact WC.fnI (fun j _ => QiR m q0 j)
 ·rintro k ⟨hk, hs⟩
  refine Go0 ?_
  refine Br.of (fun h1=>Go0 ?_) (fun h1=>Go0 ?_)
  ·refine CallN.pureA QoI (Qn3 m q0 (l.getD k default) hm ) (Go0 ?_)
   cases hb : (fun (e : Ent) => !decide (QF m e.block = q0)) (l.getD k default) with
   | true =>
    refine Br.yes hb (Go0 ?_)
    obtain ⟨q1, q2⟩ := Qdh (p := fun (e : Ent) => !decide (QF m e.block = q0)) om hb hs
    rw [if_pos q1, q2]
    exact RM.i0
   | false =>
    refine Br.no hb (Go0 ?_)
    have w0 := Qa (↑k + 1) om om
    refine ⟨k + 1, ⟨om, QD hs hb⟩, om, ?_⟩
    refine Mv.k1 ?_
    exact WC.fnI (fun j _ => QiR m q0 j)
  ·rw [if_neg (QcF (fun j hj => hs j om))]
   exact RM.i0
theorem Qn8 : HB 146 := hB Tryz.func146
theorem QrF (m : List (List Ent)) (q0 : Int) (hm : m.length ≤ 1000000) (l : List Ent) (hl : l.length ≤ 1000000) : PS 79 [.c (Qaw l), .c (.fn (.func 201) 2 (capR m q0))] (.c (.bool (l.any (fun (e : Ent) => !decide (QF m e.block = q0))))) := by
 refine PSpec.rm ?_
 refine ov0 hΓ Tryz.func79 9 0 [.tmp 4] Tryz.ntmps79 Tryz.results79 ?_
 refine CallN.reads Qn8 (Qop m q0 hm l hl) (BwA.cons (BwS.c (Bw.same rfl)) (BwA.cons (BwS.c (Bw.fn fun j _ => Bw.same (QiR m q0 j))) BwA.nil)) rfl (Go0 ?_)
 refine RM.i1 ?_
 cases l.any (fun (e : Ent) => !decide (QF m e.block = q0)) with
 | true => simp
 | false => rfl
theorem Qqd : HB 79 := hB Tryz.func79
theorem Qsr {l : List (List Ent)} {x : List Ent} {t : List C} {n i j : Nat} (hn : n = l.length) (hi : i < l.length + 1) (hj : j < 1) : appG (QcZ l) n (QaC 1 (Qaw x :: t)) i j = QcZ (l ++ [x]) i j :=
 Qb8 (f := fun l _ => Qaw l) hn (fun j hj => by
  have : j = 0 := by omega
  subst this; rfl) hi hj
theorem Qni {α : Type} (l : List α) {k : Nat} (hk : k ≤ l.length) : (l.take k).length = k := by rw [List.length_take]; omega
theorem QaJ {α : Type} [Inhabited α] (l : List α) {k : Nat} (hk : k < l.length) : l.take (k + 1) = l.take k ++ [l.getD k default] := by
 rw [List.take_succ_eq_append_getElem hk]
 simp [List.getD, hk]
theorem Qlj (m : List (List Ent)) (hm : m.length ≤ 1000000) (hs : ∀ i, (m.getD i default).length ≤ 1000000) : PS 147 [.a [QH m]] (.a [QH m]) := by
 refine PSpec.rm ?_
 refine ov hΓ Tryz.func147 24 0 [.cell 2 227] Tryz.ntmps147 Tryz.results147 ?_
 refine Go1 fun _h=>?_
 refine Lp.mkK hΓ (ι := Nat) [2, 3, 7, 8] (fun i => [(9, .c (.int .i64 i))]) (fun k => [.vr [QH m], .vr [.nils], .vr [.sl 3 1 k k false], .arr 50 1 k (QcZ (m.take k))]) (fun i => i ≤ m.length) (fun i => m.length - i) 0 (Nat.zero_le _) ?_ ?_
 ·refine (Mv.reserveO 2 0 50 1 (QcZ []) rfl rfl rfl rfl).trans ?_
  refine Mv.k1 ?_
  intro i hi; omega
 ·intro k hk
  have hsk := hs k
  refine Go0 ?_
  refine Br.of (fun h=>Go0 ?_) (fun h=>Go0 ?_)
  ·refine Dr.mk hΓ hMix (by kernel_rfl) (Go0 ?_)
   refine CallP.auto Qej (Qei (m.getD k default) om ) (Go0 ?_)
   have w0 := Qa (↑k + 1) om om
   refine ⟨k + 1, om, om, ?_⟩
   refine Mv.k1 ?_
   intro i hi j hj
   rw [QaJ m om]
   exact WC.eq (Qsr (Qni m hk).symm (by rw [Qni m hk]; exact hi) hj) rfl
  ·have : k = m.length := by omega
   subst this
   refine RM.fz 3 rfl (Nat.zero_le _) (fun _ _ _ _ => rfl) ?_
   rw [List.take_length]
   exact RM.w0
theorem Qk7 : HB 147 := hB Tryz.func147
theorem Qhg {m : List (List Ent)} {l : List Ent} {i : Nat} (hl : Q0 l = true) (hm : 1 ≤ m.length) : (l.any fun (e : Ent) => !decide (QF m e.block = (i : Int))) = !QaD l m.length i := by
 have hb : ∀ k, k < l.length → 0 ≤ (l.getD k default).block := fun k hk => (entOk_iff.1 ((of_decide_eq_true hl) k hk).1).2.2.2.2.2.1
 have e : ∀ k, k < l.length → QF m (l.getD k default).block = (l.getD k default).block.tmod m.length := fun k hk => if_neg (by have := hb k hk; omega)
 cases h : QaD l m.length i with
 | true =>
  refine any_iff.2 fun k hk => ?_
  rw [e k hk]
  have := of_decide_eq_true h k hk
  simp only [this, decide_true, Bool.not_true]
 | false =>
  cases h2 : (l.any fun (e : Ent) => !decide (QF m e.block = (i : Int))) with
  | true => rfl
  | false =>
   have : QaD l m.length i = true := decide_eq_true fun k hk => by
    have := any_iff.1 h2 k hk
    rw [e k hk] at this
    simpa using this
   rw [this] at h; cases h
theorem Qin (m : List (List Ent)) (hm : m.length ≤ 1000000) (hs : ∀ i, (m.getD i default).length ≤ 1000000) : PS 148 [.a [QH m]] (.c (.bool (Qu m))) := by
 refine PSpec.rm ?_
 refine ov hΓ Tryz.func148 32 0 [.tmp 2] Tryz.ntmps148 Tryz.results148 ?_
 refine Go1 fun _h=>?_
 by_cases h : 1 ≤ m.length ∧ m.length ≤ 8
 ·have h1 : ¬ (m.length : Int) < 1 := by omega
  have h2 : ¬ (m.length : Int) > 8 := by omega
  refine Br.no (by rw [decide_eq_false h1]; exact decide_eq_false h2) (Go1 fun _h=>?_)
  refine Lp.mkK hΓ (ι := Nat) [1, 16, 17] (fun i => [(18, .c (.int .i64 i))]) (fun _ => [.vr [QH m]]) (fun k => k ≤ m.length ∧ ∀ i, i < k → Q0 (m.getD i default) = true ∧ QaD (m.getD i default) m.length i = true) (fun i => m.length - i) 0 ⟨Nat.zero_le _, fun j hj => absurd hj (Nat.not_lt_zero _)⟩ ?_ ?_
  ·exact Mv.k0
  ·rintro k ⟨hk, hk2⟩
   have hsk := hs k
   refine Go0 ?_
   refine Br.of (fun h3=>Go0 ?_) (fun h3=>Go0 ?_)
   ·refine CallN.pureA Qjv (QjN (m.getD k default) hsk ) (Go0 ?_)
    refine CallG.reads Qqd (fun _ => QrF m k hm (m.getD k default) hsk) (fun _ => BwA.cons (BwS.c (Bw.same rfl)) (BwA.cons (BwS.c (Bw.fn2 (g := lget [.ptr 0 0, .ptr 1 0]) (g' := capR m k) (Bw.ptr1 rfl rfl) (Bw.ptr1 rfl rfl))) BwA.nil)) rfl (Go0 ?_)
    have w0 := Qa (↑k + 1) om om
    by_cases e : Q0 (m.getD k default) = true ∧ QaD (m.getD k default) m.length k = true
    ·refine Br.no (by rw [e.1, Qhg e.1 h.1, e.2]; rfl) (Go0 ?_)
     refine ⟨k + 1, ⟨om, QD hk2 e⟩, om, ?_⟩
     exact Mv.k0
    ·refine Br.yes ?_ ?_
     ·cases h4 : Q0 (m.getD k default) with
      | false => rfl
      | true =>
       rw [Qhg h4 h.1]
       cases h5 : QaD (m.getD k default) m.length k with
       | false => rfl
       | true => exact absurd ⟨h4, h5⟩ e
     refine Go0 ?_
     rw [show Qu m = false by
      unfold Qu
      rw [decide_eq_true h, decide_eq_false (fun q => e (q k om))]; rfl]
     exact RM.i0
   ·rw [show Qu m = true by
     unfold Qu
     rw [decide_eq_true h, decide_eq_true (fun i hi => hk2 i om)]; rfl]
    exact RM.i0
 ·refine Br.yes ?_ ?_
  ·by_cases h1 : (m.length : Int) < 1
   ·rw [decide_eq_true h1]; rfl
   ·rw [decide_eq_false h1]; exact decide_eq_true om
  refine Go0 ?_
  rw [show Qu m = false by unfold Qu; rw [decide_eq_false h]; rfl]
  exact RM.i0
theorem Qiw : HB 148 := hB Tryz.func148
theorem Ql1 (m : List (List Ent)) (hm : m.length ≤ 1000000) (hs : ∀ i, (m.getD i default).length ≤ 1000000) : PS 193 [.a [QH m]] (.c (.bool (Qu m))) := by
 refine PSpec.rm ?_
 refine ov0 hΓ Tryz.func193 7 0 [.tmp 2] Tryz.ntmps193 Tryz.results193 ?_
 refine CallN.pureA Qk7 (Qlj m hm hs ) (Go0 ?_)
 refine CallN.pureA Qiw (Qin m hm hs ) (Go0 ?_)
 exact RM.i0
theorem QlK : HB 193 := hB Tryz.func193
def Qen (l : List Int) : Nat → Int
 | 0 => l.getD 0 default
 | k + 1 => min (Qen l k) (l.getD (k + 1) default)
def QdF (l : List Int) : Nat → Int
 | 0 => l.getD 0 default
 | k + 1 => max (QdF l k) (l.getD (k + 1) default)
theorem Qge {l : List Int} {c : Int} : ∀ {k : Nat}, c ≤ Qen l k ↔ ∀ i, i ≤ k → c ≤ l.getD i default
 | 0 => by
  simp only [Qen]
  exact ⟨fun h i hi => by rw [show i = 0 by omega]; exact h, fun h => h 0 (Nat.le_refl _)⟩
 | k + 1 => by
  have ih := Qge (l := l) (c := c) (k := k)
  simp only [Qen]
  constructor
  ·intro h i hi
   by_cases e : i = k + 1
   ·subst e; omega
   ·exact ih.1 om i om
  ·intro h
   have h1 := ih.2 fun i hi => h i om
   have h2 := h (k + 1) (Nat.le_refl _)
   omega
theorem QgO {l : List Int} {c : Int} : ∀ {k : Nat}, QdF l k ≤ c ↔ ∀ i, i ≤ k → l.getD i default ≤ c
 | 0 => by
  simp only [QdF]
  exact ⟨fun h i hi => by rw [show i = 0 by omega]; exact h, fun h => h 0 (Nat.le_refl _)⟩
 | k + 1 => by
  have ih := QgO (l := l) (c := c) (k := k)
  simp only [QdF]
  constructor
  ·intro h i hi
   by_cases e : i = k + 1
   ·subst e; omega
   ·exact ih.1 om i om
  ·intro h
   have h1 := ih.2 fun i hi => h i om
   have h2 := h (k + 1) (Nat.le_refl _)
   omega
theorem Qht (l : List Int) (h1 : 1 ≤ l.length) (h2 : l.length ≤ 1000000) : PS 227 [.c (Qi l)] (.c (.int .i64 (Qen l (l.length - 1)))) := by
 refine PSpec.rm ?_
 refine ov hΓ Tryz.func227 25 0 [.tmp 2] Tryz.ntmps227 Tryz.results227 ?_
 refine Go1 fun _h=>?_
 refine Br.no (decide_eq_false om) (Go0 ?_)
 refine Lp.mkK hΓ (ι := Nat) [0] (fun k => [(4, .c (.int .i64 (k + 1 : Nat))), (3, .c (.int .i64 (Qen l k)))]) (fun _ => []) (fun k => k + 1 ≤ l.length) (fun k => l.length - k) 0 om ?_ ?_
 ·exact Mv.k0
 ·intro k hk
  refine Go1 fun _h=>?_
  refine Br.of (fun h=>Go0 ?_) (fun h=>Go0 ?_)
  ·have w0 := Qa (↑(k + 1) + 1) om om
   refine ⟨k + 1, om, om, ?_⟩
   exact Mv.k0
  ·rw [show l.length - 1 = k by omega]
   exact RM.i0
theorem QhW : HB 227 := hB Tryz.func227
theorem QhK (l : List Int) (h1 : 1 ≤ l.length) (h2 : l.length ≤ 1000000) : PS 133 [.c (Qi l)] (.c (.int .i64 (QdF l (l.length - 1)))) := by
 refine PSpec.rm ?_
 refine ov hΓ Tryz.func133 25 0 [.tmp 2] Tryz.ntmps133 Tryz.results133 ?_
 refine Go1 fun _h=>?_
 refine Br.no (decide_eq_false om) (Go0 ?_)
 refine Lp.mkK hΓ (ι := Nat) [0] (fun k => [(4, .c (.int .i64 (k + 1 : Nat))), (3, .c (.int .i64 (QdF l k)))]) (fun _ => []) (fun k => k + 1 ≤ l.length) (fun k => l.length - k) 0 om ?_ ?_
 ·exact Mv.k0
 ·intro k hk
  refine Go1 fun _h=>?_
  refine Br.of (fun h=>Go0 ?_) (fun h=>Go0 ?_)
  ·have w0 := Qa (↑(k + 1) + 1) om om
   refine ⟨k + 1, om, om, ?_⟩
   exact Mv.k0
  ·rw [show l.length - 1 = k by omega]
   exact RM.i0
theorem QhL : HB 133 := hB Tryz.func133
theorem countsOk_iff {a b : List Int} : QC a b = true ↔ (a.length = b.length ∧ 1 ≤ a.length ∧ a.length ≤ 32) ∧ 0 ≤ Qen a (a.length - 1) ∧ 0 ≤ Qen b (b.length - 1) ∧ QdF a (a.length - 1) ≤ 1099511627776 ∧ QdF b (b.length - 1) ≤ 1099511627776 := by
 unfold QC
 rw [Bool.and_eq_true, decide_eq_true_eq, decide_eq_true_eq, Qge, Qge, QgO, QgO]
 constructor
 ·rintro ⟨h, h2⟩
  exact ⟨h, fun i hi => (h2 i om).1, fun i hi => (h2 i om).2.2.1, fun i hi => (h2 i om).2.1, fun i hi => (h2 i om).2.2.2⟩
 ·rintro ⟨h, h1, h2, h3, h4⟩
  exact ⟨h, fun i hi => ⟨h1 i om, h3 i om, h2 i om, h4 i om⟩⟩
theorem QkR (a b : List Int) (ha : a.length ≤ 1000000) (hb : b.length ≤ 1000000) : PS 195 [.a [Qi a, Qi b]] (.c (.bool (QC a b))) := by
 refine PSpec.rm ?_
 refine ov hΓ Tryz.func195 44 0 [.tmp 2] Tryz.ntmps195 Tryz.results195 ?_
 refine Go2 fun _h _h=>?_
 by_cases h : a.length = b.length ∧ 1 ≤ a.length ∧ a.length ≤ 32
 ·refine Br.no ?_ ?_
  ·have h1 : ¬ (a.length : Int) < 1 := by omega
   have h2 : ¬ (a.length : Int) > 32 := by omega
   have h3 : ((a.length : Int) != (b.length : Int)) = false := by simp [h.1]
   rw [h3, decide_eq_false h1]; exact decide_eq_false h2
  refine Go0 ?_
  refine CallN.pureA QhW (Qht a om om ) (Go0 ?_)
  refine CallG.auto QhW (fun _ => Qht b om om ) (Go0 ?_)
  refine CallG.auto QhL (fun _ => QhK a om om ) (Go0 ?_)
  refine CallG.auto QhL (fun _ => QhK b om om ) (Go0 ?_)
  refine RM.immW rfl (WS.c (WC.bool ?_))
  rw [Bool.eq_iff_iff, countsOk_iff]
  simp only [Bool.cond_false_right, Bool.and_eq_true, decide_eq_true_eq]
  constructor
  ·rintro ⟨⟨⟨h1, h2⟩, h3⟩, h4⟩; exact ⟨h, h1, h2, h3, h4⟩
  ·rintro ⟨-, h1, h2, h3, h4⟩; exact ⟨⟨⟨h1, h2⟩, h3⟩, h4⟩
 ·refine Br.yes ?_ ?_
  ·by_cases h1 : (a.length : Int) = b.length
   ·rw [show ((a.length : Int) != (b.length : Int)) = false by simp [h1]]
    by_cases h2 : (a.length : Int) < 1
    ·rw [decide_eq_true h2]; rfl
    ·rw [decide_eq_false h2]; exact decide_eq_true om
   ·rw [show ((a.length : Int) != (b.length : Int)) = true by simpa using h1]; rfl
  refine Go0 ?_
  rw [Qg (fun e => h (countsOk_iff.1 e).1 : ¬ QC a b = true)]
  exact RM.i0
theorem QkK : HB 195 := hB Tryz.func195
theorem Qov {a : List Int} : Qaj a = true ↔ (1 ≤ a.length ∧ a.length ≤ 8) ∧ -1 ≤ Qen a (a.length - 1) := by
 unfold Qaj
 rw [Bool.and_eq_true, decide_eq_true_eq, decide_eq_true_eq, Qge]
 exact ⟨fun ⟨h, h2⟩ => ⟨h, fun i hi => h2 i om⟩, fun ⟨h, h2⟩ => ⟨h, fun i hi => h2 i om⟩⟩
theorem QjH (a : List Int) (ha : a.length ≤ 1000000) : PS 196 [.a [Qi a]] (.c (.bool (Qaj a))) := by
 refine PSpec.rm ?_
 refine ov hΓ Tryz.func196 19 0 [.tmp 2] Tryz.ntmps196 Tryz.results196 ?_
 refine Go1 fun _h=>?_
 refine CallG.auto QhW (fun hg => Qht a (by simp only [Bool.cond_false_right, Bool.and_eq_true, decide_eq_true_eq] at hg; omega) ha) (Go0 ?_)
 refine RM.immW rfl (WS.c (WC.bool ?_))
 rw [Bool.eq_iff_iff, Qov]
 simp only [Bool.cond_false_right, Bool.and_eq_true, decide_eq_true_eq]
 constructor
 ·rintro ⟨h1, h2⟩; exact ⟨om, h2⟩
 ·rintro ⟨h1, h2⟩; exact ⟨om, h2⟩
theorem Qj7 : HB 196 := hB Tryz.func196
theorem QeR (c : Conf) (r : Req) : PS 61 [.a c.cells, .a [.int .i64 r.kind, .int .i64 r.block, .str r.data]] (.c (.int .i64 (cmdE c r))) := by
 refine PSpec.rm ?_
 have fin : ∀ n, cmdE c r = n → RM 0 (.c (.int .i64 n)) [.vr c.cells, .vr [.int .i64 r.kind, .int .i64 r.block, .str r.data]] (.c (.int .i64 (cmdE c r))) [] := fun n h => by
  rw [h]; refine RM.immW rfl ?_;(first|exact wb0|refine wb1 ?_|refine wb2 ?_ ?_|refine wb3 ?_ ?_ ?_|refine wb4 ?_ ?_ ?_ ?_)
 refine ov0 hΓ Tryz.func61 35 0 [.tmp 4] Tryz.ntmps61 Tryz.results61 ?_
 by_cases hk : r.kind = 1 ∨ r.kind = 2 ∨ r.kind = 3
 ·by_cases hb : r.block < 0 ∨ r.block ≥ c.blocks
  ·have hc : (bif decide (r.block < 0) then true else decide (r.block ≥ c.blocks)) = true := by
    rcases hb with hb | hb
    ·rw [decide_eq_true hb]; rfl
    ·rw [decide_eq_true hb]; cases decide (r.block < 0) <;> rfl
   rcases hk with hk | hk | hk
   ·refine Br.yes (by simp [hk]) (Go0 ?_)
    refine Br.yes (by simp [hk]) (Go0 ?_)
    refine Br.yes hc (Go0 ?_)
    exact fin _ (by unfold cmdE; (repeat' split) <;> omega)
   ·refine Br.no (by simp [hk]) (Go0 ?_)
    refine Br.yes (by simp [hk]) (Go0 ?_)
    refine Br.yes (by simp [hk]) (Go0 ?_)
    refine Br.yes hc (Go0 ?_)
    exact fin _ (by unfold cmdE; (repeat' split) <;> omega)
   ·refine Br.no (by simp [hk]) (Go0 ?_)
    refine Br.no (by simp [hk]) (Go0 ?_)
    refine Br.yes (by simp [hk]) (Go0 ?_)
    refine Br.yes hc (Go0 ?_)
    exact fin _ (by unfold cmdE; (repeat' split) <;> omega)
  ·have hc : (bif decide (r.block < 0) then true else decide (r.block ≥ c.blocks)) = false := by
    rw [decide_eq_false (by omega : ¬ r.block < 0)]; exact decide_eq_false om
   rcases hk with hk | hk | hk
   ·refine Br.yes (by simp [hk]) (Go0 ?_)
    refine Br.yes (by simp [hk]) (Go0 ?_)
    refine Br.no hc (Go0 ?_)
    (first|refine Br.od (fun h5=>?_) (fun h5=>?_)|refine Br.mk (fun h5=>?_) (fun h5=>?_)<;>simp [-List.length_eq_zero_iff,-List.getD_eq_getElem?_getD] at h5)<;>(try simp only [Int.toNat_natCast] at h5)<;>(conv=>whnf)
    ·refine Go1 fun _h=>?_
     (first|refine Br.od (fun h6=>?_) (fun h6=>?_)|refine Br.mk (fun h6=>?_) (fun h6=>?_)<;>simp [-List.length_eq_zero_iff,-List.getD_eq_getElem?_getD] at h6)<;>(try simp only [Int.toNat_natCast] at h6)<;>(conv=>whnf)
     ·refine Go0 ?_
      exact fin _ (by unfold cmdE; (repeat' split) <;> omega)
     ·refine Go0 ?_
      exact fin _ (by unfold cmdE; (repeat' split) <;> omega)
    ·refine Go1 fun _h=>?_
     (first|refine Br.od (fun h6=>?_) (fun h6=>?_)|refine Br.mk (fun h6=>?_) (fun h6=>?_)<;>simp [-List.length_eq_zero_iff,-List.getD_eq_getElem?_getD] at h6)<;>(try simp only [Int.toNat_natCast] at h6)<;>(conv=>whnf)
     ·refine Go0 ?_
      exact fin _ (by unfold cmdE; (repeat' split) <;> omega)
     ·refine Go0 ?_
      exact fin _ (by unfold cmdE; (repeat' split) <;> omega)
   ·refine Br.no (by simp [hk]) (Go0 ?_)
    refine Br.yes (by simp [hk]) (Go0 ?_)
    refine Br.yes (by simp [hk]) (Go0 ?_)
    refine Br.no hc (Go0 ?_)
    (first|refine Br.od (fun h5=>?_) (fun h5=>?_)|refine Br.mk (fun h5=>?_) (fun h5=>?_)<;>simp [-List.length_eq_zero_iff,-List.getD_eq_getElem?_getD] at h5)<;>(try simp only [Int.toNat_natCast] at h5)<;>(conv=>whnf)
    ·refine Go1 fun _h=>?_
     (first|refine Br.od (fun h6=>?_) (fun h6=>?_)|refine Br.mk (fun h6=>?_) (fun h6=>?_)<;>simp [-List.length_eq_zero_iff,-List.getD_eq_getElem?_getD] at h6)<;>(try simp only [Int.toNat_natCast] at h6)<;>(conv=>whnf)
     ·refine Go0 ?_
      exact fin _ (by unfold cmdE; (repeat' split) <;> omega)
     ·refine Go0 ?_
      exact fin _ (by unfold cmdE; (repeat' split) <;> omega)
    ·refine Go1 fun _h=>?_
     (first|refine Br.od (fun h6=>?_) (fun h6=>?_)|refine Br.mk (fun h6=>?_) (fun h6=>?_)<;>simp [-List.length_eq_zero_iff,-List.getD_eq_getElem?_getD] at h6)<;>(try simp only [Int.toNat_natCast] at h6)<;>(conv=>whnf)
     ·refine Go0 ?_
      exact fin _ (by unfold cmdE; (repeat' split) <;> omega)
     ·refine Go0 ?_
      exact fin _ (by unfold cmdE; (repeat' split) <;> omega)
   ·refine Br.no (by simp [hk]) (Go0 ?_)
    refine Br.no (by simp [hk]) (Go0 ?_)
    refine Br.yes (by simp [hk]) (Go0 ?_)
    refine Br.no hc (Go0 ?_)
    (first|refine Br.od (fun h5=>?_) (fun h5=>?_)|refine Br.mk (fun h5=>?_) (fun h5=>?_)<;>simp [-List.length_eq_zero_iff,-List.getD_eq_getElem?_getD] at h5)<;>(try simp only [Int.toNat_natCast] at h5)<;>(conv=>whnf)
    ·refine Go1 fun _h=>?_
     (first|refine Br.od (fun h6=>?_) (fun h6=>?_)|refine Br.mk (fun h6=>?_) (fun h6=>?_)<;>simp [-List.length_eq_zero_iff,-List.getD_eq_getElem?_getD] at h6)<;>(try simp only [Int.toNat_natCast] at h6)<;>(conv=>whnf)
     ·refine Go0 ?_
      exact fin _ (by unfold cmdE; (repeat' split) <;> omega)
     ·refine Go0 ?_
      exact fin _ (by unfold cmdE; (repeat' split) <;> omega)
    ·refine Go1 fun _h=>?_
     (first|refine Br.od (fun h6=>?_) (fun h6=>?_)|refine Br.mk (fun h6=>?_) (fun h6=>?_)<;>simp [-List.length_eq_zero_iff,-List.getD_eq_getElem?_getD] at h6)<;>(try simp only [Int.toNat_natCast] at h6)<;>(conv=>whnf)
     ·refine Go0 ?_
      exact fin _ (by unfold cmdE; (repeat' split) <;> omega)
     ·refine Go0 ?_
      exact fin _ (by unfold cmdE; (repeat' split) <;> omega)
 ·have h1 : ¬ r.kind = 1 := by omega
  have h2 : ¬ r.kind = 2 := by omega
  have h3 : ¬ r.kind = 3 := by omega
  refine Br.no (by simp [h1]) (Go0 ?_)
  refine Br.no (by simp [h2]) (Go0 ?_)
  refine Br.no (by simp [h3]) (Go0 ?_)
  (first|refine Br.od (fun h4=>?_) (fun h4=>?_)|refine Br.mk (fun h4=>?_) (fun h4=>?_)<;>simp [-List.length_eq_zero_iff,-List.getD_eq_getElem?_getD] at h4)<;>(try simp only [Int.toNat_natCast] at h4)<;>(conv=>whnf)
  ·refine Go0 ?_
   (first|refine Br.od (fun h7=>?_) (fun h7=>?_)|refine Br.mk (fun h7=>?_) (fun h7=>?_)<;>simp [-List.length_eq_zero_iff,-List.getD_eq_getElem?_getD] at h7)<;>(try simp only [Int.toNat_natCast] at h7)<;>(conv=>whnf)
   ·refine Go0 ?_
    exact fin _ (by unfold cmdE; (repeat' split) <;> omega)
   ·refine Go0 ?_
    (first|refine Br.od (fun h5=>?_) (fun h5=>?_)|refine Br.mk (fun h5=>?_) (fun h5=>?_)<;>simp [-List.length_eq_zero_iff,-List.getD_eq_getElem?_getD] at h5)<;>(try simp only [Int.toNat_natCast] at h5)<;>(conv=>whnf)
    ·refine Go1 fun _h=>?_
     (first|refine Br.od (fun h6=>?_) (fun h6=>?_)|refine Br.mk (fun h6=>?_) (fun h6=>?_)<;>simp [-List.length_eq_zero_iff,-List.getD_eq_getElem?_getD] at h6)<;>(try simp only [Int.toNat_natCast] at h6)<;>(conv=>whnf)
     ·refine Go0 ?_
      exact fin _ (by unfold cmdE; (repeat' split) <;> omega)
     ·refine Go0 ?_
      exact fin _ (by unfold cmdE; (repeat' split) <;> omega)
    ·refine Go1 fun _h=>?_
     (first|refine Br.od (fun h6=>?_) (fun h6=>?_)|refine Br.mk (fun h6=>?_) (fun h6=>?_)<;>simp [-List.length_eq_zero_iff,-List.getD_eq_getElem?_getD] at h6)<;>(try simp only [Int.toNat_natCast] at h6)<;>(conv=>whnf)
     ·refine Go0 ?_
      exact fin _ (by unfold cmdE; (repeat' split) <;> omega)
     ·refine Go0 ?_
      exact fin _ (by unfold cmdE; (repeat' split) <;> omega)
  ·refine Go0 ?_
   exact fin _ (by unfold cmdE; (repeat' split) <;> omega)
theorem QeX : HB 61 := hB Tryz.func61
theorem wrkOk_iff {c : Conf} {w : Wrk} : Qas c w = true ↔ (w.state = 0 ∨ cmdE c w.req = 0 ∧ (w.req.kind = 1 → 1 ≤ w.state ∧ w.state ≤ 4) ∧ (w.req.kind = 4 → w.state = 10 ∨ w.state = 11) ∧ (w.req.kind ≠ 1 → w.req.kind ≠ 4 → 5 ≤ w.state ∧ w.state ≤ 9)) := by
 unfold Qas; rw [decide_eq_true_eq]
theorem Qfd {c : Conf} {r : Req} (h : cmdE c r = 0) : 1 ≤ r.kind ∧ r.kind ≤ 4 := by
 unfold cmdE at h
 split at h
 ·omega
 ·omega
theorem Qoq (s : St) (w : Wrk) : PS 140 [.a s.cells, .a w.cells] (.c (.bool (Qas s.cfg w))) := by
 refine PSpec.rm ?_
 refine ov0 hΓ Tryz.func140 63 0 [.tmp 4] Tryz.ntmps140 Tryz.results140 ?_
 (first|refine Br.od (fun h=>?_) (fun h=>?_)|refine Br.mk (fun h=>?_) (fun h=>?_)<;>simp [-List.length_eq_zero_iff,-List.getD_eq_getElem?_getD] at h)<;>(try simp only [Int.toNat_natCast] at h)<;>(conv=>whnf)
 ·refine Go0 ?_
  rw [wrkOk_iff.2 (Or.inl h)]
  exact RM.i0
 ·refine Go0 ?_
  (first|refine Br.od (fun h1=>?_) (fun h1=>?_)|refine Br.mk (fun h1=>?_) (fun h1=>?_)<;>simp [-List.length_eq_zero_iff,-List.getD_eq_getElem?_getD] at h1)<;>(try simp only [Int.toNat_natCast] at h1)<;>(conv=>whnf)
  ·refine Go0 ?_
   refine CallN.pureA QeX (QeR s.cfg w.req ) (Go0 ?_)
   refine RM.immW rfl (WS.c (WC.bool ?_))
   rw [Bool.eq_iff_iff, wrkOk_iff]
   have hk := @Qfd s.cfg w.req
   generalize cmdE s.cfg w.req = e at hk ⊢
   generalize w.req.kind = kd at hk ⊢
   by_cases he : e = 0
   ·have hk := hk he
    by_cases k1 : kd = 1 <;> by_cases k2 : kd = 2 <;> by_cases k3 : kd = 3 <;> by_cases k4 : kd = 4 <;> simp [he, k1, k2, k3, k4] <;> omega
   ·simp [he]; omega
  ·refine Go0 ?_
   (first|refine Br.od (fun h2=>?_) (fun h2=>?_)|refine Br.mk (fun h2=>?_) (fun h2=>?_)<;>simp [-List.length_eq_zero_iff,-List.getD_eq_getElem?_getD] at h2)<;>(try simp only [Int.toNat_natCast] at h2)<;>(conv=>whnf)
   ·refine Go0 ?_
    refine CallN.pureA QeX (QeR s.cfg w.req ) (Go0 ?_)
    refine RM.immW rfl (WS.c (WC.bool ?_))
    rw [Bool.eq_iff_iff, wrkOk_iff]
    have hk := @Qfd s.cfg w.req
    generalize cmdE s.cfg w.req = e at hk ⊢
    generalize w.req.kind = kd at hk ⊢
    by_cases he : e = 0
    ·have hk := hk he
     by_cases k1 : kd = 1 <;> by_cases k2 : kd = 2 <;> by_cases k3 : kd = 3 <;> by_cases k4 : kd = 4 <;> simp [he, k1, k2, k3, k4] <;> omega
    ·simp [he]; omega
   ·refine Go0 ?_
    (first|refine Br.od (fun h3=>?_) (fun h3=>?_)|refine Br.mk (fun h3=>?_) (fun h3=>?_)<;>simp [-List.length_eq_zero_iff,-List.getD_eq_getElem?_getD] at h3)<;>(try simp only [Int.toNat_natCast] at h3)<;>(conv=>whnf)
    ·refine Go0 ?_
     refine CallN.pureA QeX (QeR s.cfg w.req ) (Go0 ?_)
     refine RM.immW rfl (WS.c (WC.bool ?_))
     rw [Bool.eq_iff_iff, wrkOk_iff]
     have hk := @Qfd s.cfg w.req
     generalize cmdE s.cfg w.req = e at hk ⊢
     generalize w.req.kind = kd at hk ⊢
     by_cases he : e = 0
     ·have hk := hk he
      by_cases k1 : kd = 1 <;> by_cases k2 : kd = 2 <;> by_cases k3 : kd = 3 <;> by_cases k4 : kd = 4 <;> simp [he, k1, k2, k3, k4] <;> omega
     ·simp [he]; omega
    ·refine Go0 ?_
     refine CallN.pureA QeX (QeR s.cfg w.req ) (Go0 ?_)
     refine RM.immW rfl (WS.c (WC.bool ?_))
     rw [Bool.eq_iff_iff, wrkOk_iff]
     have hk := @Qfd s.cfg w.req
     generalize cmdE s.cfg w.req = e at hk ⊢
     generalize w.req.kind = kd at hk ⊢
     by_cases he : e = 0
     ·have hk := hk he
      by_cases k1 : kd = 1 <;> by_cases k2 : kd = 2 <;> by_cases k3 : kd = 3 <;> by_cases k4 : kd = 4 <;> simp [he, k1, k2, k3, k4] <;> omega
     ·simp [he]; omega
theorem QoJ : HB 140 := hB Tryz.func140
end Go.Proofs
end
