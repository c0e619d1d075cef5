/- Contracts, lemmas; no condition. -/
import Derived.Test.YtkelkepdcfogaaaGreatP17B
import Derived.Test.YtkelkepdcfogaaaGreatP13B
import Derived.Test.YtkelkepdcfogaaaGreatP11B
import Derived.Test.YtkelkepdcfogaaaGreatEnvB
import Derived.Test.YtkelkepdcfogaaaGreatP15B
import Derived.Test.YtkelkepdcfogaaaGreatP16B
set_option linter.all false
section
open Go Go.Am
namespace Go.Proofs
set_option maxRecDepth 20000
def Sav.cells (s : Sav) : List C := [.int .i64 s.state, .int .i64 s.done, .int .i64 s.slot, .int .i64 s.seq, .int .i64 s.next, .int .i64 s.cut, QR s.ents, Qb9 s.recs]
theorem QnE (a b : Zone) : Qd4 a b = decide (a = b) := by
 unfold Qd4
 rw [Bool.eq_iff_iff]
 cases a; cases b
 simp only [Bool.and_eq_true, decide_eq_true_eq, Zone.mk.injEq]
 constructor
 ·rintro ⟨⟨h1, h2, -⟩, h3⟩; exact ⟨h1, h2, h3⟩
 ·rintro ⟨rfl, rfl, rfl⟩; exact ⟨⟨rfl, rfl, rfl⟩, rfl⟩
theorem Qqc : ∀ a b : List Zone, Qa6 a b = decide (a = b)
 | [], [] => by simp [Qa6]
 | x :: r, y :: r' => by
  rw [Bool.eq_iff_iff]
  simp [Qa6, QnE, Qqc r r']
 | [], _ :: _ => by simp [Qa6]
 | _ :: _, [] => by simp [Qa6]
theorem entOk_iff {e : Ent} : QbO e = true ↔ (e.kind = 1 ∨ e.kind = 2) ∧ 1 ≤ e.version ∧ e.version ≤ 1099511627776 ∧ 0 ≤ e.move ∧ e.move ≤ 255 ∧ 0 ≤ e.block ∧ 0 ≤ e.zone ∧ 0 ≤ e.offset := by
 unfold QbO; rw [decide_eq_true_eq]
theorem Qo4 (n : Int) : PS 163 [.c (.int .i64 n)] (.c (.bool (decide (0 ≤ n ∧ n ≤ 255)))) := by
 refine PSpec.rm ?_
 refine ov hΓ Tryz.func163 9 0 [.tmp 2] Tryz.ntmps163 Tryz.results163 ?_
 ((conv=>whnf);(repeat' ((first|refine Nd ?_|refine Hv fun _h=>?_);conv=>whnf)))
 exact RM.i0
theorem Qo0 : HB 163 := hB Tryz.func163
theorem QnM (z o : Int) : PS 164 [.a [.int .i64 z, .int .i64 o]] (.c (.bool (decide (0 ≤ z ∧ 0 ≤ o)))) := by
 refine PSpec.rm ?_
 refine ov hΓ Tryz.func164 11 0 [.tmp 2] Tryz.ntmps164 Tryz.results164 ?_
 ((conv=>whnf);(repeat' ((first|refine Nd ?_|refine Hv fun _h=>?_);conv=>whnf)))
 exact RM.i0
theorem Qnp : HB 164 := hB Tryz.func164
theorem Qhf (e : Ent) : PS 143 [.a e.cells] (.c (.bool (QbO e))) := by
 refine PSpec.rm ?_
 refine ov hΓ Tryz.func143 36 0 [.tmp 2] Tryz.ntmps143 Tryz.results143 ?_
 ((conv=>whnf);(repeat' ((first|refine Nd ?_|refine Hv fun _h=>?_);conv=>whnf)))
 refine CallG.auto Qo0 (fun _ => Qo4 e.move ) ?_
 ((conv=>whnf);(repeat' ((first|refine Nd ?_|refine Hv fun _h=>?_);conv=>whnf)))
 refine CallG.auto Qnp (fun _ => QnM e.zone e.offset ) ?_
 ((conv=>whnf);(repeat' ((first|refine Nd ?_|refine Hv fun _h=>?_);conv=>whnf)))
 refine RM.immW rfl (WS.c (WC.bool ?_))
 rw [Bool.eq_iff_iff, entOk_iff]
 by_cases h1 : e.kind = 1 <;> by_cases h2 : e.kind = 2 <;> simp [h1, h2] <;> omega
theorem QhE : HB 143 := hB Tryz.func143
theorem QoI {k : Nat} {a b : Int} : (bif decide ((k : Int) > 0) then decide (a ≥ b) else false) = decide (0 < k ∧ b ≤ a) := by
 by_cases h : 0 < k
 ·rw [decide_eq_true (show (k : Int) > 0 by omega)]
  exact decide_eq_decide.2 ⟨fun q => ⟨h, q⟩, fun q => q.2⟩
 ·rw [decide_eq_false (show ¬ (k : Int) > 0 by omega)]
  exact (decide_eq_false fun q => h q.1).symm
theorem QeC (l : List Ent) (hl : l.length ≤ 1000000) : PS 142 [.c (QR l)] (.c (.bool (QL l))) := by
 refine PSpec.rm ?_
 refine ov hΓ Tryz.func142 31 0 [.tmp 2] Tryz.ntmps142 Tryz.results142 ?_
 ((conv=>whnf);(repeat' ((first|refine Nd ?_|refine Hv fun _h=>?_);conv=>whnf)))
 refine Lp.mkK hΓ (ι := Nat) [0, 5, 6] (fun i => [(7, .c (.int .i64 i))]) (fun _ => []) (fun k => k ≤ l.length ∧ ∀ i, i < k → QbO (l.getD i default) = true ∧ (0 < i → (l.getD (i - 1) default).block < (l.getD i default).block)) (fun i => l.length - i) 0 ⟨Nat.zero_le _, fun j hj => absurd hj (Nat.not_lt_zero _)⟩ ?_ ?_
 ·exact Mv.k0
 ·rintro k ⟨hk, hk2⟩
  ((conv=>whnf);(repeat' ((first|refine Nd ?_|refine Hv fun _h=>?_);conv=>whnf)))
  refine Br.of (fun h2=>?_) (fun h2=>?_)<;>(try simp only [Int.toNat_natCast] at h2)<;>(conv=>whnf)
  ·((conv=>whnf);(repeat' ((first|refine Nd ?_|refine Hv fun _h=>?_);conv=>whnf)))
   refine Dr.mk hΓ hMix (by kernel_rfl) ?_; conv=>whnf
   ((conv=>whnf);(repeat' ((first|refine Nd ?_|refine Hv fun _h=>?_);conv=>whnf)))
   refine CallP.auto QhE (Qhf (l.getD k default) ) ?_
   ((conv=>whnf);(repeat' ((first|refine Nd ?_|refine Hv fun _h=>?_);conv=>whnf)))
   have hw : IntKind.i64.wrap (↑k - 1) = ↑k - 1 := Qa _ (by omega) (by omega)
   refine Need.mk (fun h => by rw [hw]; simp only [Bool.and_eq_true, decide_eq_true_eq] at h; omega) ?_
   conv=>whnf
   refine Need.mk (fun h => by rw [hw]; simp only [Bool.and_eq_true, decide_eq_true_eq] at h; omega) ?_
   ((conv=>whnf);(repeat' ((first|refine Nd ?_|refine Hv fun _h=>?_);conv=>whnf)))
   have hp : (IntKind.i64.wrap (↑k - 1)).toNat = k - 1 := by rw [hw]; omega
   have w0 := Qa (↑k + 1) (by omega) (by omega)
   by_cases e : QbO (l.getD k default) = true ∧ (0 < k → (l.getD (k - 1) default).block < (l.getD k default).block)
   ·refine Br.no ?_ ?_
    ·rw [hp, e.1]
     refine (QoI (k := k)).trans (decide_eq_false fun q => ?_)
     have := e.2 q.1
     have q2 : (l.getD k default).block ≤ (l.getD (k - 1) default).block := q.2
     omega
    ((conv=>whnf);(repeat' ((first|refine Nd ?_|refine Hv fun _h=>?_);conv=>whnf)))
    refine ⟨k + 1, ⟨by omega, QbU hk2 e⟩, by omega, ?_⟩
    exact Mv.k0
   ·refine Br.yes ?_ ?_
    ·rw [hp]
     show (bif !QbO (l.getD k default) then true else bif decide ((k : Int) > 0) then decide ((l.getD (k - 1) default).block ≥ (l.getD k default).block) else false) = true
     cases h1 : QbO (l.getD k default) with
     | false => rfl
     | true =>
      have h0 : 0 < k := by
       rcases Nat.eq_zero_or_pos k with c | c
       ·exact absurd ⟨h1, fun q => by omega⟩ e
       ·exact c
      have h3 : (l.getD k default).block ≤ (l.getD (k - 1) default).block := by
       have : ¬ (l.getD (k - 1) default).block < (l.getD k default).block := fun q => e ⟨h1, fun _ => q⟩
       omega
      exact (QoI (k := k)).trans (decide_eq_true ⟨h0, h3⟩)
    ((conv=>whnf);(repeat' ((first|refine Nd ?_|refine Hv fun _h=>?_);conv=>whnf)))
    rw [show QL l = false from decide_eq_false (fun q => e (q k (by omega)))]
    exact RM.i0
  ·((conv=>whnf);(repeat' ((first|refine Nd ?_|refine Hv fun _h=>?_);conv=>whnf)))
   rw [show QL l = true from decide_eq_true (fun i hi => hk2 i (by omega))]
   exact RM.i0
theorem QeU : HB 142 := hB Tryz.func142
theorem Qek {α : Type} [Inhabited α] {l : List α} {p : α → Bool} {k : Nat} (hk : k < l.length) (h : p (l.getD k default) = true) (hs : ∀ j, j < k → p (l.getD j default) = false) : l.any p = true ∧ l.findIdx p = k := by
 have ek : ∀ j (h : j < l.length), l.getD j default = l[j] := fun j h => by simp [List.getD, h]
 refine ⟨List.any_eq_true.2 ⟨l[k], List.getElem_mem hk, by rw [← ek k hk]; exact h⟩, ?_⟩
 rw [List.findIdx_eq hk]
 exact ⟨by rw [← ek k hk]; exact h, fun j hj => by rw [← ek j (by omega)]; exact hs j hj⟩
theorem Qmy {α : Type} [Inhabited α] {l : List α} {p : α → Bool} (hs : ∀ j, j < l.length → p (l.getD j default) = false) : ¬ l.any p = true := by
 rw [List.any_eq_true]
 rintro ⟨x, hx, hp⟩
 obtain ⟨j, hj, rfl⟩ := List.getElem_of_mem hx
 have := hs j hj
 rw [show l.getD j default = l[j] by simp [List.getD, hj]] at this
 rw [this] at hp
 cases hp
theorem any_iff {α : Type} [Inhabited α] {l : List α} {p : α → Bool} : l.any p = false ↔ ∀ j, j < l.length → p (l.getD j default) = false := by
 constructor
 ·intro h j hj
  cases hp : p (l.getD j default) with
  | false => rfl
  | true =>
   have : l.any p = true := List.any_eq_true.2 ⟨l[j], List.getElem_mem hj, by rw [← hp]; simp [List.getD, hj]⟩
   rw [this] at h; cases h
 ·intro h
  cases hp : l.any p with
  | false => rfl
  | true => exact absurd hp (Qmy h)
def Q4 (m : List (List Ent)) (b : Int) : Int := if b < 0 ∨ m.length = 0 then -1 else b.tmod m.length
theorem Qhp (m : List (List Ent)) (b : Int) (hm : m.length ≤ 1000000) : PS 140 [.a [Qm m], .c (.int .i64 b)] (.c (.int .i64 (Q4 m b))) := by
 refine PSpec.rm ?_
 refine ov hΓ Tryz.func140 18 0 [.tmp 4] Tryz.ntmps140 Tryz.results140 ?_
 ((conv=>whnf);(repeat' ((first|refine Nd ?_|refine Hv fun _h=>?_);conv=>whnf)))
 by_cases h : b < 0 ∨ m.length = 0
 ·refine Br.yes (by rcases h with h | h <;> simp [h]) ?_
  ((conv=>whnf);(repeat' ((first|refine Nd ?_|refine Hv fun _h=>?_);conv=>whnf)))
  rw [show Q4 m b = -1 from if_pos h]
  exact RM.i0
 ·have h1 : ¬ b < 0 := by omega
  have h2 : ¬ (m.length : Int) = 0 := by omega
  refine Br.no (by rw [decide_eq_false h1]; exact decide_eq_false h2) ?_
  ((conv=>whnf);(repeat' ((first|refine Nd ?_|refine Hv fun _h=>?_);conv=>whnf)))
  rw [show Q4 m b = b.tmod m.length from if_neg h]
  exact RM.i0
theorem QhD : HB 140 := hB Tryz.func140
def capR (m : List (List Ent)) (i : Int) : Nat → C
 | 0 => .ip 1 fun _ => Qm m
 | _ => .ip 1 fun _ => .int .i64 i
theorem QhP (m : List (List Ent)) (i : Int) (j : Nat) : (capR m i j).imm = true := by
 unfold capR; split <;> rfl
theorem Qn0 (m : List (List Ent)) (i : Int) (e : Ent) (hm : m.length ≤ 1000000) : PS 162 [.a e.cells, .c (.ip 1 fun _ => Qm m), .c (.ip 1 fun _ => .int .i64 i)] (.c (.bool (!decide (Q4 m e.block = i)))) := by
 refine PSpec.rm ?_
 refine ov hΓ Tryz.func162 11 0 [.tmp 4] Tryz.ntmps162 Tryz.results162 ?_
 ((conv=>whnf);(repeat' ((first|refine Nd ?_|refine Hv fun _h=>?_);conv=>whnf)))
 refine Dr.mk hΓ hMix (by kernel_rfl) ?_; conv=>whnf
 ((conv=>whnf);(repeat' ((first|refine Nd ?_|refine Hv fun _h=>?_);conv=>whnf)))
 refine CallP.auto QhD (Qhp m e.block hm ) ?_
 ((conv=>whnf);(repeat' ((first|refine Nd ?_|refine Hv fun _h=>?_);conv=>whnf)))
 exact RM.i0
theorem Qnn : HB 162 := hB Tryz.func162
theorem Qof (m : List (List Ent)) (q0 : Int) (hm : m.length ≤ 1000000) (l : List Ent) (hl : l.length ≤ 1000000) : PS 177 [.c (QR l), .c (.fn (.func 162) 2 (capR m q0))] (.c (.int .i64 (if l.any (fun (e : Ent) => !decide (Q4 m e.block = q0)) = true then (l.findIdx (fun (e : Ent) => !decide (Q4 m e.block = q0)) : Nat) else -1))) := by
 refine PSpec.rm ?_
 refine ov hΓ Tryz.func177 19 0 [.tmp 4] Tryz.ntmps177 Tryz.results177 ?_
 ((conv=>whnf);(repeat' ((first|refine Nd ?_|refine Hv fun _h=>?_);conv=>whnf)))
 refine Lp.mkK hΓ (ι := Nat) [0, 1, 7] (fun i => [(8, .c (.int .i64 i))]) (fun _ => []) (fun i => i ≤ l.length ∧ ∀ j, j < i → (fun (e : Ent) => !decide (Q4 m e.block = q0)) (l.getD j default) = false) (fun i => l.length - i) 0 ⟨Nat.zero_le _, fun j hj => absurd hj (by omega)⟩ ?_ ?_
 ·refine Mv.k1 ?_
  exact WC.fnI (fun j _ => QhP m q0 j)
 ·rintro k ⟨hk, hs⟩
  ((conv=>whnf);(repeat' ((first|refine Nd ?_|refine Hv fun _h=>?_);conv=>whnf)))
  refine Br.of (fun h1=>?_) (fun h1=>?_)<;>(try simp only [Int.toNat_natCast] at h1)<;>(conv=>whnf)
  ·((conv=>whnf);(repeat' ((first|refine Nd ?_|refine Hv fun _h=>?_);conv=>whnf)))
   refine CallN.pureA Qnn (Qn0 m q0 (l.getD k default) hm ) ?_
   ((conv=>whnf);(repeat' ((first|refine Nd ?_|refine Hv fun _h=>?_);conv=>whnf)))
   cases hb : (fun (e : Ent) => !decide (Q4 m e.block = q0)) (l.getD k default) with
   | true =>
    refine Br.yes hb ?_
    ((conv=>whnf);(repeat' ((first|refine Nd ?_|refine Hv fun _h=>?_);conv=>whnf)))
    obtain ⟨q1, q2⟩ := Qek (p := fun (e : Ent) => !decide (Q4 m e.block = q0)) (by omega) hb hs
    rw [if_pos q1, q2]
    exact RM.i0
   | false =>
    refine Br.no hb ?_
    ((conv=>whnf);(repeat' ((first|refine Nd ?_|refine Hv fun _h=>?_);conv=>whnf)))
    have w0 := Qa (↑k + 1) (by omega) (by omega)
    refine ⟨k + 1, ⟨by omega, QbU hs hb⟩, by omega, ?_⟩
    refine Mv.k1 ?_
    exact WC.fnI (fun j _ => QhP m q0 j)
  ·((conv=>whnf);(repeat' ((first|refine Nd ?_|refine Hv fun _h=>?_);conv=>whnf)))
   rw [if_neg (Qmy (fun j hj => hs j (by omega)))]
   exact RM.i0
theorem Qob : HB 177 := hB Tryz.func177
theorem Qpy (m : List (List Ent)) (q0 : Int) (hm : m.length ≤ 1000000) (l : List Ent) (hl : l.length ≤ 1000000) : PS 161 [.c (QR l), .c (.fn (.func 162) 2 (capR m q0))] (.c (.bool (l.any (fun (e : Ent) => !decide (Q4 m e.block = q0))))) := by
 refine PSpec.rm ?_
 refine ov hΓ Tryz.func161 9 0 [.tmp 4] Tryz.ntmps161 Tryz.results161 ?_
 ((conv=>whnf);(repeat' ((first|refine Nd ?_|refine Hv fun _h=>?_);conv=>whnf)))
 refine CallN.reads Qob (Qof m q0 hm l hl) (BwA.cons (BwS.c (Bw.same rfl)) (BwA.cons (BwS.c (Bw.fn fun j _ => Bw.same (QhP m q0 j))) BwA.nil)) rfl ?_
 ((conv=>whnf);(repeat' ((first|refine Nd ?_|refine Hv fun _h=>?_);conv=>whnf)))
 refine RM.i1 ?_
 cases l.any (fun (e : Ent) => !decide (Q4 m e.block = q0)) with
 | true => simp
 | false => rfl
theorem Qp7 : HB 161 := hB Tryz.func161
theorem QrS {l : List (List Ent)} {x : List Ent} {t : List C} {n i j : Nat} (hn : n = l.length) (hi : i < l.length + 1) (hj : j < 1) : appG (QdB l) n (Qaf 1 (QR x :: t)) i j = QdB (l ++ [x]) i j :=
 QdH (f := fun l _ => QR l) hn (fun j hj => by
  have : j = 0 := by omega
  subst this; rfl) hi hj
theorem Qmd {α : Type} (l : List α) {k : Nat} (hk : k ≤ l.length) : (l.take k).length = k := by rw [List.length_take]; omega
theorem Q1 {α : Type} [Inhabited α] (l : List α) {k : Nat} (hk : k < l.length) : l.take (k + 1) = l.take k ++ [l.getD k default] := by
 rw [List.take_succ_eq_append_getElem hk]
 simp [List.getD, hk]
theorem QgL {m : List (List Ent)} {l : List Ent} {i : Nat} (hl : QL l = true) (hm : 1 ≤ m.length) : (l.any fun (e : Ent) => !decide (Q4 m e.block = (i : Int))) = !Qa7 l m.length i := by
 have hb : ∀ k, k < l.length → 0 ≤ (l.getD k default).block := fun k hk => (entOk_iff.1 ((of_decide_eq_true hl) k hk).1).2.2.2.2.2.1
 have e : ∀ k, k < l.length → Q4 m (l.getD k default).block = (l.getD k default).block.tmod m.length := fun k hk => if_neg (by have := hb k hk; omega)
 cases h : Qa7 l m.length i with
 | true =>
  refine any_iff.2 fun k hk => ?_
  rw [e k hk]
  have := of_decide_eq_true h k hk
  simp only [this, decide_true, Bool.not_true]
 | false =>
  cases h2 : (l.any fun (e : Ent) => !decide (Q4 m e.block = (i : Int))) with
  | true => rfl
  | false =>
   have : Qa7 l m.length i = true := decide_eq_true fun k hk => by
    have := any_iff.1 h2 k hk
    rw [e k hk] at this
    simpa using this
   rw [this] at h; cases h
theorem QnW (m : List (List Ent)) (hm : m.length ≤ 1000000) (hs : ∀ i, (m.getD i default).length ≤ 1000000) : PS 141 [.a [Qm m]] (.c (.bool (Q3 m))) := by
 refine PSpec.rm ?_
 refine ov hΓ Tryz.func141 32 0 [.tmp 2] Tryz.ntmps141 Tryz.results141 ?_
 ((conv=>whnf);(repeat' ((first|refine Nd ?_|refine Hv fun _h=>?_);conv=>whnf)))
 by_cases h : 1 ≤ m.length ∧ m.length ≤ 8
 ·have h1 : ¬ (m.length : Int) < 1 := by omega
  have h2 : ¬ (m.length : Int) > 8 := by omega
  refine Br.no (by rw [decide_eq_false h1]; exact decide_eq_false h2) ?_
  ((conv=>whnf);(repeat' ((first|refine Nd ?_|refine Hv fun _h=>?_);conv=>whnf)))
  refine Lp.mkK hΓ (ι := Nat) [1, 16, 17] (fun i => [(18, .c (.int .i64 i))]) (fun _ => [.vr [Qm m]]) (fun k => k ≤ m.length ∧ ∀ i, i < k → QL (m.getD i default) = true ∧ Qa7 (m.getD i default) m.length i = true) (fun i => m.length - i) 0 ⟨Nat.zero_le _, fun j hj => absurd hj (Nat.not_lt_zero _)⟩ ?_ ?_
  ·exact Mv.k0
  ·rintro k ⟨hk, hk2⟩
   have hsk := hs k
   ((conv=>whnf);(repeat' ((first|refine Nd ?_|refine Hv fun _h=>?_);conv=>whnf)))
   refine Br.of (fun h3=>?_) (fun h3=>?_)<;>(try simp only [Int.toNat_natCast] at h3)<;>(conv=>whnf)
   ·((conv=>whnf);(repeat' ((first|refine Nd ?_|refine Hv fun _h=>?_);conv=>whnf)))
    refine CallN.pureA QeU (QeC (m.getD k default) hsk ) ?_
    ((conv=>whnf);(repeat' ((first|refine Nd ?_|refine Hv fun _h=>?_);conv=>whnf)))
    refine CallG.reads Qp7 (fun _ => Qpy m k hm (m.getD k default) hsk) (fun _ => BwA.cons (BwS.c (Bw.same rfl)) (BwA.cons (BwS.c (Bw.fn2 (g := lget [.ptr 0 0, .ptr 1 0]) (g' := capR m k) (Bw.ptr1 rfl rfl) (Bw.ptr1 rfl rfl))) BwA.nil)) rfl ?_
    ((conv=>whnf);(repeat' ((first|refine Nd ?_|refine Hv fun _h=>?_);conv=>whnf)))
    have w0 := Qa (↑k + 1) (by omega) (by omega)
    by_cases e : QL (m.getD k default) = true ∧ Qa7 (m.getD k default) m.length k = true
    ·refine Br.no (by rw [e.1, QgL e.1 h.1, e.2]; rfl) ?_
     ((conv=>whnf);(repeat' ((first|refine Nd ?_|refine Hv fun _h=>?_);conv=>whnf)))
     refine ⟨k + 1, ⟨by omega, QbU hk2 e⟩, by omega, ?_⟩
     exact Mv.k0
    ·refine Br.yes ?_ ?_
     ·cases h4 : QL (m.getD k default) with
      | false => rfl
      | true =>
       rw [QgL h4 h.1]
       cases h5 : Qa7 (m.getD k default) m.length k with
       | false => rfl
       | true => exact absurd ⟨h4, h5⟩ e
     ((conv=>whnf);(repeat' ((first|refine Nd ?_|refine Hv fun _h=>?_);conv=>whnf)))
     rw [show Q3 m = false by
      unfold Q3
      rw [decide_eq_true h, decide_eq_false (fun q => e (q k (by omega)))]; rfl]
     exact RM.i0
   ·((conv=>whnf);(repeat' ((first|refine Nd ?_|refine Hv fun _h=>?_);conv=>whnf)))
    rw [show Q3 m = true by
     unfold Q3
     rw [decide_eq_true h, decide_eq_true (fun i hi => hk2 i (by omega))]; rfl]
    exact RM.i0
 ·refine Br.yes ?_ ?_
  ·by_cases h1 : (m.length : Int) < 1
   ·rw [decide_eq_true h1]; rfl
   ·rw [decide_eq_false h1]; exact decide_eq_true (by omega)
  ((conv=>whnf);(repeat' ((first|refine Nd ?_|refine Hv fun _h=>?_);conv=>whnf)))
  rw [show Q3 m = false by unfold Q3; rw [decide_eq_false h]; rfl]
  exact RM.i0
theorem Qon : HB 141 := hB Tryz.func141
theorem Qph (l : List Int) : PS 7 [.c (QbH l)] (.c (.bool (decide (l.length ≤ 300)))) := by
 refine PSpec.rm ?_
 refine ov hΓ Tryz.func7 6 0 [.tmp 2] Tryz.ntmps7 Tryz.results7 ?_
 ((conv=>whnf);(repeat' ((first|refine Nd ?_|refine Hv fun _h=>?_);conv=>whnf)))
 refine RM.i1 ?_
 exact decide_eq_decide.2 (by omega)
theorem QoW : HB 7 := hB Tryz.func7
theorem Qdh (x n : Int) : PS 13 [.c (.int .i64 x), .c (.int .i64 n)] (.c (.int .i64 (modI x n))) := by
 refine PSpec.rm ?_
 refine ov hΓ Tryz.func13 14 0 [.tmp 4] Tryz.ntmps13 Tryz.results13 ?_
 ((conv=>whnf);(repeat' ((first|refine Nd ?_|refine Hv fun _h=>?_);conv=>whnf)))
 refine Br.of (fun h=>?_) (fun h=>?_)<;>(try simp only [Int.toNat_natCast] at h)<;>(conv=>whnf)
 ·((conv=>whnf);(repeat' ((first|refine Nd ?_|refine Hv fun _h=>?_);conv=>whnf)))
  rw [QrP (by omega)]
  exact RM.i0
 ·((conv=>whnf);(repeat' ((first|refine Nd ?_|refine Hv fun _h=>?_);conv=>whnf)))
  rw [show modI x n = (IntKind.i64.wrap (x.tmod n + n)).tmod n from if_neg (by omega)]
  exact RM.i0
theorem Qdi : HB 13 := hB Tryz.func13
theorem QjF (l : List Int) (hl : l.length ≤ 10000000) : CS 27 [.c (QbH l)] [] fun s H => s = .c (.ptr 0 0) ∧ H = [.vr (DiceM.cells ⟨l, 0⟩)] := by
 refine CSpec.rm ?_
 refine ov hΓ Tryz.func27 8 0 [.tmp 2] Tryz.ntmps27 Tryz.results27 ?_
 ((conv=>whnf);(repeat' ((first|refine Nd ?_|refine Hv fun _h=>?_);conv=>whnf)))
 refine ⟨_, _, ?_, rfl, rfl⟩
 refine RM.rg 0 (g' := QcD .i64 l) rfl (fun i _ j _ => QqL j) rfl ?_
 refine RM.fz 0 rfl (Nat.zero_le _) (fun i _ j _ => rfl) ?_
 exact RM.renW [1] (by decide) wb0 wb0
theorem QjR : HB 27 := hB Tryz.func27
theorem QaE (d : DiceM) (hd : d.ok) (n : Int) : CS 34 [.c (.ptr 0 0), .c (.int .i64 n)] [.vr d.cells] fun s H => s = .c (.int .i64 (d.next n)) ∧ H = [.vr d.step.cells] := by
 refine CSpec.rm ?_
 refine ov hΓ Tryz.func34 35 1 [.tmp 4] Tryz.ntmps34 Tryz.results34 ?_
 have h1 := hd.le
 have h2 := hd.len
 ((conv=>whnf);(repeat' ((first|refine Nd ?_|refine Hv fun _h=>?_);conv=>whnf)))
 refine Dr.mk hΓ hMix (by kernel_rfl) ?_; conv=>whnf
 ((conv=>whnf);(repeat' ((first|refine Nd ?_|refine Hv fun _h=>?_);conv=>whnf)))
 refine Br.of (fun h=>?_) (fun h=>?_)<;>(try simp only [Int.toNat_natCast] at h)<;>(conv=>whnf)
 ·((conv=>whnf);(repeat' ((first|refine Nd ?_|refine Hv fun _h=>?_);conv=>whnf)))
  have h' : d.l.length ≤ d.at_ := by omega
  refine ⟨_, _, ?_, rfl, rfl⟩
  rw [show d.step = d from if_pos h', show d.next n = 0 from if_pos h']
  exact RM.w0
 ·((conv=>whnf);(repeat' ((first|refine Nd ?_|refine Hv fun _h=>?_);conv=>whnf)))
  have h' : ¬ d.l.length ≤ d.at_ := by omega
  have w0 := Qa (↑d.at_ + 1) (by omega) (by omega)
  have w1 := Qa (↑d.at_ + 1 - 1) (by omega) (by omega)
  refine Dr.mk hΓ hMix (by kernel_rfl) ?_; conv=>whnf
  ((conv=>whnf);(repeat' ((first|refine Nd ?_|refine Hv fun _h=>?_);conv=>whnf)))
  have e0 : (IntKind.i64.wrap (IntKind.i64.wrap (↑d.at_ + 1) - 1)).toNat = d.at_ := by rw [w0, w1]; omega
  rw [e0]
  refine CallP.auto Qdi (Qdh (d.l.getD d.at_ 0) n ) ?_
  ((conv=>whnf);(repeat' ((first|refine Nd ?_|refine Hv fun _h=>?_);conv=>whnf)))
  refine ⟨_, _, ?_, rfl, rfl⟩
  rw [show d.step = ⟨d.l, d.at_ + 1⟩ from if_neg h', show d.next n = modI (d.l.getD d.at_ 0) n from if_neg h']
  exact RM.w0
theorem QaA : HB 34 := hB Tryz.func34
def Qc3 (blocks size : Int) : Int := 2 * (blocks + 2 + size - 1).tdiv size + 6
def QbW (d : DiceM) : Conf :=
 ⟨Qc3 (1 + d.step.next 6) (3 + d.next 4) + d.step.step.step.step.step.next 3, 3 + d.next 4, 1 + d.step.next 6, 1 + d.step.step.next 3, 1 + d.step.step.step.next 3, 1 + d.step.step.step.step.next 3⟩
def Qh9 (d : DiceM) : DiceM := d.step.step.step.step.step.step
theorem QiX (d : DiceM) (hd : d.ok) : CS 26 [.c (.ptr 0 0)] [.vr d.cells] fun s H => s = .a (QbW d).cells ∧ H = [.vr (Qh9 d).cells] := by
 refine CSpec.rm ?_
 refine ov hΓ Tryz.func26 37 1 [.cell 2 26] Tryz.ntmps26 Tryz.results26 ?_
 ((conv=>whnf);(repeat' ((first|refine Nd ?_|refine Hv fun _h=>?_);conv=>whnf)))
 refine CallN.autoQ [0] QaA (QaE d hd 4) ?_; conv=>whnf
 ((conv=>whnf);(repeat' ((first|refine Nd ?_|refine Hv fun _h=>?_);conv=>whnf)))
 refine CallN.autoQ [0] QaA (QaE d.step hd.step 6) ?_; conv=>whnf
 ((conv=>whnf);(repeat' ((first|refine Nd ?_|refine Hv fun _h=>?_);conv=>whnf)))
 refine CallN.autoQ [0] QaA (QaE d.step.step hd.step.step 3) ?_; conv=>whnf
 ((conv=>whnf);(repeat' ((first|refine Nd ?_|refine Hv fun _h=>?_);conv=>whnf)))
 refine CallN.autoQ [0] QaA (QaE d.step.step.step hd.step.step.step 3) ?_; conv=>whnf
 ((conv=>whnf);(repeat' ((first|refine Nd ?_|refine Hv fun _h=>?_);conv=>whnf)))
 refine CallN.autoQ [0] QaA (QaE d.step.step.step.step hd.step.step.step.step 3) ?_; conv=>whnf
 ((conv=>whnf);(repeat' ((first|refine Nd ?_|refine Hv fun _h=>?_);conv=>whnf)))
 have r1 := d.next_range (n := 4) (by omega) (by omega)
 have r2 := d.step.next_range (n := 6) (by omega) (by omega)
 have r3 := d.step.step.next_range (n := 3) (by omega) (by omega)
 have r4 := d.step.step.step.next_range (n := 3) (by omega) (by omega)
 have r5 := d.step.step.step.step.next_range (n := 3) (by omega) (by omega)
 have r6 := d.step.step.step.step.step.next_range (n := 3) (by omega) (by omega)
 have w1 := Qa (3 + d.next 4) (by omega) (by omega)
 have w2 := Qa (1 + d.step.next 6) (by omega) (by omega)
 refine Dr.mkE hΓ hMix [34] [(0, 13), (1, 13), (2, 13), (3, 13), (4, 13), (5, 13), (6, 13), (7, 13), (8, 13), (9, 13), (10, 13), (11, 13)] (by kernel_rfl) ?_; conv=>whnf
 ((conv=>whnf);(repeat' ((first|refine Nd ?_|refine Hv fun _h=>?_);conv=>whnf)))
 refine CallE.autoQ [0] QaA (QaE d.step.step.step.step.step hd.step.step.step.step.step 3) ?_; conv=>whnf
 ((conv=>whnf);(repeat' ((first|refine Nd ?_|refine Hv fun _h=>?_);conv=>whnf)))
 refine ⟨_, _, ?_, rfl, rfl⟩
 have hq : 0 ≤ (1 + d.step.next 6 + 2 + (3 + d.next 4) - 1).tdiv (3 + d.next 4) ∧ (1 + d.step.next 6 + 2 + (3 + d.next 4) - 1).tdiv (3 + d.next 4) ≤ 100 := by
  rw [Int.tdiv_eq_ediv_of_nonneg (by omega)]
  exact ⟨Int.ediv_nonneg (by omega) (by omega), Int.ediv_le_of_le_mul (by omega) (by omega)⟩
 have e1 : IntKind.i64.wrap (IntKind.i64.wrap (2 * IntKind.i64.wrap ((IntKind.i64.wrap (IntKind.i64.wrap (IntKind.i64.wrap (IntKind.i64.wrap (1 + d.step.next 6) + 2) + IntKind.i64.wrap (3 + d.next 4)) - 1)).tdiv (IntKind.i64.wrap (3 + d.next 4)))) + 6) = Qc3 (1 + d.step.next 6) (3 + d.next 4) := by
  rw [w1, w2, Qa (1 + d.step.next 6 + 2) (by omega) (by omega), Qa (1 + d.step.next 6 + 2 + (3 + d.next 4)) (by omega) (by omega), Qa (1 + d.step.next 6 + 2 + (3 + d.next 4) - 1) (by omega) (by omega)]
  rw [Qa ((1 + d.step.next 6 + 2 + (3 + d.next 4) - 1).tdiv (3 + d.next 4)) (by omega) (by omega), Qa (2 * (1 + d.step.next 6 + 2 + (3 + d.next 4) - 1).tdiv (3 + d.next 4)) (by omega) (by omega)]
  exact Qa _ (by omega) (by omega)
 have e2 : IntKind.i64.wrap (Qc3 (1 + d.step.next 6) (3 + d.next 4) + d.step.step.step.step.step.next 3) = Qc3 (1 + d.step.next 6) (3 + d.next 4) + d.step.step.step.step.step.next 3 := Qa _ (by unfold Qc3; omega) (by unfold Qc3; omega)
 have f6 : IntKind.i64.wrap (1 + d.step.step.step.step.next 3) = (QbW d).shards := Qa _ (by omega) (by omega)
 have f5 : IntKind.i64.wrap (1 + d.step.step.step.next 3) = (QbW d).depth := Qa _ (by omega) (by omega)
 have f4 : IntKind.i64.wrap (1 + d.step.step.next 3) = (QbW d).queues := Qa _ (by omega) (by omega)
 have f3 : IntKind.i64.wrap (1 + d.step.next 6) = (QbW d).blocks := w2
 have f2 : IntKind.i64.wrap (3 + d.next 4) = (QbW d).size := w1
 have f1 : IntKind.i64.wrap (IntKind.i64.wrap (IntKind.i64.wrap (2 * IntKind.i64.wrap ((IntKind.i64.wrap (IntKind.i64.wrap (IntKind.i64.wrap (IntKind.i64.wrap (1 + d.step.next 6) + 2) + IntKind.i64.wrap (3 + d.next 4)) - 1)).tdiv (IntKind.i64.wrap (3 + d.next 4)))) + 6) + d.step.step.step.step.step.next 3) = (QbW d).zones := by rw [e1]; exact e2
 rw [show Qh9 d = d.step.step.step.step.step.step from rfl]
 clear w1 w2 e1 e2 r1 r2 r3 r4 r5 r6 hq
 refine RM.wkW ?_ ?_ leN
 ·exact wb0
 ·refine WS.a (WL.cons (WC.int f1) (WL.cons (WC.int f2) (WL.cons (WC.int f3) (WL.cons (WC.int f4) (WL.cons (WC.int f5) (WL.cons (WC.int f6) WL.nil))))))
theorem Qig : HB 26 := hB Tryz.func26
theorem QlH (d : DiceM) : Qq (QbW d) = 0 := by
 have r1 := d.next_range (n := 4) (by omega) (by omega)
 have r2 := d.step.next_range (n := 6) (by omega) (by omega)
 have r3 := d.step.step.next_range (n := 3) (by omega) (by omega)
 have r4 := d.step.step.step.next_range (n := 3) (by omega) (by omega)
 have r5 := d.step.step.step.step.next_range (n := 3) (by omega) (by omega)
 have r6 := d.step.step.step.step.step.next_range (n := 3) (by omega) (by omega)
 unfold QbW
 generalize d.next 4 = a at *
 generalize d.step.next 6 = b at *
 generalize d.step.step.next 3 = q at *
 generalize d.step.step.step.next 3 = p at *
 generalize d.step.step.step.step.next 3 = m at *
 generalize d.step.step.step.step.step.next 3 = z at *
 have hs : 1 ≤ (1 + b + 2 + (3 + a) - 1).tdiv (3 + a) ∧ (1 + b + 2 + (3 + a) - 1).tdiv (3 + a) ≤ 4 := by
  rw [Int.tdiv_eq_ediv_of_nonneg (by omega)]
  exact ⟨(Int.le_ediv_iff_mul_le (by omega)).2 (by omega), Int.ediv_le_of_le_mul (by omega) (by omega)⟩
 have hr : Qbn ⟨Qc3 (1 + b) (3 + a) + z, 3 + a, 1 + b, 1 + q, 1 + p, 1 + m⟩ = true := by
  rw [confR_iff]; simp only [Qc3]; omega
 unfold Qq
 rw [if_pos hr, if_neg]
 simp only [Qal, capN, Qg, Qc3]
 generalize (1 + b + 2 + (3 + a) - 1).tdiv (3 + a) = t at *
 have h3 : (2 * t + 6 + z - 2 * t - 3) * (3 + a - 1) ≥ 3 * 2 := Int.mul_le_mul (by omega) (by omega) (by omega) (by omega)
 have h4 : (2 * t + 6 + z - 2 * t - 3) * (3 + a - 1) = (3 + z) * (2 + a) := by congr 1 <;> omega
 rintro (h | h)
 ·omega
 ·rw [h4] at h h3
  omega
theorem Qhv (e : Ent) : PS 110 [.a e.cells] (.c (.bool (QbO e))) := by
 refine PSpec.rm ?_
 refine ov hΓ Tryz.func110 48 0 [.tmp 2] Tryz.ntmps110 Tryz.results110 ?_
 ((conv=>whnf);(repeat' ((first|refine Nd ?_|refine Hv fun _h=>?_);conv=>whnf)))
 refine RM.immW rfl (WS.c (WC.bool ?_))
 rw [Bool.eq_iff_iff, entOk_iff]
 simp [-List.getD_eq_getElem?_getD]
 omega
theorem QhC : HB 110 := hB Tryz.func110
theorem shardOk_iff {l : List Ent} : QL l = true ↔ ∀ i, i < l.length → QbO (l.getD i default) = true ∧ (0 < i → (l.getD (i - 1) default).block < (l.getD i default).block) := by
 unfold QL; rw [decide_eq_true_eq]
theorem Qdn (l : List Ent) (hl : l.length ≤ 1000000) : PS 103 [.c (QR l)] (.c (.bool (QL l))) := by
 refine PSpec.rm ?_
 refine ov hΓ Tryz.func103 34 0 [.tmp 2] Tryz.ntmps103 Tryz.results103 ?_
 ((conv=>whnf);(repeat' ((first|refine Nd ?_|refine Hv fun _h=>?_);conv=>whnf)))
 refine Lp.mkK hΓ (ι := Nat) [0] (fun i => [(3, .c (.int .i64 i))]) (fun _ => []) (fun k => k ≤ l.length ∧ ∀ i, i < k → QbO (l.getD i default) = true ∧ (0 < i → (l.getD (i - 1) default).block < (l.getD i default).block)) (fun i => l.length - i) 0 ⟨Nat.zero_le _, fun j hj => absurd hj (Nat.not_lt_zero _)⟩ ?_ ?_
 ·exact Mv.k0
 ·rintro k ⟨hk, hk2⟩
  ((conv=>whnf);(repeat' ((first|refine Nd ?_|refine Hv fun _h=>?_);conv=>whnf)))
  refine Br.of (fun h1=>?_) (fun h1=>?_)<;>(try simp only [Int.toNat_natCast] at h1)<;>(conv=>whnf)
  ·((conv=>whnf);(repeat' ((first|refine Nd ?_|refine Hv fun _h=>?_);conv=>whnf)))
   refine Dr.mk hΓ hMix (by kernel_rfl) ?_; conv=>whnf
   ((conv=>whnf);(repeat' ((first|refine Nd ?_|refine Hv fun _h=>?_);conv=>whnf)))
   refine CallP.auto QhC (Qhv (l.getD k default) ) ?_
   ((conv=>whnf);(repeat' ((first|refine Nd ?_|refine Hv fun _h=>?_);conv=>whnf)))
   have hw : IntKind.i64.wrap (↑k - 1) = ↑k - 1 := Qa _ (by omega) (by omega)
   refine Need.mk (fun h => by rw [hw]; simp only [Bool.and_eq_true, decide_eq_true_eq] at h; omega) ?_
   conv=>whnf
   refine Need.mk (fun h => by rw [hw]; simp only [Bool.and_eq_true, decide_eq_true_eq] at h; omega) ?_
   ((conv=>whnf);(repeat' ((first|refine Nd ?_|refine Hv fun _h=>?_);conv=>whnf)))
   have hp : (IntKind.i64.wrap (↑k - 1)).toNat = k - 1 := by rw [hw]; omega
   have w0 := Qa (↑k + 1) (by omega) (by omega)
   rw [hp]
   by_cases e : QbO (l.getD k default) = true ∧ (0 < k → (l.getD (k - 1) default).block < (l.getD k default).block)
   ·refine Br.no (Bool.eq_false_iff.2 fun ebye => by simp [-List.getD_eq_getElem?_getD, -Int.default_eq_zero, e.1] at ebye <;> grind) ?_; conv=>whnf
    ((conv=>whnf);(repeat' ((first|refine Nd ?_|refine Hv fun _h=>?_);conv=>whnf)))
    refine ⟨k + 1, ⟨by omega, QbU hk2 e⟩, by omega, ?_⟩
    exact Mv.k0
   ·refine Br.yes (Decidable.byContradiction fun ebye => e (by simp [-List.getD_eq_getElem?_getD, -Int.default_eq_zero] at ebye <;> grind)) ?_; conv=>whnf
    ((conv=>whnf);(repeat' ((first|refine Nd ?_|refine Hv fun _h=>?_);conv=>whnf)))
    rw [QaM (fun q => e (shardOk_iff.1 q k (by omega)) : ¬ QL l = true)]
    exact RM.i0
  ·((conv=>whnf);(repeat' ((first|refine Nd ?_|refine Hv fun _h=>?_);conv=>whnf)))
   rw [shardOk_iff.2 (fun i hi => hk2 i (by omega))]
   exact RM.i0
theorem Qdt : HB 103 := hB Tryz.func103
theorem Qe2 (l : List Ent) (b : Int) (hl : l.length ≤ 1000000) : PS 107 [.c (QR l), .c (.int .i64 b)] (.c (.int .i64 (Qp l b))) := by
 refine PSpec.rm ?_
 refine ov hΓ Tryz.func107 22 0 [.tmp 4] Tryz.ntmps107 Tryz.results107 ?_
 ((conv=>whnf);(repeat' ((first|refine Nd ?_|refine Hv fun _h=>?_);conv=>whnf)))
 refine Lp.mkK hΓ (ι := Nat) [0, 1, 4] (fun i => [(5, .c (.int .i64 i))]) (fun _ => []) (fun k => k ≤ l.length ∧ ∀ i, i < k → (l.getD i default).block < b) (fun i => l.length - i) 0 ⟨Nat.zero_le _, fun j hj => absurd hj (Nat.not_lt_zero _)⟩ ?_ ?_
 ·exact Mv.k0
 ·rintro k ⟨hk, hk2⟩
  ((conv=>whnf);(repeat' ((first|refine Nd ?_|refine Hv fun _h=>?_);conv=>whnf)))
  have e0 : (k : Int).toNat = k := rfl
  by_cases c : k < l.length ∧ (l.getD k default).block < b
  ·refine Br.yes (by simp [-List.getD_eq_getElem?_getD, c.1, c.2]) ?_
   ((conv=>whnf);(repeat' ((first|refine Nd ?_|refine Hv fun _h=>?_);conv=>whnf)))
   have w0 := Qa (↑k + 1) (by omega) (by omega)
   refine ⟨k + 1, ⟨by omega, QbU hk2 c.2⟩, by omega, ?_⟩
   exact Mv.k0
  ·refine Br.no (Bool.eq_false_iff.2 fun e => c (by simpa [-List.getD_eq_getElem?_getD] using e)) ?_
   ((conv=>whnf);(repeat' ((first|refine Nd ?_|refine Hv fun _h=>?_);conv=>whnf)))
   rw [Qkv hk hk2 (by omega)]
   exact RM.i0
theorem Qe7 : HB 107 := hB Tryz.func107
theorem hasM_iff {l : List Ent} {b : Int} : hasM l b = true ↔ Qp l b < l.length ∧ (l.getD (Qp l b) default).block = b := by
 unfold hasM; rw [decide_eq_true_eq]
theorem QfH (l : List Ent) (b : Int) (hl : l.length ≤ 1000000) : PS 68 [.c (QR l), .c (.int .i64 b)] (.t [.inr (QK l b).1.cells, .inl (.bool (QK l b).2)]) := by
 refine PSpec.rm ?_
 refine ov hΓ Tryz.func68 32 0 [.cell 4 67, .tmp 5] Tryz.ntmps68 Tryz.results68 ?_
 ((conv=>whnf);(repeat' ((first|refine Nd ?_|refine Hv fun _h=>?_);conv=>whnf)))
 refine CallN.pureA Qdt (Qdn l hl ) ?_
 ((conv=>whnf);(repeat' ((first|refine Nd ?_|refine Hv fun _h=>?_);conv=>whnf)))
 have hple := QdD l b
 by_cases hv : QL l = true
 ·refine Br.no (by rw [hv]; rfl) ?_
  ((conv=>whnf);(repeat' ((first|refine Nd ?_|refine Hv fun _h=>?_);conv=>whnf)))
  refine CallN.pureA Qe7 (Qe2 l b hl ) ?_
  ((conv=>whnf);(repeat' ((first|refine Nd ?_|refine Hv fun _h=>?_);conv=>whnf)))
  have e0 : ((Qp l b : Nat) : Int).toNat = Qp l b := rfl
  ((conv=>whnf);(repeat' ((first|refine Nd ?_|refine Hv fun _h=>?_);conv=>whnf)))
  by_cases c : hasM l b = true
  ·have c' := hasM_iff.1 c
   refine Br.no (Bool.eq_false_iff.2 fun e => by simp [-List.getD_eq_getElem?_getD, c'.2] at e; omega) ?_
   ((conv=>whnf);(repeat' ((first|refine Nd ?_|refine Hv fun _h=>?_);conv=>whnf)))
   rw [show QK l b = (l.getD (Qp l b) default, true) from if_pos ⟨hv, c⟩]
   exact RM.i0
  ·refine Br.yes (Decidable.byContradiction fun e => c (hasM_iff.2 (by simp [-List.getD_eq_getElem?_getD] at e; omega))) ?_
   ((conv=>whnf);(repeat' ((first|refine Nd ?_|refine Hv fun _h=>?_);conv=>whnf)))
   rw [show QK l b = (default, false) from if_neg (fun e => c e.2)]
   exact RM.i0
 ·refine Br.yes (by rw [QaM hv]; rfl) ?_
  ((conv=>whnf);(repeat' ((first|refine Nd ?_|refine Hv fun _h=>?_);conv=>whnf)))
  rw [show QK l b = (default, false) from if_neg (fun e => hv e.1)]
  exact RM.i0
theorem Qf5 : HB 68 := hB Tryz.func68
instance : PlainF Evt.cell := ⟨fun e j => by unfold Evt.cell; split <;> rfl⟩
instance : PlainF Ent.cell := ⟨fun e j => by unfold Ent.cell; split <;> rfl⟩
instance : PlainF Ret.cell := ⟨fun e j => by unfold Ret.cell; split <;> rfl⟩
instance : PlainF Req.cell := ⟨fun e j => by unfold Req.cell; split <;> rfl⟩
instance : PlainF Rng.cell := ⟨fun e j => by unfold Rng.cell; split <;> rfl⟩
instance : PlainF Wrk.cell := ⟨fun e j => by unfold Wrk.cell; split <;> rfl⟩
instance : PlainF Qaz := ⟨fun e j => by unfold Qaz; split <;> rfl⟩
instance : PlainF Zone.cell := ⟨fun e j => by unfold Zone.cell; split <;> rfl⟩
instance : PlainF (fun (l : List Ent) (_ : Nat) => QR l) := ⟨fun e j => rfl⟩
instance {q : IntKind} : PlainF (intC q) := ⟨fun e j => rfl⟩
theorem Qo6 {g g' : Nat → Nat → C} {k j0 : Nat} {ys : List C} {i j : Nat} (h : g i j = g' i j) : updG g k j0 ys i j = updG g' k j0 ys i j := by
 unfold updG
 rw [h]
theorem Qtr {α : Type} {l : List α} {q : Nat} {x d : α} (hq : q < l.length) : (l.set q x).getD q d = x := by
 simp [List.getD, hq]
theorem neI {a b : Int} : (a != b) = !decide (a = b) := rfl
theorem mapOk_iff {m : List (List Ent)} : Q3 m = true ↔ (1 ≤ m.length ∧ m.length ≤ 8) ∧ ∀ i, i < m.length → QL (m.getD i default) = true ∧ Qa7 (m.getD i default) m.length i = true := by
 unfold Q3; rw [Bool.and_eq_true, decide_eq_true_eq, decide_eq_true_eq]
theorem inStripe_iff {l : List Ent} {n i : Nat} : Qa7 l n i = true ↔ ∀ k, k < l.length → (l.getD k default).block.tmod n = i := by
 unfold Qa7; rw [decide_eq_true_eq]
set_option maxHeartbeats 4000000 in
theorem Qdv (m : List (List Ent)) (hm : m.length ≤ 1000000) (hs : ∀ i, (m.getD i default).length ≤ 1000000) : PS 59 [.a [Qm m]] (.c (.bool (Q3 m))) := by
 refine PSpec.rm ?_
 refine ov hΓ Tryz.func59 50 0 [.tmp 2] Tryz.ntmps59 Tryz.results59 ?_
 ((conv=>whnf);(repeat' ((first|refine Nd ?_|refine Hv fun _h=>?_);conv=>whnf)))
 have no : ¬ Q3 m = true → Q3 m = false := QaM
 by_cases h0 : 1 ≤ m.length ∧ m.length ≤ 8
 ·refine Br.no (Bool.eq_false_iff.2 fun e => by simp at e; omega) ?_
  ((conv=>whnf);(repeat' ((first|refine Nd ?_|refine Hv fun _h=>?_);conv=>whnf)))
  refine Lp.mkK hΓ (ι := Nat) [1, 3] (fun i => [(4, .c (.int .i64 i))]) (fun _ => [.vr [Qm m]]) (fun k => k ≤ m.length ∧ ∀ i, i < k → QL (m.getD i default) = true ∧ Qa7 (m.getD i default) m.length i = true) (fun i => m.length - i) 0 ⟨Nat.zero_le _, fun j hj => absurd hj (Nat.not_lt_zero _)⟩ ?_ ?_
  ·exact Mv.k0
  ·rintro k ⟨hk, hk2⟩
   have hsk := hs k
   ((conv=>whnf);(repeat' ((first|refine Nd ?_|refine Hv fun _h=>?_);conv=>whnf)))
   refine Br.of (fun h1=>?_) (fun h1=>?_)<;>(try simp only [Int.toNat_natCast] at h1)<;>(conv=>whnf)
   ·((conv=>whnf);(repeat' ((first|refine Nd ?_|refine Hv fun _h=>?_);conv=>whnf)))
    refine CallN.pureA Qdt (Qdn (m.getD k default) hsk ) ?_
    ((conv=>whnf);(repeat' ((first|refine Nd ?_|refine Hv fun _h=>?_);conv=>whnf)))
    by_cases h2 : QL (m.getD k default) = true
    ·refine Br.no (by rw [h2]; rfl) ?_
     ((conv=>whnf);(repeat' ((first|refine Nd ?_|refine Hv fun _h=>?_);conv=>whnf)))
     refine Lp.mkK hΓ (ι := Nat) [1, 3, 4] (fun i => [(5, .c (.int .i64 i))]) (fun _ => [.vr [Qm m]]) (fun q => q ≤ (m.getD k default).length ∧ ∀ i, i < q → ((m.getD k default).getD i default).block.tmod m.length = k) (fun i => (m.getD k default).length - i) 0 ⟨Nat.zero_le _, fun j hj => absurd hj (Nat.not_lt_zero _)⟩ ?_ ?_
     ·exact Mv.k0
     ·rintro q ⟨hq, hq2⟩
      ((conv=>whnf);(repeat' ((first|refine Nd ?_|refine Hv fun _h=>?_);conv=>whnf)))
      have e0 : (k : Int).toNat = k := rfl
      refine Br.of (fun h3=>?_) (fun h3=>?_)<;>(try simp only [Int.toNat_natCast] at h3)<;>(conv=>whnf)
      ·((conv=>whnf);(repeat' ((first|refine Nd ?_|refine Hv fun _h=>?_);conv=>whnf)))
       have w0 := Qa (↑q + 1) (by omega) (by omega)
       by_cases c : ((m.getD k default).getD q default).block.tmod m.length = k
       ·refine Br.no ((neI).trans (by simp only [Int.toNat_natCast]; rw [decide_eq_true c]; rfl)) ?_
        ((conv=>whnf);(repeat' ((first|refine Nd ?_|refine Hv fun _h=>?_);conv=>whnf)))
        refine ⟨q + 1, ⟨by omega, QbU hq2 c⟩, by omega, ?_⟩
        exact Mv.k0
       ·refine Br.yes ((neI).trans (by simp only [Int.toNat_natCast]; rw [decide_eq_false c]; rfl)) ?_
        ((conv=>whnf);(repeat' ((first|refine Nd ?_|refine Hv fun _h=>?_);conv=>whnf)))
        rw [no (fun z => c (inStripe_iff.1 ((mapOk_iff.1 z).2 k (by omega)).2 q (by omega)))]
        exact RM.i0
      ·((conv=>whnf);(repeat' ((first|refine Nd ?_|refine Hv fun _h=>?_);conv=>whnf)))
       have w0 := Qa (↑k + 1) (by omega) (by omega)
       refine ⟨k + 1, ⟨by omega, QbU hk2 ⟨h2, inStripe_iff.2 fun i hi => hq2 i (by omega)⟩⟩, by omega, ?_⟩
       exact Mv.k0
    ·refine Br.yes (by rw [QaM h2]; rfl) ?_
     ((conv=>whnf);(repeat' ((first|refine Nd ?_|refine Hv fun _h=>?_);conv=>whnf)))
     rw [no (fun e => h2 ((mapOk_iff.1 e).2 k (by omega)).1)]
     exact RM.i0
   ·((conv=>whnf);(repeat' ((first|refine Nd ?_|refine Hv fun _h=>?_);conv=>whnf)))
    rw [mapOk_iff.2 ⟨h0, fun i hi => hk2 i (by omega)⟩]
    exact RM.i0
 ·refine Br.yes (by simp; omega) ?_
  ((conv=>whnf);(repeat' ((first|refine Nd ?_|refine Hv fun _h=>?_);conv=>whnf)))
  rw [no (fun e => h0 (mapOk_iff.1 e).1)]
  exact RM.i0
theorem Qdr : HB 59 := hB Tryz.func59
theorem Qeq (m : List (List Ent)) (b : Int) (hm : m.length ≤ 1000000) : PS 69 [.a [Qm m], .c (.int .i64 b)] (.c (.int .i64 (Q4 m b))) := by
 refine PSpec.rm ?_
 refine ov hΓ Tryz.func69 18 0 [.tmp 4] Tryz.ntmps69 Tryz.results69 ?_
 ((conv=>whnf);(repeat' ((first|refine Nd ?_|refine Hv fun _h=>?_);conv=>whnf)))
 by_cases h : b < 0 ∨ m.length = 0
 ·refine Br.yes (by rcases h with h | h <;> simp [h]) ?_
  ((conv=>whnf);(repeat' ((first|refine Nd ?_|refine Hv fun _h=>?_);conv=>whnf)))
  rw [show Q4 m b = -1 from if_pos h]
  exact RM.i0
 ·have h1 : ¬ b < 0 := by omega
  have h2 : ¬ (m.length : Int) = 0 := by omega
  refine Br.no (by rw [decide_eq_false h1]; exact decide_eq_false h2) ?_
  ((conv=>whnf);(repeat' ((first|refine Nd ?_|refine Hv fun _h=>?_);conv=>whnf)))
  rw [show Q4 m b = b.tmod m.length from if_neg h]
  exact RM.i0
theorem Qd9 : HB 69 := hB Tryz.func69
theorem Fw.ints {H : List O} {id e n t : Nat} {x : Bool} {g : Nat → Nat → C} {l : List Int} (hid : getL H id = some (.arr e 1 n g)) (ht : t = n) (hn : n = l.length) (hg : ∀ i, i < n → ∀ j, j < 1 → g i j = QcD .i64 l i j) : Fw H (.sl id 1 t t x) (QbH l) := by
 subst ht
 exact Fw.slP hid rfl hn hg (fun _ _ => rfl)
end Go.Proofs
end
