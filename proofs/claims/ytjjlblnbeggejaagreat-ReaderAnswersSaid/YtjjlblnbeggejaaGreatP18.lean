/- Contracts, lemmas; no condition. -/
import Derived.Test.YtjjlblnbeggejaaGreatP17
import Derived.Test.YtjjlblnbeggejaaGreatP12
set_option linter.all false
section
open Go Go.Am
namespace Go.Proofs
set_option maxRecDepth 20000
variable {k i : Nat} {α : Type} {l : List α} {p : α → Bool}
def Sav.cells (s : Sav) : List C := [.int .i64 s.state, .int .i64 s.done, .int .i64 s.slot, .int .i64 s.seq, .int .i64 s.next, .int .i64 s.cut, Qap s.ents, Qqr s.recs]
theorem entOk_iff {e : Ent} : QaQ e = true ↔ (e.kind = 1 ∨ e.kind = 2) ∧ 1 ≤ e.version ∧ e.version ≤ 1099511627776 ∧ 0 ≤ e.move ∧ e.move ≤ 255 ∧ 0 ≤ e.block ∧ 0 ≤ e.zone ∧ 0 ≤ e.offset := by
 unfold QaQ; rw [Qxw]
theorem Qpl (n : Int) : PS 309 [.c (.int .i64 n)] (.c (.bool (decide (0 ≤ n ∧ n ≤ 255)))) := by
 refine PSpec.rm ?_
 refine ov0 hΓ Tryz.func309 9 0 [.tmp 2] Tryz.ntmps309 Tryz.results309 ?_
 exact QuV
theorem Qp2 : HB 309 := hB Tryz.func309
theorem Qn5 (z o : Int) : PS 310 [.a [.int .i64 z, .int .i64 o]] (.c (.bool (decide (0 ≤ z ∧ 0 ≤ o)))) := by
 refine PSpec.rm ?_
 refine ov0 hΓ Tryz.func310 11 0 [.tmp 2] Tryz.ntmps310 Tryz.results310 ?_
 exact QuV
theorem Qnz : HB 310 := hB Tryz.func310
theorem Qnx (e : Ent) : PS 300 [.a e.cells] (.c (.bool (QaQ e))) := by
 refine PSpec.rm ?_
 refine ov0 hΓ Tryz.func300 36 0 [.tmp 2] Tryz.ntmps300 Tryz.results300 ?_
 refine CallG.auto Qp2 (fun _ => Qpl e.move ) (Go0 ?_)
 refine CallG.auto Qnz (fun _ => Qn5 e.zone e.offset ) (Go0 ?_)
 refine Qvj rfl (WS.c (WC.bool ?_))
 rw [QxW, entOk_iff]
 by_cases h1 : e.kind = 1 <;> by_cases h2 : e.kind = 2 <;> simp [h1, h2] <;> omega
theorem Qnq : HB 300 := hB Tryz.func300
theorem Qhh {a b : Int} : (bif decide ((k : Int) > 0) then decide (a ≥ b) else false) = decide (0 < k ∧ b ≤ a) := by
 by_cases h : 0 < k
 ·rw [Qxz (show (k : Int) > 0 by omega)]
  exact decide_eq_decide.2 ⟨fun q => ⟨h, q⟩, fun q => q.2⟩
 ·rw [QxE (show ¬ (k : Int) > 0 by omega)]
  exact (QxE fun q => h q.1).symm
theorem QiO (l : List Ent) (hl : l.length ≤ 1000000) : PS 281 [.c (Qap l)] (.c (.bool (QM l))) := by
 refine PSpec.rm ?_
 refine ov hΓ Tryz.func281 31 0 [.tmp 2] Tryz.ntmps281 Tryz.results281 ?_
 refine Go1 fun _h=>?_
 refine QuY hΓ (ι := Nat) [0, 5, 6] (fun i => [(7, .c (.int .i64 i))]) (fun _ => []) (fun k => k ≤ l.length ∧ ∀ i, i < k → QaQ (l.getD i default) = true ∧ (0 < i → (l.getD (i - 1) default).block < (l.getD i default).block)) (fun i => l.length - i) 0 ⟨Qxx _, fun j hj => absurd hj (QxN _)⟩ ?_ ?_
 ·exact QuW
 ·rintro k ⟨hk, hk2⟩
  refine Go0 ?_
  refine Br.of (fun h2=>Go0 ?_) (fun h2=>Go0 ?_)
  ·refine Dr.mk hΓ hMix (by kernel_rfl) (Go0 ?_)
   refine CallP.auto Qnq (Qnx (l.getD k default) ) (Go0 ?_)
   have hw : IntKind.i64.wrap (↑k - 1) = ↑k - 1 := Qa _ om om
   refine Need.mk (fun h => by rw [hw]; simp only [QxA, Qxw] at h; omega) ?_
   conv=>whnf
   refine Need.mk (fun h => by rw [hw]; simp only [QxA, Qxw] at h; omega) (Go0 ?_)
   have hp : (IntKind.i64.wrap (↑k - 1)).toNat = k - 1 := by rw [hw]; omega
   have w0 := Qa (↑k + 1) om om
   by_cases e : QaQ (l.getD k default) = true ∧ (0 < k → (l.getD (k - 1) default).block < (l.getD k default).block)
   ·refine Br.no ?_ ?_
    ·rw [hp, e.1]
     refine (Qhh (k := k)).trans (QxE fun q => ?_)
     have := e.2 q.1
     have q2 : (l.getD k default).block ≤ (l.getD (k - 1) default).block := q.2
     omega
    refine Go0 ?_
    refine ⟨k + 1, ⟨om, Q0 hk2 e⟩, om, ?_⟩
    exact QuW
   ·refine Br.yes ?_ ?_
    ·rw [hp]
     show (bif !QaQ (l.getD k default) then true else bif decide ((k : Int) > 0) then decide ((l.getD (k - 1) default).block ≥ (l.getD k default).block) else false) = true
     cases h1 : QaQ (l.getD k default) with
     | false => rfl
     | true =>
      have h0 : 0 < k := by
       rcases Qx3 k with c | c
       ·exact absurd ⟨h1, fun q => by omega⟩ e
       ·exact c
      have h3 : (l.getD k default).block ≤ (l.getD (k - 1) default).block := by
       have : ¬ (l.getD (k - 1) default).block < (l.getD k default).block := fun q => e ⟨h1, fun _ => q⟩
       omega
      exact (Qhh (k := k)).trans (Qxz ⟨h0, h3⟩)
    refine Go0 ?_
    rw [show QM l = false from QxE (fun q => e (q k om))]
    exact QuV
  ·rw [show QM l = true from Qxz (fun i hi => hk2 i om)]
   exact QuV
theorem Qix : HB 281 := hB Tryz.func281
theorem QfG [Inhabited α] (hk : k < l.length) (h : p (l.getD k default) = true) (hs : ∀ j, j < k → p (l.getD j default) = false) : l.any p = true ∧ l.findIdx p = k := by
 have ek : ∀ j (h : j < l.length), l.getD j default = l[j] := fun j h => by simp [List.getD, h]
 refine ⟨QyN.2 ⟨l[k], Qx0 hk, by rw [← ek k hk]; exact h⟩, ?_⟩
 rw [List.findIdx_eq hk]
 exact ⟨by rw [← ek k hk]; exact h, fun j hj => by rw [← ek j om]; exact hs j hj⟩
theorem Qep [Inhabited α] (hs : ∀ j, j < l.length → p (l.getD j default) = false) : ¬ l.any p = true := by
 rw [QyN]
 rintro ⟨x, hx, hp⟩
 obtain ⟨j, hj, rfl⟩ := QxP hx
 have := hs j hj
 rw [show l.getD j default = l[j] by simp [List.getD, hj]] at this
 rw [this] at hp
 cases hp
theorem any_iff [Inhabited α] : l.any p = false ↔ ∀ j, j < l.length → p (l.getD j default) = false := by
 constructor
 ·intro h j hj
  cases hp : p (l.getD j default) with
  | false => rfl
  | true =>
   have : l.any p = true := QyN.2 ⟨l[j], Qx0 hj, by rw [← hp]; simp [List.getD, hj]⟩
   rw [this] at h; cases h
 ·intro h
  cases hp : l.any p with
  | false => rfl
  | true => exact absurd hp (Qep h)
def Qaj (m : List (List Ent)) (b : Int) : Int := if b < 0 ∨ m.length = 0 then -1 else b.tmod m.length
theorem Qoi (m : List (List Ent)) (b : Int) (hm : m.length ≤ 1000000) : PS 279 [.a [QC m], .c (.int .i64 b)] (.c (.int .i64 (Qaj m b))) := by
 refine PSpec.rm ?_
 refine ov0 hΓ Tryz.func279 18 0 [.tmp 4] Tryz.ntmps279 Tryz.results279 ?_
 by_cases h : b < 0 ∨ m.length = 0
 ·refine Br.yes (by rcases h with h | h <;> simp [h]) ?_
  refine Go0 ?_
  rw [show Qaj m b = -1 from Qxt h]
  exact QuV
 ·have h1 : ¬ b < 0 := by omega
  have h2 : ¬ (m.length : Int) = 0 := by omega
  refine Br.no (by rw [QxE h1]; exact QxE h2) (Go1 fun _h=>?_)
  rw [show Qaj m b = b.tmod m.length from Qxu h]
  exact QuV
theorem Qnr : HB 279 := hB Tryz.func279
def capR (m : List (List Ent)) (i : Int) : Nat → C
 | 0 => .ip 1 fun _ => QC m
 | _ => .ip 1 fun _ => .int .i64 i
theorem Qh5 (m : List (List Ent)) (i : Int) (j : Nat) : (capR m i j).imm = true := by
 unfold capR; split <;> rfl
theorem QnM (m : List (List Ent)) (i : Int) (e : Ent) (hm : m.length ≤ 1000000) : PS 299 [.a e.cells, .c (.ip 1 fun _ => QC m), .c (.ip 1 fun _ => .int .i64 i)] (.c (.bool (!decide (Qaj m e.block = i)))) := by
 refine PSpec.rm ?_
 refine ov0 hΓ Tryz.func299 11 0 [.tmp 4] Tryz.ntmps299 Tryz.results299 ?_
 refine Dr.mk hΓ hMix (by kernel_rfl) (Go0 ?_)
 refine CallP.auto Qnr (Qoi m e.block hm ) (Go0 ?_)
 exact QuV
theorem QnW : HB 299 := hB Tryz.func299
theorem Qn8 (m : List (List Ent)) (q0 : Int) (hm : m.length ≤ 1000000) (l : List Ent) (hl : l.length ≤ 1000000) : PS 293 [.c (Qap l), .c (.fn (.func 299) 2 (capR m q0))] (.c (.int .i64 (if l.any (fun (e : Ent) => !decide (Qaj m e.block = q0)) = true then (l.findIdx (fun (e : Ent) => !decide (Qaj m e.block = q0)) : Nat) else -1))) := by
 refine PSpec.rm ?_
 refine ov hΓ Tryz.func293 19 0 [.tmp 4] Tryz.ntmps293 Tryz.results293 ?_
 refine Go1 fun _h=>?_
 refine QuY hΓ (ι := Nat) [0, 1, 7] (fun i => [(8, .c (.int .i64 i))]) (fun _ => []) (fun i => i ≤ l.length ∧ ∀ j, j < i → (fun (e : Ent) => !decide (Qaj m e.block = q0)) (l.getD j default) = false) (fun i => l.length - i) 0 ⟨Qxx _, fun j hj => absurd hj om⟩ ?_ ?_
 ·refine Qvm ?_
  exact Qwr (fun j _ => Qh5 m q0 j)
 ·rintro k ⟨hk, hs⟩
  refine Go0 ?_
  refine Br.of (fun h1=>Go0 ?_) (fun h1=>Go0 ?_)
  ·refine QuU QnW (QnM m q0 (l.getD k default) hm ) (Go0 ?_)
   cases hb : (fun (e : Ent) => !decide (Qaj m e.block = q0)) (l.getD k default) with
   | true =>
    refine Br.yes hb (Go0 ?_)
    obtain ⟨q1, q2⟩ := QfG (p := fun (e : Ent) => !decide (Qaj m e.block = q0)) om hb hs
    rw [Qxt q1, q2]
    exact QuV
   | false =>
    refine Br.no hb (Go0 ?_)
    have w0 := Qa (↑k + 1) om om
    refine ⟨k + 1, ⟨om, Q0 hs hb⟩, om, ?_⟩
    refine Qvm ?_
    exact Qwr (fun j _ => Qh5 m q0 j)
  ·rw [Qxu (Qep (fun j hj => hs j om))]
   exact QuV
theorem Qnw : HB 293 := hB Tryz.func293
theorem QpS (m : List (List Ent)) (q0 : Int) (hm : m.length ≤ 1000000) (l : List Ent) (hl : l.length ≤ 1000000) : PS 267 [.c (Qap l), .c (.fn (.func 299) 2 (capR m q0))] (.c (.bool (l.any (fun (e : Ent) => !decide (Qaj m e.block = q0))))) := by
 refine PSpec.rm ?_
 refine ov0 hΓ Tryz.func267 9 0 [.tmp 4] Tryz.ntmps267 Tryz.results267 ?_
 refine CallN.reads Qnw (Qn8 m q0 hm l hl) (BwA.cons (BwS.c (Bw.same rfl)) (BwA.cons (BwS.c (Bw.fn fun j _ => Bw.same (Qh5 m q0 j))) BwA.nil)) rfl (Go0 ?_)
 refine Qv8 ?_
 cases l.any (fun (e : Ent) => !decide (Qaj m e.block = q0)) with
 | true => simp
 | false => rfl
theorem Qqv : HB 267 := hB Tryz.func267
theorem Qsd {l : List (List Ent)} {x : List Ent} {t : List C} {n j : Nat} (hn : n = l.length) (hi : i < l.length + 1) (hj : j < 1) : appG (QcE l) n (QaE 1 (Qap x :: t)) i j = QcE (l ++ [x]) i j :=
 QeY (f := fun l _ => Qap l) hn (fun j hj => by
  have : j = 0 := by omega
  subst this; rfl) hi hj
theorem QmZ (l : List α) (hk : k ≤ l.length) : (l.take k).length = k := by rw [QxO]; omega
theorem Qb9 [Inhabited α] (l : List α) (hk : k < l.length) : l.take (k + 1) = l.take k ++ [l.getD k default] := by
 rw [QyG hk]
 simp [List.getD, hk]
theorem QkR (m : List (List Ent)) (hm : m.length ≤ 1000000) (hs : ∀ i, (m.getD i default).length ≤ 1000000) : PS 236 [.a [QC m]] (.a [QC m]) := by
 refine PSpec.rm ?_
 refine ov hΓ Tryz.func236 24 0 [.cell 2 302] Tryz.ntmps236 Tryz.results236 ?_
 refine Go1 fun _h=>?_
 refine QuY hΓ (ι := Nat) [2, 3, 7, 8] (fun i => [(9, .c (.int .i64 i))]) (fun k => [.vr [QC m], .vr [.nils], .vr [.sl 3 1 k k false], .arr 50 1 k (QcE (m.take k))]) (fun i => i ≤ m.length) (fun i => m.length - i) 0 (Qxx _) ?_ ?_
 ·refine (Qv7 2 0 50 1 (QcE []) rfl rfl rfl rfl).trans ?_
  refine Qvm ?_
  intro i hi; omega
 ·intro k hk
  have hsk := hs k
  refine Go0 ?_
  refine Br.of (fun h=>Go0 ?_) (fun h=>Go0 ?_)
  ·refine Dr.mk hΓ hMix (by kernel_rfl) (Go0 ?_)
   refine CallP.auto Qd0 (Qd2 (m.getD k default) om ) (Go0 ?_)
   have w0 := Qa (↑k + 1) om om
   refine ⟨k + 1, om, om, ?_⟩
   refine Qvm ?_
   intro i hi j hj
   rw [Qb9 m om]
   exact WC.eq (Qsd (QmZ m hk).symm (by rw [QmZ m hk]; exact hi) hj) rfl
  ·have : k = m.length := by omega
   subst this
   refine RM.fz 3 rfl (Qxx _) (fun _ _ _ _ => rfl) ?_
   rw [Qzc]
   exact QvB
theorem QkS : HB 236 := hB Tryz.func236
theorem QgC {m : List (List Ent)} {l : List Ent} (hl : QM l = true) (hm : 1 ≤ m.length) : (l.any fun (e : Ent) => !decide (Qaj m e.block = (i : Int))) = !Qan l m.length i := by
 have hb : ∀ k, k < l.length → 0 ≤ (l.getD k default).block := fun k hk => (entOk_iff.1 ((Qx4 hl) k hk).1).2.2.2.2.2.1
 have e : ∀ k, k < l.length → Qaj m (l.getD k default).block = (l.getD k default).block.tmod m.length := fun k hk => Qxu (by have := hb k hk; omega)
 cases h : Qan l m.length i with
 | true =>
  refine any_iff.2 fun k hk => ?_
  rw [e k hk]
  have := Qx4 h k hk
  simp only [this, decide_true, Bool.not_true]
 | false =>
  cases h2 : (l.any fun (e : Ent) => !decide (Qaj m e.block = (i : Int))) with
  | true => rfl
  | false =>
   have : Qan l m.length i = true := Qxz fun k hk => by
    have := any_iff.1 h2 k hk
    rw [e k hk] at this
    simpa using this
   rw [this] at h; cases h
theorem QhZ (m : List (List Ent)) (hm : m.length ≤ 1000000) (hs : ∀ i, (m.getD i default).length ≤ 1000000) : PS 280 [.a [QC m]] (.c (.bool (Qx m))) := by
 refine PSpec.rm ?_
 refine ov hΓ Tryz.func280 32 0 [.tmp 2] Tryz.ntmps280 Tryz.results280 ?_
 refine Go1 fun _h=>?_
 by_cases h : 1 ≤ m.length ∧ m.length ≤ 8
 ·have h1 : ¬ (m.length : Int) < 1 := by omega
  have h2 : ¬ (m.length : Int) > 8 := by omega
  refine Br.no (by rw [QxE h1]; exact QxE h2) (Go1 fun _h=>?_)
  refine QuY hΓ (ι := Nat) [1, 16, 17] (fun i => [(18, .c (.int .i64 i))]) (fun _ => [.vr [QC m]]) (fun k => k ≤ m.length ∧ ∀ i, i < k → QM (m.getD i default) = true ∧ Qan (m.getD i default) m.length i = true) (fun i => m.length - i) 0 ⟨Qxx _, fun j hj => absurd hj (QxN _)⟩ ?_ ?_
  ·exact QuW
  ·rintro k ⟨hk, hk2⟩
   have hsk := hs k
   refine Go0 ?_
   refine Br.of (fun h3=>Go0 ?_) (fun h3=>Go0 ?_)
   ·refine QuU Qix (QiO (m.getD k default) hsk ) (Go0 ?_)
    refine CallG.reads Qqv (fun _ => QpS m k hm (m.getD k default) hsk) (fun _ => BwA.cons (BwS.c (Bw.same rfl)) (BwA.cons (BwS.c (Qxq (g := lget [.ptr 0 0, .ptr 1 0]) (g' := capR m k) (Qw1 rfl rfl) (Qw1 rfl rfl))) BwA.nil)) rfl (Go0 ?_)
    have w0 := Qa (↑k + 1) om om
    by_cases e : QM (m.getD k default) = true ∧ Qan (m.getD k default) m.length k = true
    ·refine Br.no (by rw [e.1, QgC e.1 h.1, e.2]; rfl) (Go0 ?_)
     refine ⟨k + 1, ⟨om, Q0 hk2 e⟩, om, ?_⟩
     exact QuW
    ·refine Br.yes ?_ ?_
     ·cases h4 : QM (m.getD k default) with
      | false => rfl
      | true =>
       rw [QgC h4 h.1]
       cases h5 : Qan (m.getD k default) m.length k with
       | false => rfl
       | true => exact absurd ⟨h4, h5⟩ e
     refine Go0 ?_
     rw [show Qx m = false by
      unfold Qx
      rw [Qxz h, QxE (fun q => e (q k om))]; rfl]
     exact QuV
   ·rw [show Qx m = true by
     unfold Qx
     rw [Qxz h, Qxz (fun i hi => hk2 i om)]; rfl]
    exact QuV
 ·refine Br.yes ?_ ?_
  ·by_cases h1 : (m.length : Int) < 1
   ·rw [Qxz h1]; rfl
   ·rw [QxE h1]; exact Qxz om
  refine Go0 ?_
  rw [show Qx m = false by unfold Qx; rw [QxE h]; rfl]
  exact QuV
theorem QhG : HB 280 := hB Tryz.func280
theorem Qlo (m : List (List Ent)) (hm : m.length ≤ 1000000) (hs : ∀ i, (m.getD i default).length ≤ 1000000) : PS 266 [.a [QC m]] (.c (.bool (Qx m))) := by
 refine PSpec.rm ?_
 refine ov0 hΓ Tryz.func266 7 0 [.tmp 2] Tryz.ntmps266 Tryz.results266 ?_
 refine QuU QkS (QkR m hm hs ) (Go0 ?_)
 refine QuU QhG (QhZ m hm hs ) (Go0 ?_)
 exact QuV
theorem Qlf : HB 266 := hB Tryz.func266
end Go.Proofs
end
