/- Part of the proofs of laws of this seat: contracts and plain lemmas; no condition is added to a statement. -/
import Derived.Test.YtmollgldghpbkaaGreatCtC
import Derived.Test.YtmollgldghpbkaaGreatAmF
set_option linter.unusedSimpArgs false
set_option linter.unusedVariables false
section
open Go Go.Am
namespace Go.Proofs
set_option maxRecDepth 20000
theorem entOk_iff {e : Ent} : entOk e = true ↔ (e.kind = 1 ∨ e.kind = 2) ∧ 1 ≤ e.version ∧ e.version ≤ 1099511627776 ∧ 0 ≤ e.move ∧ e.move ≤ 255 ∧ 0 ≤ e.block ∧ 0 ≤ e.zone ∧ 0 ≤ e.offset := by
  unfold entOk; rw [decide_eq_true_eq]
theorem moved_spec (n : Int) : PSpec Tryz.prog 248 [.c (.int .i64 n)] (.c (.bool (decide (0 ≤ n ∧ n ≤ 255)))) := by
  refine PSpec.rm ?_
  refine CSpec.of_vc hΓ Tryz.func248 rfl 9 0 [.tmp 2] Tryz.ntmps248 rfl (by rw [Tryz.results248]) rfl ?_
  conv => whnf
  repeat' ((first | refine Need.auto ?_ | refine Have.mk (fun _h => ?_)); conv => whnf)
  refine RM.immW rfl ?_; (repeat' (first | exact WA.nil | refine WA.cons rfl ?_ ?_ | exact WB.nil | refine WB.cons ?_ ?_ | exact WT.nil | refine WT.cons ?_ ?_ | exact WH.nil | refine WH.cons ?_ ?_ | exact WR.nil | refine WR.cons rfl ?_ ?_ | refine WO.vr ?_ | exact WO.dead | exact WO.mpS | refine WO.mpA ?_ | exact WO.arrPA (fun i j => plainRow _ _ _) | refine WO.arrA ?_ | exact WS.u | refine WS.c ?_ | refine WS.a ?_ | refine WS.t ?_ | exact WL.nil | refine WL.cons ?_ ?_ | exact WTL.nil | refine WTL.consC ?_ ?_ | refine WTL.consL ?_ ?_ | exact WC.nils | exact WC.nil rfl | exact WC.nilp | refine WC.fzA | exact WC.ptr rfl (Nat.le_of_ble_eq_true rfl) | exact WC.mpr rfl (Nat.le_of_ble_eq_true rfl) | refine WC.slA | refine WC.intA | refine WC.int ?_ | refine WC.boolA | refine WC.bool ?_ | refine WC.strA | refine WC.str ?_ | exact WC.imm rfl))
theorem moved_body : HasBody Tryz.prog 248 := ⟨⟨Tryz.f248, Tryz.func248, rfl, by kernel_rfl⟩⟩
theorem placed_spec (z o : Int) : PSpec Tryz.prog 249 [.a [.int .i64 z, .int .i64 o]] (.c (.bool (decide (0 ≤ z ∧ 0 ≤ o)))) := by
  refine PSpec.rm ?_
  refine CSpec.of_vc hΓ Tryz.func249 rfl 11 0 [.tmp 2] Tryz.ntmps249 rfl (by rw [Tryz.results249]) rfl ?_
  conv => whnf
  repeat' ((first | refine Need.auto ?_ | refine Have.mk (fun _h => ?_)); conv => whnf)
  refine RM.immW rfl ?_; (repeat' (first | exact WA.nil | refine WA.cons rfl ?_ ?_ | exact WB.nil | refine WB.cons ?_ ?_ | exact WT.nil | refine WT.cons ?_ ?_ | exact WH.nil | refine WH.cons ?_ ?_ | exact WR.nil | refine WR.cons rfl ?_ ?_ | refine WO.vr ?_ | exact WO.dead | exact WO.mpS | refine WO.mpA ?_ | exact WO.arrPA (fun i j => plainRow _ _ _) | refine WO.arrA ?_ | exact WS.u | refine WS.c ?_ | refine WS.a ?_ | refine WS.t ?_ | exact WL.nil | refine WL.cons ?_ ?_ | exact WTL.nil | refine WTL.consC ?_ ?_ | refine WTL.consL ?_ ?_ | exact WC.nils | exact WC.nil rfl | exact WC.nilp | refine WC.fzA | exact WC.ptr rfl (Nat.le_of_ble_eq_true rfl) | exact WC.mpr rfl (Nat.le_of_ble_eq_true rfl) | refine WC.slA | refine WC.intA | refine WC.int ?_ | refine WC.boolA | refine WC.bool ?_ | refine WC.strA | refine WC.str ?_ | exact WC.imm rfl))
theorem placed_body : HasBody Tryz.prog 249 := ⟨⟨Tryz.f249, Tryz.func249, rfl, by kernel_rfl⟩⟩
theorem sright_spec (e : Ent) : PSpec Tryz.prog 229 [.a e.cells] (.c (.bool (entOk e))) := by
  refine PSpec.rm ?_
  refine CSpec.of_vc hΓ Tryz.func229 rfl 36 0 [.tmp 2] Tryz.ntmps229 rfl (by rw [Tryz.results229]) rfl ?_
  conv => whnf
  repeat' ((first | refine Need.auto ?_ | refine Have.mk (fun _h => ?_)); conv => whnf)
  refine CallG.auto moved_body (fun _ => moved_spec e.move ) ?_
  conv => whnf
  repeat' ((first | refine Need.auto ?_ | refine Have.mk (fun _h => ?_)); conv => whnf)
  refine CallG.auto placed_body (fun _ => placed_spec e.zone e.offset ) ?_
  conv => whnf
  repeat' ((first | refine Need.auto ?_ | refine Have.mk (fun _h => ?_)); conv => whnf)
  refine RM.immW rfl (WS.c (WC.bool ?_))
  rw [Bool.eq_iff_iff, entOk_iff]
  by_cases h1 : e.kind = 1 <;> by_cases h2 : e.kind = 2 <;> simp [h1, h2] <;> omega
theorem sright_body : HasBody Tryz.prog 229 := ⟨⟨Tryz.f229, Tryz.func229, rfl, by kernel_rfl⟩⟩
theorem guardGe {k : Nat} {a b : Int} : (bif decide ((k : Int) > 0) then decide (a ≥ b) else false) = decide (0 < k ∧ b ≤ a) := by
  by_cases h : 0 < k
  · rw [decide_eq_true (show (k : Int) > 0 by omega)]
    exact decide_eq_decide.2 ⟨fun q => ⟨h, q⟩, fun q => q.2⟩
  · rw [decide_eq_false (show ¬ (k : Int) > 0 by omega)]
    exact (decide_eq_false fun q => h q.1).symm
theorem shardvalid_spec (l : List Ent) (hl : l.length ≤ 1000000) : PSpec Tryz.prog 200 [.c (entsC l)] (.c (.bool (shardOk l))) := by
  refine PSpec.rm ?_
  refine CSpec.of_vc hΓ Tryz.func200 rfl 31 0 [.tmp 2] Tryz.ntmps200 rfl (by rw [Tryz.results200]) rfl ?_
  conv => whnf
  repeat' ((first | refine Need.auto ?_ | refine Have.mk (fun _h => ?_)); conv => whnf)
  refine Lp.mkK hΓ (ι := Nat) [0, 5, 6] (fun i => [(7, .c (.int .i64 i))]) (fun _ => []) (fun k => k ≤ l.length ∧ ∀ i, i < k → entOk (l.getD i default) = true ∧ (0 < i → (l.getD (i - 1) default).block < (l.getD i default).block)) (fun i => l.length - i) 0 ⟨Nat.zero_le _, fun j hj => absurd hj (Nat.not_lt_zero _)⟩ ?_ ?_
  · refine Mv.mkW ?_ ?_ (Nat.le_of_ble_eq_true rfl) <;> (repeat' (first | exact WA.nil | refine WA.cons rfl ?_ ?_ | exact WB.nil | refine WB.cons ?_ ?_ | exact WT.nil | refine WT.cons ?_ ?_ | exact WH.nil | refine WH.cons ?_ ?_ | exact WR.nil | refine WR.cons rfl ?_ ?_ | refine WO.vr ?_ | exact WO.dead | exact WO.mpS | refine WO.mpA ?_ | exact WO.arrPA (fun i j => plainRow _ _ _) | refine WO.arrA ?_ | exact WS.u | refine WS.c ?_ | refine WS.a ?_ | refine WS.t ?_ | exact WL.nil | refine WL.cons ?_ ?_ | exact WTL.nil | refine WTL.consC ?_ ?_ | refine WTL.consL ?_ ?_ | exact WC.nils | exact WC.nil rfl | exact WC.nilp | refine WC.fzA | exact WC.ptr rfl (Nat.le_of_ble_eq_true rfl) | exact WC.mpr rfl (Nat.le_of_ble_eq_true rfl) | refine WC.slA | refine WC.intA | refine WC.int ?_ | refine WC.boolA | refine WC.bool ?_ | refine WC.strA | refine WC.str ?_ | exact WC.imm rfl))
  · rintro k ⟨hk, hk2⟩
    conv => whnf
    repeat' ((first | refine Need.auto ?_ | refine Have.mk (fun _h => ?_)); conv => whnf)
    (first | refine Br.lt (fun h2 => ?_) (fun h2 => ?_) | refine Br.le (fun h2 => ?_) (fun h2 => ?_) | refine Br.gt (fun h2 => ?_) (fun h2 => ?_) | refine Br.ge (fun h2 => ?_) (fun h2 => ?_) | refine Br.eq (fun h2 => ?_) (fun h2 => ?_) | refine Br.ne (fun h2 => ?_) (fun h2 => ?_) | refine Br.not (fun h2 => ?_) (fun h2 => ?_) | refine Br.mk (fun h2 => ?_) (fun h2 => ?_)) <;> (try simp only [Int.toNat_natCast] at h2) <;> (conv => whnf)
    · repeat' ((first | refine Need.auto ?_ | refine Have.mk (fun _h => ?_)); conv => whnf)
      refine Dr.mk hΓ hMix (by kernel_rfl) ?_; conv => whnf
      repeat' ((first | refine Need.auto ?_ | refine Have.mk (fun _h => ?_)); conv => whnf)
      refine CallP.auto sright_body (sright_spec (l.getD k default) ) ?_
      conv => whnf
      repeat' ((first | refine Need.auto ?_ | refine Have.mk (fun _h => ?_)); conv => whnf)
      have hw : IntKind.i64.wrap (↑k - 1) = ↑k - 1 := wrap_id _ (by omega) (by omega)
      refine Need.mk (fun h => by rw [hw]; simp only [Bool.and_eq_true, decide_eq_true_eq] at h; omega) ?_
      conv => whnf
      refine Need.mk (fun h => by rw [hw]; simp only [Bool.and_eq_true, decide_eq_true_eq] at h; omega) ?_
      conv => whnf
      repeat' ((first | refine Need.auto ?_ | refine Have.mk (fun _h => ?_)); conv => whnf)
      have hp : (IntKind.i64.wrap (↑k - 1)).toNat = k - 1 := by rw [hw]; omega
      have w0 := wrap_id (↑k + 1) (by omega) (by omega)
      by_cases e : entOk (l.getD k default) = true ∧ (0 < k → (l.getD (k - 1) default).block < (l.getD k default).block)
      · refine Br.no ?_ ?_
        · rw [hp, e.1]
          refine (guardGe (k := k)).trans (decide_eq_false fun q => ?_)
          have := e.2 q.1
          have q2 : (l.getD k default).block ≤ (l.getD (k - 1) default).block := q.2
          omega
        conv => whnf
        repeat' ((first | refine Need.auto ?_ | refine Have.mk (fun _h => ?_)); conv => whnf)
        refine ⟨k + 1, ⟨by omega, all_step hk2 e⟩, by omega, ?_⟩
        refine Mv.mkW ?_ ?_ (Nat.le_of_ble_eq_true rfl) <;> (repeat' (first | exact WA.nil | refine WA.cons rfl ?_ ?_ | exact WB.nil | refine WB.cons ?_ ?_ | exact WT.nil | refine WT.cons ?_ ?_ | exact WH.nil | refine WH.cons ?_ ?_ | exact WR.nil | refine WR.cons rfl ?_ ?_ | refine WO.vr ?_ | exact WO.dead | exact WO.mpS | refine WO.mpA ?_ | exact WO.arrPA (fun i j => plainRow _ _ _) | refine WO.arrA ?_ | exact WS.u | refine WS.c ?_ | refine WS.a ?_ | refine WS.t ?_ | exact WL.nil | refine WL.cons ?_ ?_ | exact WTL.nil | refine WTL.consC ?_ ?_ | refine WTL.consL ?_ ?_ | exact WC.nils | exact WC.nil rfl | exact WC.nilp | refine WC.fzA | exact WC.ptr rfl (Nat.le_of_ble_eq_true rfl) | exact WC.mpr rfl (Nat.le_of_ble_eq_true rfl) | refine WC.slA | refine WC.intA | refine WC.int ?_ | refine WC.boolA | refine WC.bool ?_ | refine WC.strA | refine WC.str ?_ | exact WC.imm rfl))
      · refine Br.yes ?_ ?_
        · rw [hp]
          show (bif !entOk (l.getD k default) then true else bif decide ((k : Int) > 0) then decide ((l.getD (k - 1) default).block ≥ (l.getD k default).block) else false) = true
          cases h1 : entOk (l.getD k default) with
          | false => rfl
          | true =>
            have h0 : 0 < k := by
              rcases Nat.eq_zero_or_pos k with c | c
              · exact absurd ⟨h1, fun q => by omega⟩ e
              · exact c
            have h3 : (l.getD k default).block ≤ (l.getD (k - 1) default).block := by
              have : ¬ (l.getD (k - 1) default).block < (l.getD k default).block := fun q => e ⟨h1, fun _ => q⟩
              omega
            exact (guardGe (k := k)).trans (decide_eq_true ⟨h0, h3⟩)
        conv => whnf
        repeat' ((first | refine Need.auto ?_ | refine Have.mk (fun _h => ?_)); conv => whnf)
        rw [show shardOk l = false from decide_eq_false (fun q => e (q k (by omega)))]
        refine RM.immW rfl ?_; (repeat' (first | exact WA.nil | refine WA.cons rfl ?_ ?_ | exact WB.nil | refine WB.cons ?_ ?_ | exact WT.nil | refine WT.cons ?_ ?_ | exact WH.nil | refine WH.cons ?_ ?_ | exact WR.nil | refine WR.cons rfl ?_ ?_ | refine WO.vr ?_ | exact WO.dead | exact WO.mpS | refine WO.mpA ?_ | exact WO.arrPA (fun i j => plainRow _ _ _) | refine WO.arrA ?_ | exact WS.u | refine WS.c ?_ | refine WS.a ?_ | refine WS.t ?_ | exact WL.nil | refine WL.cons ?_ ?_ | exact WTL.nil | refine WTL.consC ?_ ?_ | refine WTL.consL ?_ ?_ | exact WC.nils | exact WC.nil rfl | exact WC.nilp | refine WC.fzA | exact WC.ptr rfl (Nat.le_of_ble_eq_true rfl) | exact WC.mpr rfl (Nat.le_of_ble_eq_true rfl) | refine WC.slA | refine WC.intA | refine WC.int ?_ | refine WC.boolA | refine WC.bool ?_ | refine WC.strA | refine WC.str ?_ | exact WC.imm rfl))
    · repeat' ((first | refine Need.auto ?_ | refine Have.mk (fun _h => ?_)); conv => whnf)
      rw [show shardOk l = true from decide_eq_true (fun i hi => hk2 i (by omega))]
      refine RM.immW rfl ?_; (repeat' (first | exact WA.nil | refine WA.cons rfl ?_ ?_ | exact WB.nil | refine WB.cons ?_ ?_ | exact WT.nil | refine WT.cons ?_ ?_ | exact WH.nil | refine WH.cons ?_ ?_ | exact WR.nil | refine WR.cons rfl ?_ ?_ | refine WO.vr ?_ | exact WO.dead | exact WO.mpS | refine WO.mpA ?_ | exact WO.arrPA (fun i j => plainRow _ _ _) | refine WO.arrA ?_ | exact WS.u | refine WS.c ?_ | refine WS.a ?_ | refine WS.t ?_ | exact WL.nil | refine WL.cons ?_ ?_ | exact WTL.nil | refine WTL.consC ?_ ?_ | refine WTL.consL ?_ ?_ | exact WC.nils | exact WC.nil rfl | exact WC.nilp | refine WC.fzA | exact WC.ptr rfl (Nat.le_of_ble_eq_true rfl) | exact WC.mpr rfl (Nat.le_of_ble_eq_true rfl) | refine WC.slA | refine WC.intA | refine WC.int ?_ | refine WC.boolA | refine WC.bool ?_ | refine WC.strA | refine WC.str ?_ | exact WC.imm rfl))
theorem shardvalid_body : HasBody Tryz.prog 200 := ⟨⟨Tryz.f200, Tryz.func200, rfl, by kernel_rfl⟩⟩
theorem any_getD {α : Type} [Inhabited α] {l : List α} {p : α → Bool} {k : Nat} (hk : k < l.length) (h : p (l.getD k default) = true) (hs : ∀ j, j < k → p (l.getD j default) = false) : l.any p = true ∧ l.findIdx p = k := by
  have ek : ∀ j (h : j < l.length), l.getD j default = l[j] := fun j h => by simp [List.getD, h]
  refine ⟨List.any_eq_true.2 ⟨l[k], List.getElem_mem hk, by rw [← ek k hk]; exact h⟩, ?_⟩
  rw [List.findIdx_eq hk]
  exact ⟨by rw [← ek k hk]; exact h, fun j hj => by rw [← ek j (by omega)]; exact hs j hj⟩
theorem any_none {α : Type} [Inhabited α] {l : List α} {p : α → Bool} (hs : ∀ j, j < l.length → p (l.getD j default) = false) : ¬ l.any p = true := by
  rw [List.any_eq_true]
  rintro ⟨x, hx, hp⟩
  obtain ⟨j, hj, rfl⟩ := List.getElem_of_mem hx
  have := hs j hj
  rw [show l.getD j default = l[j] by simp [List.getD, hj]] at this
  rw [this] at hp
  cases hp
theorem any_iff {α : Type} [Inhabited α] {l : List α} {p : α → Bool} : l.any p = false ↔ ∀ j, j < l.length → p (l.getD j default) = false := by
  constructor
  · intro h j hj
    cases hp : p (l.getD j default) with
    | false => rfl
    | true =>
      have : l.any p = true := List.any_eq_true.2 ⟨l[j], List.getElem_mem hj, by rw [← hp]; simp [List.getD, hj]⟩
      rw [this] at h; cases h
  · intro h
    cases hp : l.any p with
    | false => rfl
    | true => exact absurd hp (any_none h)
def stripeM (m : List (List Ent)) (b : Int) : Int := if b < 0 ∨ m.length = 0 then -1 else b.tmod m.length
theorem stripe_spec (m : List (List Ent)) (b : Int) (hm : m.length ≤ 1000000) : PSpec Tryz.prog 202 [.a [shardsC m], .c (.int .i64 b)] (.c (.int .i64 (stripeM m b))) := by
  refine PSpec.rm ?_
  refine CSpec.of_vc hΓ Tryz.func202 rfl 18 0 [.tmp 4] Tryz.ntmps202 rfl (by rw [Tryz.results202]) rfl ?_
  conv => whnf
  repeat' ((first | refine Need.auto ?_ | refine Have.mk (fun _h => ?_)); conv => whnf)
  by_cases h : b < 0 ∨ m.length = 0
  · refine Br.yes (by rcases h with h | h <;> simp [h]) ?_
    conv => whnf
    repeat' ((first | refine Need.auto ?_ | refine Have.mk (fun _h => ?_)); conv => whnf)
    rw [show stripeM m b = -1 from if_pos h]
    refine RM.immW rfl ?_; (repeat' (first | exact WA.nil | refine WA.cons rfl ?_ ?_ | exact WB.nil | refine WB.cons ?_ ?_ | exact WT.nil | refine WT.cons ?_ ?_ | exact WH.nil | refine WH.cons ?_ ?_ | exact WR.nil | refine WR.cons rfl ?_ ?_ | refine WO.vr ?_ | exact WO.dead | exact WO.mpS | refine WO.mpA ?_ | exact WO.arrPA (fun i j => plainRow _ _ _) | refine WO.arrA ?_ | exact WS.u | refine WS.c ?_ | refine WS.a ?_ | refine WS.t ?_ | exact WL.nil | refine WL.cons ?_ ?_ | exact WTL.nil | refine WTL.consC ?_ ?_ | refine WTL.consL ?_ ?_ | exact WC.nils | exact WC.nil rfl | exact WC.nilp | refine WC.fzA | exact WC.ptr rfl (Nat.le_of_ble_eq_true rfl) | exact WC.mpr rfl (Nat.le_of_ble_eq_true rfl) | refine WC.slA | refine WC.intA | refine WC.int ?_ | refine WC.boolA | refine WC.bool ?_ | refine WC.strA | refine WC.str ?_ | exact WC.imm rfl))
  · have h1 : ¬ b < 0 := by omega
    have h2 : ¬ (m.length : Int) = 0 := by omega
    refine Br.no (by rw [decide_eq_false h1]; exact decide_eq_false h2) ?_
    conv => whnf
    repeat' ((first | refine Need.auto ?_ | refine Have.mk (fun _h => ?_)); conv => whnf)
    rw [show stripeM m b = b.tmod m.length from if_neg h]
    refine RM.immW rfl ?_; (repeat' (first | exact WA.nil | refine WA.cons rfl ?_ ?_ | exact WB.nil | refine WB.cons ?_ ?_ | exact WT.nil | refine WT.cons ?_ ?_ | exact WH.nil | refine WH.cons ?_ ?_ | exact WR.nil | refine WR.cons rfl ?_ ?_ | refine WO.vr ?_ | exact WO.dead | exact WO.mpS | refine WO.mpA ?_ | exact WO.arrPA (fun i j => plainRow _ _ _) | refine WO.arrA ?_ | exact WS.u | refine WS.c ?_ | refine WS.a ?_ | refine WS.t ?_ | exact WL.nil | refine WL.cons ?_ ?_ | exact WTL.nil | refine WTL.consC ?_ ?_ | refine WTL.consL ?_ ?_ | exact WC.nils | exact WC.nil rfl | exact WC.nilp | refine WC.fzA | exact WC.ptr rfl (Nat.le_of_ble_eq_true rfl) | exact WC.mpr rfl (Nat.le_of_ble_eq_true rfl) | refine WC.slA | refine WC.intA | refine WC.int ?_ | refine WC.boolA | refine WC.bool ?_ | refine WC.strA | refine WC.str ?_ | exact WC.imm rfl))
theorem stripe_body : HasBody Tryz.prog 202 := ⟨⟨Tryz.f202, Tryz.func202, rfl, by kernel_rfl⟩⟩
def capR (m : List (List Ent)) (i : Int) : Nat → C
  | 0 => .ip 1 fun _ => shardsC m
  | _ => .ip 1 fun _ => .int .i64 i
theorem capR_imm (m : List (List Ent)) (i : Int) (j : Nat) : (capR m i j).imm = true := by
  unfold capR; split <;> rfl
theorem strayC_spec (m : List (List Ent)) (i : Int) (e : Ent) (hm : m.length ≤ 1000000) : PSpec Tryz.prog 201 [.a e.cells, .c (.ip 1 fun _ => shardsC m), .c (.ip 1 fun _ => .int .i64 i)] (.c (.bool (!decide (stripeM m e.block = i)))) := by
  refine PSpec.rm ?_
  refine CSpec.of_vc hΓ Tryz.func201 rfl 11 0 [.tmp 4] Tryz.ntmps201 rfl (by rw [Tryz.results201]) rfl ?_
  conv => whnf
  repeat' ((first | refine Need.auto ?_ | refine Have.mk (fun _h => ?_)); conv => whnf)
  refine Dr.mk hΓ hMix (by kernel_rfl) ?_; conv => whnf
  repeat' ((first | refine Need.auto ?_ | refine Have.mk (fun _h => ?_)); conv => whnf)
  refine CallP.auto stripe_body (stripe_spec m e.block hm ) ?_
  conv => whnf
  repeat' ((first | refine Need.auto ?_ | refine Have.mk (fun _h => ?_)); conv => whnf)
  refine RM.immW rfl ?_; (repeat' (first | exact WA.nil | refine WA.cons rfl ?_ ?_ | exact WB.nil | refine WB.cons ?_ ?_ | exact WT.nil | refine WT.cons ?_ ?_ | exact WH.nil | refine WH.cons ?_ ?_ | exact WR.nil | refine WR.cons rfl ?_ ?_ | refine WO.vr ?_ | exact WO.dead | exact WO.mpS | refine WO.mpA ?_ | exact WO.arrPA (fun i j => plainRow _ _ _) | refine WO.arrA ?_ | exact WS.u | refine WS.c ?_ | refine WS.a ?_ | refine WS.t ?_ | exact WL.nil | refine WL.cons ?_ ?_ | exact WTL.nil | refine WTL.consC ?_ ?_ | refine WTL.consL ?_ ?_ | exact WC.nils | exact WC.nil rfl | exact WC.nilp | refine WC.fzA | exact WC.ptr rfl (Nat.le_of_ble_eq_true rfl) | exact WC.mpr rfl (Nat.le_of_ble_eq_true rfl) | refine WC.slA | refine WC.intA | refine WC.int ?_ | refine WC.boolA | refine WC.bool ?_ | refine WC.strA | refine WC.str ?_ | exact WC.imm rfl))
theorem strayC_body : HasBody Tryz.prog 201 := ⟨⟨Tryz.f201, Tryz.func201, rfl, by kernel_rfl⟩⟩
theorem strayI_spec (m : List (List Ent)) (q0 : Int) (hm : m.length ≤ 1000000) (l : List Ent) (hl : l.length ≤ 1000000) : PSpec Tryz.prog 146 [.c (entsC l), .c (.fn (.func 201) 2 (capR m q0))] (.c (.int .i64 (if l.any (fun (e : Ent) => !decide (stripeM m e.block = q0)) = true then (l.findIdx (fun (e : Ent) => !decide (stripeM m e.block = q0)) : Nat) else -1))) := by
  refine PSpec.rm ?_
  refine CSpec.of_vc hΓ Tryz.func146 rfl 19 0 [.tmp 4] Tryz.ntmps146 rfl (by rw [Tryz.results146]) rfl ?_
  conv => whnf
  repeat' ((first | refine Need.auto ?_ | refine Have.mk (fun _h => ?_)); conv => whnf)
  refine Lp.mkK hΓ (ι := Nat) [0, 1, 7] (fun i => [(8, .c (.int .i64 i))]) (fun _ => []) (fun i => i ≤ l.length ∧ ∀ j, j < i → (fun (e : Ent) => !decide (stripeM m e.block = q0)) (l.getD j default) = false) (fun i => l.length - i) 0 ⟨Nat.zero_le _, fun j hj => absurd hj (by omega)⟩ ?_ ?_
  · refine Mv.mkW ?_ ?_ (Nat.le_of_ble_eq_true rfl) <;> (repeat' (first | exact WA.nil | refine WA.cons rfl ?_ ?_ | exact WB.nil | refine WB.cons ?_ ?_ | exact WT.nil | refine WT.cons ?_ ?_ | exact WH.nil | refine WH.cons ?_ ?_ | exact WR.nil | refine WR.cons rfl ?_ ?_ | refine WO.vr ?_ | exact WO.dead | exact WO.mpS | refine WO.mpA ?_ | exact WO.arrPA (fun i j => plainRow _ _ _) | refine WO.arrA ?_ | exact WS.u | refine WS.c ?_ | refine WS.a ?_ | refine WS.t ?_ | exact WL.nil | refine WL.cons ?_ ?_ | exact WTL.nil | refine WTL.consC ?_ ?_ | refine WTL.consL ?_ ?_ | exact WC.nils | exact WC.nil rfl | exact WC.nilp | refine WC.fzA | exact WC.ptr rfl (Nat.le_of_ble_eq_true rfl) | exact WC.mpr rfl (Nat.le_of_ble_eq_true rfl) | refine WC.slA | refine WC.intA | refine WC.int ?_ | refine WC.boolA | refine WC.bool ?_ | refine WC.strA | refine WC.str ?_ | exact WC.imm rfl))
    exact WC.fnI (fun j _ => capR_imm m q0 j)
  · rintro k ⟨hk, hs⟩
    conv => whnf
    repeat' ((first | refine Need.auto ?_ | refine Have.mk (fun _h => ?_)); conv => whnf)
    (first | refine Br.lt (fun h1 => ?_) (fun h1 => ?_) | refine Br.le (fun h1 => ?_) (fun h1 => ?_) | refine Br.gt (fun h1 => ?_) (fun h1 => ?_) | refine Br.ge (fun h1 => ?_) (fun h1 => ?_) | refine Br.eq (fun h1 => ?_) (fun h1 => ?_) | refine Br.ne (fun h1 => ?_) (fun h1 => ?_) | refine Br.not (fun h1 => ?_) (fun h1 => ?_) | refine Br.mk (fun h1 => ?_) (fun h1 => ?_)) <;> (try simp only [Int.toNat_natCast] at h1) <;> (conv => whnf)
    · repeat' ((first | refine Need.auto ?_ | refine Have.mk (fun _h => ?_)); conv => whnf)
      refine CallN.pureA strayC_body (strayC_spec m q0 (l.getD k default) hm ) ?_
      conv => whnf
      repeat' ((first | refine Need.auto ?_ | refine Have.mk (fun _h => ?_)); conv => whnf)
      cases hb : (fun (e : Ent) => !decide (stripeM m e.block = q0)) (l.getD k default) with
      | true =>
        refine Br.yes hb ?_
        conv => whnf
        repeat' ((first | refine Need.auto ?_ | refine Have.mk (fun _h => ?_)); conv => whnf)
        obtain ⟨q1, q2⟩ := any_getD (p := fun (e : Ent) => !decide (stripeM m e.block = q0)) (by omega) hb hs
        rw [if_pos q1, q2]
        refine RM.immW rfl ?_; (repeat' (first | exact WA.nil | refine WA.cons rfl ?_ ?_ | exact WB.nil | refine WB.cons ?_ ?_ | exact WT.nil | refine WT.cons ?_ ?_ | exact WH.nil | refine WH.cons ?_ ?_ | exact WR.nil | refine WR.cons rfl ?_ ?_ | refine WO.vr ?_ | exact WO.dead | exact WO.mpS | refine WO.mpA ?_ | exact WO.arrPA (fun i j => plainRow _ _ _) | refine WO.arrA ?_ | exact WS.u | refine WS.c ?_ | refine WS.a ?_ | refine WS.t ?_ | exact WL.nil | refine WL.cons ?_ ?_ | exact WTL.nil | refine WTL.consC ?_ ?_ | refine WTL.consL ?_ ?_ | exact WC.nils | exact WC.nil rfl | exact WC.nilp | refine WC.fzA | exact WC.ptr rfl (Nat.le_of_ble_eq_true rfl) | exact WC.mpr rfl (Nat.le_of_ble_eq_true rfl) | refine WC.slA | refine WC.intA | refine WC.int ?_ | refine WC.boolA | refine WC.bool ?_ | refine WC.strA | refine WC.str ?_ | exact WC.imm rfl))
      | false =>
        refine Br.no hb ?_
        conv => whnf
        repeat' ((first | refine Need.auto ?_ | refine Have.mk (fun _h => ?_)); conv => whnf)
        have w0 := wrap_id (↑k + 1) (by omega) (by omega)
        refine ⟨k + 1, ⟨by omega, all_step hs hb⟩, by omega, ?_⟩
        refine Mv.mkW ?_ ?_ (Nat.le_of_ble_eq_true rfl) <;> (repeat' (first | exact WA.nil | refine WA.cons rfl ?_ ?_ | exact WB.nil | refine WB.cons ?_ ?_ | exact WT.nil | refine WT.cons ?_ ?_ | exact WH.nil | refine WH.cons ?_ ?_ | exact WR.nil | refine WR.cons rfl ?_ ?_ | refine WO.vr ?_ | exact WO.dead | exact WO.mpS | refine WO.mpA ?_ | exact WO.arrPA (fun i j => plainRow _ _ _) | refine WO.arrA ?_ | exact WS.u | refine WS.c ?_ | refine WS.a ?_ | refine WS.t ?_ | exact WL.nil | refine WL.cons ?_ ?_ | exact WTL.nil | refine WTL.consC ?_ ?_ | refine WTL.consL ?_ ?_ | exact WC.nils | exact WC.nil rfl | exact WC.nilp | refine WC.fzA | exact WC.ptr rfl (Nat.le_of_ble_eq_true rfl) | exact WC.mpr rfl (Nat.le_of_ble_eq_true rfl) | refine WC.slA | refine WC.intA | refine WC.int ?_ | refine WC.boolA | refine WC.bool ?_ | refine WC.strA | refine WC.str ?_ | exact WC.imm rfl))
        exact WC.fnI (fun j _ => capR_imm m q0 j)
    · repeat' ((first | refine Need.auto ?_ | refine Have.mk (fun _h => ?_)); conv => whnf)
      rw [if_neg (any_none (fun j hj => hs j (by omega)))]
      refine RM.immW rfl ?_; (repeat' (first | exact WA.nil | refine WA.cons rfl ?_ ?_ | exact WB.nil | refine WB.cons ?_ ?_ | exact WT.nil | refine WT.cons ?_ ?_ | exact WH.nil | refine WH.cons ?_ ?_ | exact WR.nil | refine WR.cons rfl ?_ ?_ | refine WO.vr ?_ | exact WO.dead | exact WO.mpS | refine WO.mpA ?_ | exact WO.arrPA (fun i j => plainRow _ _ _) | refine WO.arrA ?_ | exact WS.u | refine WS.c ?_ | refine WS.a ?_ | refine WS.t ?_ | exact WL.nil | refine WL.cons ?_ ?_ | exact WTL.nil | refine WTL.consC ?_ ?_ | refine WTL.consL ?_ ?_ | exact WC.nils | exact WC.nil rfl | exact WC.nilp | refine WC.fzA | exact WC.ptr rfl (Nat.le_of_ble_eq_true rfl) | exact WC.mpr rfl (Nat.le_of_ble_eq_true rfl) | refine WC.slA | refine WC.intA | refine WC.int ?_ | refine WC.boolA | refine WC.bool ?_ | refine WC.strA | refine WC.str ?_ | exact WC.imm rfl))
theorem strayI_body : HasBody Tryz.prog 146 := ⟨⟨Tryz.f146, Tryz.func146, rfl, by kernel_rfl⟩⟩
theorem stray_spec (m : List (List Ent)) (q0 : Int) (hm : m.length ≤ 1000000) (l : List Ent) (hl : l.length ≤ 1000000) : PSpec Tryz.prog 79 [.c (entsC l), .c (.fn (.func 201) 2 (capR m q0))] (.c (.bool (l.any (fun (e : Ent) => !decide (stripeM m e.block = q0))))) := by
  refine PSpec.rm ?_
  refine CSpec.of_vc hΓ Tryz.func79 rfl 9 0 [.tmp 4] Tryz.ntmps79 rfl (by rw [Tryz.results79]) rfl ?_
  conv => whnf
  repeat' ((first | refine Need.auto ?_ | refine Have.mk (fun _h => ?_)); conv => whnf)
  refine CallN.reads strayI_body (strayI_spec m q0 hm l hl) (BwA.cons (BwS.c (Bw.same rfl)) (BwA.cons (BwS.c (Bw.fn fun j _ => Bw.same (capR_imm m q0 j))) BwA.nil)) rfl ?_
  conv => whnf
  repeat' ((first | refine Need.auto ?_ | refine Have.mk (fun _h => ?_)); conv => whnf)
  refine RM.immW rfl ?_; (repeat' (first | exact WA.nil | refine WA.cons rfl ?_ ?_ | exact WB.nil | refine WB.cons ?_ ?_ | exact WT.nil | refine WT.cons ?_ ?_ | exact WH.nil | refine WH.cons ?_ ?_ | exact WR.nil | refine WR.cons rfl ?_ ?_ | refine WO.vr ?_ | exact WO.dead | exact WO.mpS | refine WO.mpA ?_ | exact WO.arrPA (fun i j => plainRow _ _ _) | refine WO.arrA ?_ | exact WS.u | refine WS.c ?_ | refine WS.a ?_ | refine WS.t ?_ | exact WL.nil | refine WL.cons ?_ ?_ | exact WTL.nil | refine WTL.consC ?_ ?_ | refine WTL.consL ?_ ?_ | exact WC.nils | exact WC.nil rfl | exact WC.nilp | refine WC.fzA | exact WC.ptr rfl (Nat.le_of_ble_eq_true rfl) | exact WC.mpr rfl (Nat.le_of_ble_eq_true rfl) | refine WC.slA | refine WC.intA | refine WC.int ?_ | refine WC.boolA | refine WC.bool ?_ | refine WC.strA | refine WC.str ?_ | exact WC.imm rfl))
  cases l.any (fun (e : Ent) => !decide (stripeM m e.block = q0)) with
  | true => simp
  | false => rfl
theorem stray_body : HasBody Tryz.prog 79 := ⟨⟨Tryz.f79, Tryz.func79, rfl, by kernel_rfl⟩⟩
end Go.Proofs
end

section
open Go Go.Am
namespace Go.Proofs
set_option maxRecDepth 20000
theorem shardSnoc {l : List (List Ent)} {x : List Ent} {t : List C} {n i j : Nat} (hn : n = l.length) (hi : i < l.length + 1) (hj : j < 1) : appG (shardG l) n (flatG 1 (entsC x :: t)) i j = shardG (l ++ [x]) i j :=
  rowG_snoc (f := fun l _ => entsC l) hn (fun j hj => by
    have : j = 0 := by omega
    subst this; rfl) hi hj
theorem take_len {α : Type} (l : List α) {k : Nat} (hk : k ≤ l.length) : (l.take k).length = k := by rw [List.length_take]; omega
theorem take_getD {α : Type} [Inhabited α] (l : List α) {k : Nat} (hk : k < l.length) : l.take (k + 1) = l.take k ++ [l.getD k default] := by
  rw [List.take_succ_eq_append_getElem hk]
  simp [List.getD, hk]
theorem open_spec (m : List (List Ent)) (hm : m.length ≤ 1000000) (hs : ∀ i, (m.getD i default).length ≤ 1000000) : PSpec Tryz.prog 147 [.a [shardsC m]] (.a [shardsC m]) := by
  refine PSpec.rm ?_
  refine CSpec.of_vc hΓ Tryz.func147 rfl 24 0 [.cell 2 227] Tryz.ntmps147 rfl (by rw [Tryz.results147]) rfl ?_
  conv => whnf
  repeat' ((first | refine Need.auto ?_ | refine Have.mk (fun _h => ?_)); conv => whnf)
  refine Lp.mkK hΓ (ι := Nat) [2, 3, 7, 8] (fun i => [(9, .c (.int .i64 i))]) (fun k => [.vr [shardsC m], .vr [.nils], .vr [.sl 3 1 k k false], .arr 50 1 k (shardG (m.take k))]) (fun i => i ≤ m.length) (fun i => m.length - i) 0 (Nat.zero_le _) ?_ ?_
  · refine (Mv.reserveO 2 0 50 1 (shardG []) rfl rfl rfl rfl).trans ?_
    refine Mv.mkW ?_ ?_ (Nat.le_of_ble_eq_true rfl) <;> (repeat' (first | exact WA.nil | refine WA.cons rfl ?_ ?_ | exact WB.nil | refine WB.cons ?_ ?_ | exact WT.nil | refine WT.cons ?_ ?_ | exact WH.nil | refine WH.cons ?_ ?_ | exact WR.nil | refine WR.cons rfl ?_ ?_ | refine WO.vr ?_ | exact WO.dead | exact WO.mpS | refine WO.mpA ?_ | exact WO.arrPA (fun i j => plainRow _ _ _) | refine WO.arrA ?_ | exact WS.u | refine WS.c ?_ | refine WS.a ?_ | refine WS.t ?_ | exact WL.nil | refine WL.cons ?_ ?_ | exact WTL.nil | refine WTL.consC ?_ ?_ | refine WTL.consL ?_ ?_ | exact WC.nils | exact WC.nil rfl | exact WC.nilp | refine WC.fzA | exact WC.ptr rfl (Nat.le_of_ble_eq_true rfl) | exact WC.mpr rfl (Nat.le_of_ble_eq_true rfl) | refine WC.slA | refine WC.intA | refine WC.int ?_ | refine WC.boolA | refine WC.bool ?_ | refine WC.strA | refine WC.str ?_ | exact WC.imm rfl))
    intro i hi; omega
  · intro k hk
    have hsk := hs k
    conv => whnf
    repeat' ((first | refine Need.auto ?_ | refine Have.mk (fun _h => ?_)); conv => whnf)
    (first | refine Br.lt (fun h => ?_) (fun h => ?_) | refine Br.le (fun h => ?_) (fun h => ?_) | refine Br.gt (fun h => ?_) (fun h => ?_) | refine Br.ge (fun h => ?_) (fun h => ?_) | refine Br.eq (fun h => ?_) (fun h => ?_) | refine Br.ne (fun h => ?_) (fun h => ?_) | refine Br.not (fun h => ?_) (fun h => ?_) | refine Br.mk (fun h => ?_) (fun h => ?_)) <;> (try simp only [Int.toNat_natCast] at h) <;> (conv => whnf)
    · repeat' ((first | refine Need.auto ?_ | refine Have.mk (fun _h => ?_)); conv => whnf)
      refine Dr.mk hΓ hMix (by kernel_rfl) ?_; conv => whnf
      repeat' ((first | refine Need.auto ?_ | refine Have.mk (fun _h => ?_)); conv => whnf)
      refine CallP.auto cloneEnt_body (cloneEnt_spec (m.getD k default) (by omega) ) ?_
      conv => whnf
      repeat' ((first | refine Need.auto ?_ | refine Have.mk (fun _h => ?_)); conv => whnf)
      have w0 := wrap_id (↑k + 1) (by omega) (by omega)
      refine ⟨k + 1, by omega, by omega, ?_⟩
      refine Mv.mkW ?_ ?_ (Nat.le_of_ble_eq_true rfl) <;> (repeat' (first | exact WA.nil | refine WA.cons rfl ?_ ?_ | exact WB.nil | refine WB.cons ?_ ?_ | exact WT.nil | refine WT.cons ?_ ?_ | exact WH.nil | refine WH.cons ?_ ?_ | exact WR.nil | refine WR.cons rfl ?_ ?_ | refine WO.vr ?_ | exact WO.dead | exact WO.mpS | refine WO.mpA ?_ | exact WO.arrPA (fun i j => plainRow _ _ _) | refine WO.arrA ?_ | exact WS.u | refine WS.c ?_ | refine WS.a ?_ | refine WS.t ?_ | exact WL.nil | refine WL.cons ?_ ?_ | exact WTL.nil | refine WTL.consC ?_ ?_ | refine WTL.consL ?_ ?_ | exact WC.nils | exact WC.nil rfl | exact WC.nilp | refine WC.fzA | exact WC.ptr rfl (Nat.le_of_ble_eq_true rfl) | exact WC.mpr rfl (Nat.le_of_ble_eq_true rfl) | refine WC.slA | refine WC.intA | refine WC.int ?_ | refine WC.boolA | refine WC.bool ?_ | refine WC.strA | refine WC.str ?_ | exact WC.imm rfl))
      intro i hi j hj
      rw [take_getD m (by omega)]
      exact WC.eq (shardSnoc (take_len m hk).symm (by rw [take_len m hk]; exact hi) hj) rfl
    · repeat' ((first | refine Need.auto ?_ | refine Have.mk (fun _h => ?_)); conv => whnf)
      have : k = m.length := by omega
      subst this
      refine RM.fz 3 rfl (Nat.zero_le _) (fun _ _ _ _ => rfl) ?_
      rw [List.take_length]
      refine RM.wkW ?_ ?_ (Nat.zero_le _) <;> (repeat' (first | exact WA.nil | refine WA.cons rfl ?_ ?_ | exact WB.nil | refine WB.cons ?_ ?_ | exact WT.nil | refine WT.cons ?_ ?_ | exact WH.nil | refine WH.cons ?_ ?_ | exact WR.nil | refine WR.cons rfl ?_ ?_ | refine WO.vr ?_ | exact WO.dead | exact WO.mpS | refine WO.mpA ?_ | exact WO.arrPA (fun i j => plainRow _ _ _) | refine WO.arrA ?_ | exact WS.u | refine WS.c ?_ | refine WS.a ?_ | refine WS.t ?_ | exact WL.nil | refine WL.cons ?_ ?_ | exact WTL.nil | refine WTL.consC ?_ ?_ | refine WTL.consL ?_ ?_ | exact WC.nils | exact WC.nil rfl | exact WC.nilp | refine WC.fzA | exact WC.ptr rfl (Nat.le_of_ble_eq_true rfl) | exact WC.mpr rfl (Nat.le_of_ble_eq_true rfl) | refine WC.slA | refine WC.intA | refine WC.int ?_ | refine WC.boolA | refine WC.bool ?_ | refine WC.strA | refine WC.str ?_ | exact WC.imm rfl))
theorem open_body : HasBody Tryz.prog 147 := ⟨⟨Tryz.f147, Tryz.func147, rfl, by kernel_rfl⟩⟩
theorem inStripe_any {m : List (List Ent)} {l : List Ent} {i : Nat} (hl : shardOk l = true) (hm : 1 ≤ m.length) : (l.any fun (e : Ent) => !decide (stripeM m e.block = (i : Int))) = !inStripe l m.length i := by
  have hb : ∀ k, k < l.length → 0 ≤ (l.getD k default).block := fun k hk => (entOk_iff.1 ((of_decide_eq_true hl) k hk).1).2.2.2.2.2.1
  have e : ∀ k, k < l.length → stripeM m (l.getD k default).block = (l.getD k default).block.tmod m.length := fun k hk => if_neg (by have := hb k hk; omega)
  cases h : inStripe l m.length i with
  | true =>
    refine any_iff.2 fun k hk => ?_
    rw [e k hk]
    have := of_decide_eq_true h k hk
    simp only [this, decide_true, Bool.not_true]
  | false =>
    cases h2 : (l.any fun (e : Ent) => !decide (stripeM m e.block = (i : Int))) with
    | true => rfl
    | false =>
      have : inStripe l m.length i = true := decide_eq_true fun k hk => by
        have := any_iff.1 h2 k hk
        rw [e k hk] at this
        simpa using this
      rw [this] at h; cases h
theorem lright_spec (m : List (List Ent)) (hm : m.length ≤ 1000000) (hs : ∀ i, (m.getD i default).length ≤ 1000000) : PSpec Tryz.prog 148 [.a [shardsC m]] (.c (.bool (mapOk m))) := by
  refine PSpec.rm ?_
  refine CSpec.of_vc hΓ Tryz.func148 rfl 32 0 [.tmp 2] Tryz.ntmps148 rfl (by rw [Tryz.results148]) rfl ?_
  conv => whnf
  repeat' ((first | refine Need.auto ?_ | refine Have.mk (fun _h => ?_)); conv => whnf)
  by_cases h : 1 ≤ m.length ∧ m.length ≤ 8
  · have h1 : ¬ (m.length : Int) < 1 := by omega
    have h2 : ¬ (m.length : Int) > 8 := by omega
    refine Br.no (by rw [decide_eq_false h1]; exact decide_eq_false h2) ?_
    conv => whnf
    repeat' ((first | refine Need.auto ?_ | refine Have.mk (fun _h => ?_)); conv => whnf)
    refine Lp.mkK hΓ (ι := Nat) [1, 16, 17] (fun i => [(18, .c (.int .i64 i))]) (fun _ => [.vr [shardsC m]]) (fun k => k ≤ m.length ∧ ∀ i, i < k → shardOk (m.getD i default) = true ∧ inStripe (m.getD i default) m.length i = true) (fun i => m.length - i) 0 ⟨Nat.zero_le _, fun j hj => absurd hj (Nat.not_lt_zero _)⟩ ?_ ?_
    · refine Mv.mkW ?_ ?_ (Nat.le_of_ble_eq_true rfl) <;> (repeat' (first | exact WA.nil | refine WA.cons rfl ?_ ?_ | exact WB.nil | refine WB.cons ?_ ?_ | exact WT.nil | refine WT.cons ?_ ?_ | exact WH.nil | refine WH.cons ?_ ?_ | exact WR.nil | refine WR.cons rfl ?_ ?_ | refine WO.vr ?_ | exact WO.dead | exact WO.mpS | refine WO.mpA ?_ | exact WO.arrPA (fun i j => plainRow _ _ _) | refine WO.arrA ?_ | exact WS.u | refine WS.c ?_ | refine WS.a ?_ | refine WS.t ?_ | exact WL.nil | refine WL.cons ?_ ?_ | exact WTL.nil | refine WTL.consC ?_ ?_ | refine WTL.consL ?_ ?_ | exact WC.nils | exact WC.nil rfl | exact WC.nilp | refine WC.fzA | exact WC.ptr rfl (Nat.le_of_ble_eq_true rfl) | exact WC.mpr rfl (Nat.le_of_ble_eq_true rfl) | refine WC.slA | refine WC.intA | refine WC.int ?_ | refine WC.boolA | refine WC.bool ?_ | refine WC.strA | refine WC.str ?_ | exact WC.imm rfl))
    · rintro k ⟨hk, hk2⟩
      have hsk := hs k
      conv => whnf
      repeat' ((first | refine Need.auto ?_ | refine Have.mk (fun _h => ?_)); conv => whnf)
      (first | refine Br.lt (fun h3 => ?_) (fun h3 => ?_) | refine Br.le (fun h3 => ?_) (fun h3 => ?_) | refine Br.gt (fun h3 => ?_) (fun h3 => ?_) | refine Br.ge (fun h3 => ?_) (fun h3 => ?_) | refine Br.eq (fun h3 => ?_) (fun h3 => ?_) | refine Br.ne (fun h3 => ?_) (fun h3 => ?_) | refine Br.not (fun h3 => ?_) (fun h3 => ?_) | refine Br.mk (fun h3 => ?_) (fun h3 => ?_)) <;> (try simp only [Int.toNat_natCast] at h3) <;> (conv => whnf)
      · repeat' ((first | refine Need.auto ?_ | refine Have.mk (fun _h => ?_)); conv => whnf)
        refine CallN.pureA shardvalid_body (shardvalid_spec (m.getD k default) hsk ) ?_
        conv => whnf
        repeat' ((first | refine Need.auto ?_ | refine Have.mk (fun _h => ?_)); conv => whnf)
        refine CallG.reads stray_body (fun _ => stray_spec m k hm (m.getD k default) hsk) (fun _ => BwA.cons (BwS.c (Bw.same rfl)) (BwA.cons (BwS.c (Bw.fn2 (g := lget [.ptr 0 0, .ptr 1 0]) (g' := capR m k) (Bw.ptr1 rfl rfl) (Bw.ptr1 rfl rfl))) BwA.nil)) rfl ?_
        conv => whnf
        repeat' ((first | refine Need.auto ?_ | refine Have.mk (fun _h => ?_)); conv => whnf)
        have w0 := wrap_id (↑k + 1) (by omega) (by omega)
        by_cases e : shardOk (m.getD k default) = true ∧ inStripe (m.getD k default) m.length k = true
        · refine Br.no (by rw [e.1, inStripe_any e.1 h.1, e.2]; rfl) ?_
          conv => whnf
          repeat' ((first | refine Need.auto ?_ | refine Have.mk (fun _h => ?_)); conv => whnf)
          refine ⟨k + 1, ⟨by omega, all_step hk2 e⟩, by omega, ?_⟩
          refine Mv.mkW ?_ ?_ (Nat.le_of_ble_eq_true rfl) <;> (repeat' (first | exact WA.nil | refine WA.cons rfl ?_ ?_ | exact WB.nil | refine WB.cons ?_ ?_ | exact WT.nil | refine WT.cons ?_ ?_ | exact WH.nil | refine WH.cons ?_ ?_ | exact WR.nil | refine WR.cons rfl ?_ ?_ | refine WO.vr ?_ | exact WO.dead | exact WO.mpS | refine WO.mpA ?_ | exact WO.arrPA (fun i j => plainRow _ _ _) | refine WO.arrA ?_ | exact WS.u | refine WS.c ?_ | refine WS.a ?_ | refine WS.t ?_ | exact WL.nil | refine WL.cons ?_ ?_ | exact WTL.nil | refine WTL.consC ?_ ?_ | refine WTL.consL ?_ ?_ | exact WC.nils | exact WC.nil rfl | exact WC.nilp | refine WC.fzA | exact WC.ptr rfl (Nat.le_of_ble_eq_true rfl) | exact WC.mpr rfl (Nat.le_of_ble_eq_true rfl) | refine WC.slA | refine WC.intA | refine WC.int ?_ | refine WC.boolA | refine WC.bool ?_ | refine WC.strA | refine WC.str ?_ | exact WC.imm rfl))
        · refine Br.yes ?_ ?_
          · cases h4 : shardOk (m.getD k default) with
            | false => rfl
            | true =>
              rw [inStripe_any h4 h.1]
              cases h5 : inStripe (m.getD k default) m.length k with
              | false => rfl
              | true => exact absurd ⟨h4, h5⟩ e
          conv => whnf
          repeat' ((first | refine Need.auto ?_ | refine Have.mk (fun _h => ?_)); conv => whnf)
          rw [show mapOk m = false by
            unfold mapOk
            rw [decide_eq_true h, decide_eq_false (fun q => e (q k (by omega)))]; rfl]
          refine RM.immW rfl ?_; (repeat' (first | exact WA.nil | refine WA.cons rfl ?_ ?_ | exact WB.nil | refine WB.cons ?_ ?_ | exact WT.nil | refine WT.cons ?_ ?_ | exact WH.nil | refine WH.cons ?_ ?_ | exact WR.nil | refine WR.cons rfl ?_ ?_ | refine WO.vr ?_ | exact WO.dead | exact WO.mpS | refine WO.mpA ?_ | exact WO.arrPA (fun i j => plainRow _ _ _) | refine WO.arrA ?_ | exact WS.u | refine WS.c ?_ | refine WS.a ?_ | refine WS.t ?_ | exact WL.nil | refine WL.cons ?_ ?_ | exact WTL.nil | refine WTL.consC ?_ ?_ | refine WTL.consL ?_ ?_ | exact WC.nils | exact WC.nil rfl | exact WC.nilp | refine WC.fzA | exact WC.ptr rfl (Nat.le_of_ble_eq_true rfl) | exact WC.mpr rfl (Nat.le_of_ble_eq_true rfl) | refine WC.slA | refine WC.intA | refine WC.int ?_ | refine WC.boolA | refine WC.bool ?_ | refine WC.strA | refine WC.str ?_ | exact WC.imm rfl))
      · repeat' ((first | refine Need.auto ?_ | refine Have.mk (fun _h => ?_)); conv => whnf)
        rw [show mapOk m = true by
          unfold mapOk
          rw [decide_eq_true h, decide_eq_true (fun i hi => hk2 i (by omega))]; rfl]
        refine RM.immW rfl ?_; (repeat' (first | exact WA.nil | refine WA.cons rfl ?_ ?_ | exact WB.nil | refine WB.cons ?_ ?_ | exact WT.nil | refine WT.cons ?_ ?_ | exact WH.nil | refine WH.cons ?_ ?_ | exact WR.nil | refine WR.cons rfl ?_ ?_ | refine WO.vr ?_ | exact WO.dead | exact WO.mpS | refine WO.mpA ?_ | exact WO.arrPA (fun i j => plainRow _ _ _) | refine WO.arrA ?_ | exact WS.u | refine WS.c ?_ | refine WS.a ?_ | refine WS.t ?_ | exact WL.nil | refine WL.cons ?_ ?_ | exact WTL.nil | refine WTL.consC ?_ ?_ | refine WTL.consL ?_ ?_ | exact WC.nils | exact WC.nil rfl | exact WC.nilp | refine WC.fzA | exact WC.ptr rfl (Nat.le_of_ble_eq_true rfl) | exact WC.mpr rfl (Nat.le_of_ble_eq_true rfl) | refine WC.slA | refine WC.intA | refine WC.int ?_ | refine WC.boolA | refine WC.bool ?_ | refine WC.strA | refine WC.str ?_ | exact WC.imm rfl))
  · refine Br.yes ?_ ?_
    · by_cases h1 : (m.length : Int) < 1
      · rw [decide_eq_true h1]; rfl
      · rw [decide_eq_false h1]; exact decide_eq_true (by omega)
    conv => whnf
    repeat' ((first | refine Need.auto ?_ | refine Have.mk (fun _h => ?_)); conv => whnf)
    rw [show mapOk m = false by unfold mapOk; rw [decide_eq_false h]; rfl]
    refine RM.immW rfl ?_; (repeat' (first | exact WA.nil | refine WA.cons rfl ?_ ?_ | exact WB.nil | refine WB.cons ?_ ?_ | exact WT.nil | refine WT.cons ?_ ?_ | exact WH.nil | refine WH.cons ?_ ?_ | exact WR.nil | refine WR.cons rfl ?_ ?_ | refine WO.vr ?_ | exact WO.dead | exact WO.mpS | refine WO.mpA ?_ | exact WO.arrPA (fun i j => plainRow _ _ _) | refine WO.arrA ?_ | exact WS.u | refine WS.c ?_ | refine WS.a ?_ | refine WS.t ?_ | exact WL.nil | refine WL.cons ?_ ?_ | exact WTL.nil | refine WTL.consC ?_ ?_ | refine WTL.consL ?_ ?_ | exact WC.nils | exact WC.nil rfl | exact WC.nilp | refine WC.fzA | exact WC.ptr rfl (Nat.le_of_ble_eq_true rfl) | exact WC.mpr rfl (Nat.le_of_ble_eq_true rfl) | refine WC.slA | refine WC.intA | refine WC.int ?_ | refine WC.boolA | refine WC.bool ?_ | refine WC.strA | refine WC.str ?_ | exact WC.imm rfl))
theorem lright_body : HasBody Tryz.prog 148 := ⟨⟨Tryz.f148, Tryz.func148, rfl, by kernel_rfl⟩⟩
theorem l2pvalid_spec (m : List (List Ent)) (hm : m.length ≤ 1000000) (hs : ∀ i, (m.getD i default).length ≤ 1000000) : PSpec Tryz.prog 193 [.a [shardsC m]] (.c (.bool (mapOk m))) := by
  refine PSpec.rm ?_
  refine CSpec.of_vc hΓ Tryz.func193 rfl 7 0 [.tmp 2] Tryz.ntmps193 rfl (by rw [Tryz.results193]) rfl ?_
  conv => whnf
  repeat' ((first | refine Need.auto ?_ | refine Have.mk (fun _h => ?_)); conv => whnf)
  refine CallN.pureA open_body (open_spec m hm hs ) ?_
  conv => whnf
  repeat' ((first | refine Need.auto ?_ | refine Have.mk (fun _h => ?_)); conv => whnf)
  refine CallN.pureA lright_body (lright_spec m hm hs ) ?_
  conv => whnf
  repeat' ((first | refine Need.auto ?_ | refine Have.mk (fun _h => ?_)); conv => whnf)
  refine RM.immW rfl ?_; (repeat' (first | exact WA.nil | refine WA.cons rfl ?_ ?_ | exact WB.nil | refine WB.cons ?_ ?_ | exact WT.nil | refine WT.cons ?_ ?_ | exact WH.nil | refine WH.cons ?_ ?_ | exact WR.nil | refine WR.cons rfl ?_ ?_ | refine WO.vr ?_ | exact WO.dead | exact WO.mpS | refine WO.mpA ?_ | exact WO.arrPA (fun i j => plainRow _ _ _) | refine WO.arrA ?_ | exact WS.u | refine WS.c ?_ | refine WS.a ?_ | refine WS.t ?_ | exact WL.nil | refine WL.cons ?_ ?_ | exact WTL.nil | refine WTL.consC ?_ ?_ | refine WTL.consL ?_ ?_ | exact WC.nils | exact WC.nil rfl | exact WC.nilp | refine WC.fzA | exact WC.ptr rfl (Nat.le_of_ble_eq_true rfl) | exact WC.mpr rfl (Nat.le_of_ble_eq_true rfl) | refine WC.slA | refine WC.intA | refine WC.int ?_ | refine WC.boolA | refine WC.bool ?_ | refine WC.strA | refine WC.str ?_ | exact WC.imm rfl))
theorem l2pvalid_body : HasBody Tryz.prog 193 := ⟨⟨Tryz.f193, Tryz.func193, rfl, by kernel_rfl⟩⟩
end Go.Proofs
end

section
open Go Go.Am
namespace Go.Proofs
set_option maxRecDepth 20000
def minTo (l : List Int) : Nat → Int
  | 0 => l.getD 0 default
  | k + 1 => min (minTo l k) (l.getD (k + 1) default)
def maxTo (l : List Int) : Nat → Int
  | 0 => l.getD 0 default
  | k + 1 => max (maxTo l k) (l.getD (k + 1) default)
theorem minTo_le {l : List Int} {c : Int} : ∀ {k : Nat}, c ≤ minTo l k ↔ ∀ i, i ≤ k → c ≤ l.getD i default
  | 0 => by
    simp only [minTo]
    exact ⟨fun h i hi => by rw [show i = 0 by omega]; exact h, fun h => h 0 (Nat.le_refl _)⟩
  | k + 1 => by
    have ih := minTo_le (l := l) (c := c) (k := k)
    simp only [minTo]
    constructor
    · intro h i hi
      by_cases e : i = k + 1
      · subst e; omega
      · exact ih.1 (by omega) i (by omega)
    · intro h
      have h1 := ih.2 fun i hi => h i (by omega)
      have h2 := h (k + 1) (Nat.le_refl _)
      omega
theorem maxTo_le {l : List Int} {c : Int} : ∀ {k : Nat}, maxTo l k ≤ c ↔ ∀ i, i ≤ k → l.getD i default ≤ c
  | 0 => by
    simp only [maxTo]
    exact ⟨fun h i hi => by rw [show i = 0 by omega]; exact h, fun h => h 0 (Nat.le_refl _)⟩
  | k + 1 => by
    have ih := maxTo_le (l := l) (c := c) (k := k)
    simp only [maxTo]
    constructor
    · intro h i hi
      by_cases e : i = k + 1
      · subst e; omega
      · exact ih.1 (by omega) i (by omega)
    · intro h
      have h1 := ih.2 fun i hi => h i (by omega)
      have h2 := h (k + 1) (Nat.le_refl _)
      omega
theorem minI_spec (l : List Int) (h1 : 1 ≤ l.length) (h2 : l.length ≤ 1000000) : PSpec Tryz.prog 227 [.c (intsC l)] (.c (.int .i64 (minTo l (l.length - 1)))) := by
  refine PSpec.rm ?_
  refine CSpec.of_vc hΓ Tryz.func227 rfl 25 0 [.tmp 2] Tryz.ntmps227 rfl (by rw [Tryz.results227]) rfl ?_
  conv => whnf
  repeat' ((first | refine Need.auto ?_ | refine Have.mk (fun _h => ?_)); conv => whnf)
  refine Br.no (decide_eq_false (by omega)) ?_
  conv => whnf
  repeat' ((first | refine Need.auto ?_ | refine Have.mk (fun _h => ?_)); conv => whnf)
  refine Lp.mkK hΓ (ι := Nat) [0] (fun k => [(4, .c (.int .i64 (k + 1 : Nat))), (3, .c (.int .i64 (minTo l k)))]) (fun _ => []) (fun k => k + 1 ≤ l.length) (fun k => l.length - k) 0 (by omega) ?_ ?_
  · refine Mv.mkW ?_ ?_ (Nat.le_of_ble_eq_true rfl) <;> (repeat' (first | exact WA.nil | refine WA.cons rfl ?_ ?_ | exact WB.nil | refine WB.cons ?_ ?_ | exact WT.nil | refine WT.cons ?_ ?_ | exact WH.nil | refine WH.cons ?_ ?_ | exact WR.nil | refine WR.cons rfl ?_ ?_ | refine WO.vr ?_ | exact WO.dead | exact WO.mpS | refine WO.mpA ?_ | exact WO.arrPA (fun i j => plainRow _ _ _) | refine WO.arrA ?_ | exact WS.u | refine WS.c ?_ | refine WS.a ?_ | refine WS.t ?_ | exact WL.nil | refine WL.cons ?_ ?_ | exact WTL.nil | refine WTL.consC ?_ ?_ | refine WTL.consL ?_ ?_ | exact WC.nils | exact WC.nil rfl | exact WC.nilp | refine WC.fzA | exact WC.ptr rfl (Nat.le_of_ble_eq_true rfl) | exact WC.mpr rfl (Nat.le_of_ble_eq_true rfl) | refine WC.slA | refine WC.intA | refine WC.int ?_ | refine WC.boolA | refine WC.bool ?_ | refine WC.strA | refine WC.str ?_ | exact WC.imm rfl))
  · intro k hk
    conv => whnf
    repeat' ((first | refine Need.auto ?_ | refine Have.mk (fun _h => ?_)); conv => whnf)
    (first | refine Br.lt (fun h => ?_) (fun h => ?_) | refine Br.le (fun h => ?_) (fun h => ?_) | refine Br.gt (fun h => ?_) (fun h => ?_) | refine Br.ge (fun h => ?_) (fun h => ?_) | refine Br.eq (fun h => ?_) (fun h => ?_) | refine Br.ne (fun h => ?_) (fun h => ?_) | refine Br.not (fun h => ?_) (fun h => ?_) | refine Br.mk (fun h => ?_) (fun h => ?_)) <;> (try simp only [Int.toNat_natCast] at h) <;> (conv => whnf)
    · repeat' ((first | refine Need.auto ?_ | refine Have.mk (fun _h => ?_)); conv => whnf)
      have w0 := wrap_id (↑(k + 1) + 1) (by omega) (by omega)
      refine ⟨k + 1, by omega, by omega, ?_⟩
      refine Mv.mkW ?_ ?_ (Nat.le_of_ble_eq_true rfl) <;> (repeat' (first | exact WA.nil | refine WA.cons rfl ?_ ?_ | exact WB.nil | refine WB.cons ?_ ?_ | exact WT.nil | refine WT.cons ?_ ?_ | exact WH.nil | refine WH.cons ?_ ?_ | exact WR.nil | refine WR.cons rfl ?_ ?_ | refine WO.vr ?_ | exact WO.dead | exact WO.mpS | refine WO.mpA ?_ | exact WO.arrPA (fun i j => plainRow _ _ _) | refine WO.arrA ?_ | exact WS.u | refine WS.c ?_ | refine WS.a ?_ | refine WS.t ?_ | exact WL.nil | refine WL.cons ?_ ?_ | exact WTL.nil | refine WTL.consC ?_ ?_ | refine WTL.consL ?_ ?_ | exact WC.nils | exact WC.nil rfl | exact WC.nilp | refine WC.fzA | exact WC.ptr rfl (Nat.le_of_ble_eq_true rfl) | exact WC.mpr rfl (Nat.le_of_ble_eq_true rfl) | refine WC.slA | refine WC.intA | refine WC.int ?_ | refine WC.boolA | refine WC.bool ?_ | refine WC.strA | refine WC.str ?_ | exact WC.imm rfl))
    · repeat' ((first | refine Need.auto ?_ | refine Have.mk (fun _h => ?_)); conv => whnf)
      rw [show l.length - 1 = k by omega]
      refine RM.immW rfl ?_; (repeat' (first | exact WA.nil | refine WA.cons rfl ?_ ?_ | exact WB.nil | refine WB.cons ?_ ?_ | exact WT.nil | refine WT.cons ?_ ?_ | exact WH.nil | refine WH.cons ?_ ?_ | exact WR.nil | refine WR.cons rfl ?_ ?_ | refine WO.vr ?_ | exact WO.dead | exact WO.mpS | refine WO.mpA ?_ | exact WO.arrPA (fun i j => plainRow _ _ _) | refine WO.arrA ?_ | exact WS.u | refine WS.c ?_ | refine WS.a ?_ | refine WS.t ?_ | exact WL.nil | refine WL.cons ?_ ?_ | exact WTL.nil | refine WTL.consC ?_ ?_ | refine WTL.consL ?_ ?_ | exact WC.nils | exact WC.nil rfl | exact WC.nilp | refine WC.fzA | exact WC.ptr rfl (Nat.le_of_ble_eq_true rfl) | exact WC.mpr rfl (Nat.le_of_ble_eq_true rfl) | refine WC.slA | refine WC.intA | refine WC.int ?_ | refine WC.boolA | refine WC.bool ?_ | refine WC.strA | refine WC.str ?_ | exact WC.imm rfl))
theorem minI_body : HasBody Tryz.prog 227 := ⟨⟨Tryz.f227, Tryz.func227, rfl, by kernel_rfl⟩⟩
theorem maxI_spec (l : List Int) (h1 : 1 ≤ l.length) (h2 : l.length ≤ 1000000) : PSpec Tryz.prog 133 [.c (intsC l)] (.c (.int .i64 (maxTo l (l.length - 1)))) := by
  refine PSpec.rm ?_
  refine CSpec.of_vc hΓ Tryz.func133 rfl 25 0 [.tmp 2] Tryz.ntmps133 rfl (by rw [Tryz.results133]) rfl ?_
  conv => whnf
  repeat' ((first | refine Need.auto ?_ | refine Have.mk (fun _h => ?_)); conv => whnf)
  refine Br.no (decide_eq_false (by omega)) ?_
  conv => whnf
  repeat' ((first | refine Need.auto ?_ | refine Have.mk (fun _h => ?_)); conv => whnf)
  refine Lp.mkK hΓ (ι := Nat) [0] (fun k => [(4, .c (.int .i64 (k + 1 : Nat))), (3, .c (.int .i64 (maxTo l k)))]) (fun _ => []) (fun k => k + 1 ≤ l.length) (fun k => l.length - k) 0 (by omega) ?_ ?_
  · refine Mv.mkW ?_ ?_ (Nat.le_of_ble_eq_true rfl) <;> (repeat' (first | exact WA.nil | refine WA.cons rfl ?_ ?_ | exact WB.nil | refine WB.cons ?_ ?_ | exact WT.nil | refine WT.cons ?_ ?_ | exact WH.nil | refine WH.cons ?_ ?_ | exact WR.nil | refine WR.cons rfl ?_ ?_ | refine WO.vr ?_ | exact WO.dead | exact WO.mpS | refine WO.mpA ?_ | exact WO.arrPA (fun i j => plainRow _ _ _) | refine WO.arrA ?_ | exact WS.u | refine WS.c ?_ | refine WS.a ?_ | refine WS.t ?_ | exact WL.nil | refine WL.cons ?_ ?_ | exact WTL.nil | refine WTL.consC ?_ ?_ | refine WTL.consL ?_ ?_ | exact WC.nils | exact WC.nil rfl | exact WC.nilp | refine WC.fzA | exact WC.ptr rfl (Nat.le_of_ble_eq_true rfl) | exact WC.mpr rfl (Nat.le_of_ble_eq_true rfl) | refine WC.slA | refine WC.intA | refine WC.int ?_ | refine WC.boolA | refine WC.bool ?_ | refine WC.strA | refine WC.str ?_ | exact WC.imm rfl))
  · intro k hk
    conv => whnf
    repeat' ((first | refine Need.auto ?_ | refine Have.mk (fun _h => ?_)); conv => whnf)
    (first | refine Br.lt (fun h => ?_) (fun h => ?_) | refine Br.le (fun h => ?_) (fun h => ?_) | refine Br.gt (fun h => ?_) (fun h => ?_) | refine Br.ge (fun h => ?_) (fun h => ?_) | refine Br.eq (fun h => ?_) (fun h => ?_) | refine Br.ne (fun h => ?_) (fun h => ?_) | refine Br.not (fun h => ?_) (fun h => ?_) | refine Br.mk (fun h => ?_) (fun h => ?_)) <;> (try simp only [Int.toNat_natCast] at h) <;> (conv => whnf)
    · repeat' ((first | refine Need.auto ?_ | refine Have.mk (fun _h => ?_)); conv => whnf)
      have w0 := wrap_id (↑(k + 1) + 1) (by omega) (by omega)
      refine ⟨k + 1, by omega, by omega, ?_⟩
      refine Mv.mkW ?_ ?_ (Nat.le_of_ble_eq_true rfl) <;> (repeat' (first | exact WA.nil | refine WA.cons rfl ?_ ?_ | exact WB.nil | refine WB.cons ?_ ?_ | exact WT.nil | refine WT.cons ?_ ?_ | exact WH.nil | refine WH.cons ?_ ?_ | exact WR.nil | refine WR.cons rfl ?_ ?_ | refine WO.vr ?_ | exact WO.dead | exact WO.mpS | refine WO.mpA ?_ | exact WO.arrPA (fun i j => plainRow _ _ _) | refine WO.arrA ?_ | exact WS.u | refine WS.c ?_ | refine WS.a ?_ | refine WS.t ?_ | exact WL.nil | refine WL.cons ?_ ?_ | exact WTL.nil | refine WTL.consC ?_ ?_ | refine WTL.consL ?_ ?_ | exact WC.nils | exact WC.nil rfl | exact WC.nilp | refine WC.fzA | exact WC.ptr rfl (Nat.le_of_ble_eq_true rfl) | exact WC.mpr rfl (Nat.le_of_ble_eq_true rfl) | refine WC.slA | refine WC.intA | refine WC.int ?_ | refine WC.boolA | refine WC.bool ?_ | refine WC.strA | refine WC.str ?_ | exact WC.imm rfl))
    · repeat' ((first | refine Need.auto ?_ | refine Have.mk (fun _h => ?_)); conv => whnf)
      rw [show l.length - 1 = k by omega]
      refine RM.immW rfl ?_; (repeat' (first | exact WA.nil | refine WA.cons rfl ?_ ?_ | exact WB.nil | refine WB.cons ?_ ?_ | exact WT.nil | refine WT.cons ?_ ?_ | exact WH.nil | refine WH.cons ?_ ?_ | exact WR.nil | refine WR.cons rfl ?_ ?_ | refine WO.vr ?_ | exact WO.dead | exact WO.mpS | refine WO.mpA ?_ | exact WO.arrPA (fun i j => plainRow _ _ _) | refine WO.arrA ?_ | exact WS.u | refine WS.c ?_ | refine WS.a ?_ | refine WS.t ?_ | exact WL.nil | refine WL.cons ?_ ?_ | exact WTL.nil | refine WTL.consC ?_ ?_ | refine WTL.consL ?_ ?_ | exact WC.nils | exact WC.nil rfl | exact WC.nilp | refine WC.fzA | exact WC.ptr rfl (Nat.le_of_ble_eq_true rfl) | exact WC.mpr rfl (Nat.le_of_ble_eq_true rfl) | refine WC.slA | refine WC.intA | refine WC.int ?_ | refine WC.boolA | refine WC.bool ?_ | refine WC.strA | refine WC.str ?_ | exact WC.imm rfl))
theorem maxI_body : HasBody Tryz.prog 133 := ⟨⟨Tryz.f133, Tryz.func133, rfl, by kernel_rfl⟩⟩
theorem countsOk_iff {a b : List Int} : countsOk a b = true ↔ (a.length = b.length ∧ 1 ≤ a.length ∧ a.length ≤ 32) ∧ 0 ≤ minTo a (a.length - 1) ∧ 0 ≤ minTo b (b.length - 1) ∧ maxTo a (a.length - 1) ≤ 1099511627776 ∧ maxTo b (b.length - 1) ≤ 1099511627776 := by
  unfold countsOk
  rw [Bool.and_eq_true, decide_eq_true_eq, decide_eq_true_eq, minTo_le, minTo_le, maxTo_le, maxTo_le]
  constructor
  · rintro ⟨h, h2⟩
    exact ⟨h, fun i hi => (h2 i (by omega)).1, fun i hi => (h2 i (by omega)).2.2.1, fun i hi => (h2 i (by omega)).2.1, fun i hi => (h2 i (by omega)).2.2.2⟩
  · rintro ⟨h, h1, h2, h3, h4⟩
    exact ⟨h, fun i hi => ⟨h1 i (by omega), h3 i (by omega), h2 i (by omega), h4 i (by omega)⟩⟩
theorem livevalid_spec (a b : List Int) (ha : a.length ≤ 1000000) (hb : b.length ≤ 1000000) : PSpec Tryz.prog 195 [.a [intsC a, intsC b]] (.c (.bool (countsOk a b))) := by
  refine PSpec.rm ?_
  refine CSpec.of_vc hΓ Tryz.func195 rfl 44 0 [.tmp 2] Tryz.ntmps195 rfl (by rw [Tryz.results195]) rfl ?_
  conv => whnf
  repeat' ((first | refine Need.auto ?_ | refine Have.mk (fun _h => ?_)); conv => whnf)
  by_cases h : a.length = b.length ∧ 1 ≤ a.length ∧ a.length ≤ 32
  · refine Br.no ?_ ?_
    · have h1 : ¬ (a.length : Int) < 1 := by omega
      have h2 : ¬ (a.length : Int) > 32 := by omega
      have h3 : ((a.length : Int) != (b.length : Int)) = false := by simp [h.1]
      rw [h3, decide_eq_false h1]; exact decide_eq_false h2
    conv => whnf
    repeat' ((first | refine Need.auto ?_ | refine Have.mk (fun _h => ?_)); conv => whnf)
    refine CallN.pureA minI_body (minI_spec a (by omega) (by omega) ) ?_
    conv => whnf
    repeat' ((first | refine Need.auto ?_ | refine Have.mk (fun _h => ?_)); conv => whnf)
    refine CallG.auto minI_body (fun _ => minI_spec b (by omega) (by omega) ) ?_
    conv => whnf
    repeat' ((first | refine Need.auto ?_ | refine Have.mk (fun _h => ?_)); conv => whnf)
    refine CallG.auto maxI_body (fun _ => maxI_spec a (by omega) (by omega) ) ?_
    conv => whnf
    repeat' ((first | refine Need.auto ?_ | refine Have.mk (fun _h => ?_)); conv => whnf)
    refine CallG.auto maxI_body (fun _ => maxI_spec b (by omega) (by omega) ) ?_
    conv => whnf
    repeat' ((first | refine Need.auto ?_ | refine Have.mk (fun _h => ?_)); conv => whnf)
    refine RM.immW rfl (WS.c (WC.bool ?_))
    rw [Bool.eq_iff_iff, countsOk_iff]
    simp only [Bool.cond_false_right, Bool.and_eq_true, decide_eq_true_eq]
    constructor
    · rintro ⟨⟨⟨h1, h2⟩, h3⟩, h4⟩; exact ⟨h, h1, h2, h3, h4⟩
    · rintro ⟨-, h1, h2, h3, h4⟩; exact ⟨⟨⟨h1, h2⟩, h3⟩, h4⟩
  · refine Br.yes ?_ ?_
    · by_cases h1 : (a.length : Int) = b.length
      · rw [show ((a.length : Int) != (b.length : Int)) = false by simp [h1]]
        by_cases h2 : (a.length : Int) < 1
        · rw [decide_eq_true h2]; rfl
        · rw [decide_eq_false h2]; exact decide_eq_true (by omega)
      · rw [show ((a.length : Int) != (b.length : Int)) = true by simpa using h1]; rfl
    conv => whnf
    repeat' ((first | refine Need.auto ?_ | refine Have.mk (fun _h => ?_)); conv => whnf)
    rw [bool_no (fun e => h (countsOk_iff.1 e).1 : ¬ countsOk a b = true)]
    refine RM.immW rfl ?_; (repeat' (first | exact WA.nil | refine WA.cons rfl ?_ ?_ | exact WB.nil | refine WB.cons ?_ ?_ | exact WT.nil | refine WT.cons ?_ ?_ | exact WH.nil | refine WH.cons ?_ ?_ | exact WR.nil | refine WR.cons rfl ?_ ?_ | refine WO.vr ?_ | exact WO.dead | exact WO.mpS | refine WO.mpA ?_ | exact WO.arrPA (fun i j => plainRow _ _ _) | refine WO.arrA ?_ | exact WS.u | refine WS.c ?_ | refine WS.a ?_ | refine WS.t ?_ | exact WL.nil | refine WL.cons ?_ ?_ | exact WTL.nil | refine WTL.consC ?_ ?_ | refine WTL.consL ?_ ?_ | exact WC.nils | exact WC.nil rfl | exact WC.nilp | refine WC.fzA | exact WC.ptr rfl (Nat.le_of_ble_eq_true rfl) | exact WC.mpr rfl (Nat.le_of_ble_eq_true rfl) | refine WC.slA | refine WC.intA | refine WC.int ?_ | refine WC.boolA | refine WC.bool ?_ | refine WC.strA | refine WC.str ?_ | exact WC.imm rfl))
theorem livevalid_body : HasBody Tryz.prog 195 := ⟨⟨Tryz.f195, Tryz.func195, rfl, by kernel_rfl⟩⟩
theorem locksOk_iff {a : List Int} : locksOk a = true ↔ (1 ≤ a.length ∧ a.length ≤ 8) ∧ -1 ≤ minTo a (a.length - 1) := by
  unfold locksOk
  rw [Bool.and_eq_true, decide_eq_true_eq, decide_eq_true_eq, minTo_le]
  exact ⟨fun ⟨h, h2⟩ => ⟨h, fun i hi => h2 i (by omega)⟩, fun ⟨h, h2⟩ => ⟨h, fun i hi => h2 i (by omega)⟩⟩
theorem locksvalid_spec (a : List Int) (ha : a.length ≤ 1000000) : PSpec Tryz.prog 196 [.a [intsC a]] (.c (.bool (locksOk a))) := by
  refine PSpec.rm ?_
  refine CSpec.of_vc hΓ Tryz.func196 rfl 19 0 [.tmp 2] Tryz.ntmps196 rfl (by rw [Tryz.results196]) rfl ?_
  conv => whnf
  repeat' ((first | refine Need.auto ?_ | refine Have.mk (fun _h => ?_)); conv => whnf)
  refine CallG.auto minI_body (fun hg => minI_spec a (by simp only [Bool.cond_false_right, Bool.and_eq_true, decide_eq_true_eq] at hg; omega) ha) ?_
  conv => whnf
  repeat' ((first | refine Need.auto ?_ | refine Have.mk (fun _h => ?_)); conv => whnf)
  refine RM.immW rfl (WS.c (WC.bool ?_))
  rw [Bool.eq_iff_iff, locksOk_iff]
  simp only [Bool.cond_false_right, Bool.and_eq_true, decide_eq_true_eq]
  constructor
  · rintro ⟨h1, h2⟩; exact ⟨by omega, h2⟩
  · rintro ⟨h1, h2⟩; exact ⟨by omega, h2⟩
theorem locksvalid_body : HasBody Tryz.prog 196 := ⟨⟨Tryz.f196, Tryz.func196, rfl, by kernel_rfl⟩⟩
theorem cmd_spec (c : Conf) (r : Req) : PSpec Tryz.prog 61 [.a c.cells, .a [.int .i64 r.kind, .int .i64 r.block, .str r.data]] (.c (.int .i64 (cmdE c r))) := by
  refine PSpec.rm ?_
  have fin : ∀ n, cmdE c r = n → RM 0 (.c (.int .i64 n)) [.vr c.cells, .vr [.int .i64 r.kind, .int .i64 r.block, .str r.data]] (.c (.int .i64 (cmdE c r))) [] := fun n h => by
    rw [h]; refine RM.immW rfl ?_; (repeat' (first | exact WA.nil | refine WA.cons rfl ?_ ?_ | exact WB.nil | refine WB.cons ?_ ?_ | exact WT.nil | refine WT.cons ?_ ?_ | exact WH.nil | refine WH.cons ?_ ?_ | exact WR.nil | refine WR.cons rfl ?_ ?_ | refine WO.vr ?_ | exact WO.dead | exact WO.mpS | refine WO.mpA ?_ | exact WO.arrPA (fun i j => plainRow _ _ _) | refine WO.arrA ?_ | exact WS.u | refine WS.c ?_ | refine WS.a ?_ | refine WS.t ?_ | exact WL.nil | refine WL.cons ?_ ?_ | exact WTL.nil | refine WTL.consC ?_ ?_ | refine WTL.consL ?_ ?_ | exact WC.nils | exact WC.nil rfl | exact WC.nilp | refine WC.fzA | exact WC.ptr rfl (Nat.le_of_ble_eq_true rfl) | exact WC.mpr rfl (Nat.le_of_ble_eq_true rfl) | refine WC.slA | refine WC.intA | refine WC.int ?_ | refine WC.boolA | refine WC.bool ?_ | refine WC.strA | refine WC.str ?_ | exact WC.imm rfl))
  refine CSpec.of_vc hΓ Tryz.func61 rfl 35 0 [.tmp 4] Tryz.ntmps61 rfl (by rw [Tryz.results61]) rfl ?_
  conv => whnf
  repeat' ((first | refine Need.auto ?_ | refine Have.mk (fun _h => ?_)); conv => whnf)
  by_cases hk : r.kind = 1 ∨ r.kind = 2 ∨ r.kind = 3
  · by_cases hb : r.block < 0 ∨ r.block ≥ c.blocks
    · have hc : (bif decide (r.block < 0) then true else decide (r.block ≥ c.blocks)) = true := by
        rcases hb with hb | hb
        · rw [decide_eq_true hb]; rfl
        · rw [decide_eq_true hb]; cases decide (r.block < 0) <;> rfl
      rcases hk with hk | hk | hk
      · refine Br.yes (by simp [hk]) ?_
        conv => whnf
        repeat' ((first | refine Need.auto ?_ | refine Have.mk (fun _h => ?_)); conv => whnf)
        refine Br.yes (by simp [hk]) ?_
        conv => whnf
        repeat' ((first | refine Need.auto ?_ | refine Have.mk (fun _h => ?_)); conv => whnf)
        refine Br.yes hc ?_
        conv => whnf
        repeat' ((first | refine Need.auto ?_ | refine Have.mk (fun _h => ?_)); conv => whnf)
        exact fin _ (by unfold cmdE; (repeat' split) <;> omega)
      · refine Br.no (by simp [hk]) ?_
        conv => whnf
        repeat' ((first | refine Need.auto ?_ | refine Have.mk (fun _h => ?_)); conv => whnf)
        refine Br.yes (by simp [hk]) ?_
        conv => whnf
        repeat' ((first | refine Need.auto ?_ | refine Have.mk (fun _h => ?_)); conv => whnf)
        refine Br.yes (by simp [hk]) ?_
        conv => whnf
        repeat' ((first | refine Need.auto ?_ | refine Have.mk (fun _h => ?_)); conv => whnf)
        refine Br.yes hc ?_
        conv => whnf
        repeat' ((first | refine Need.auto ?_ | refine Have.mk (fun _h => ?_)); conv => whnf)
        exact fin _ (by unfold cmdE; (repeat' split) <;> omega)
      · refine Br.no (by simp [hk]) ?_
        conv => whnf
        repeat' ((first | refine Need.auto ?_ | refine Have.mk (fun _h => ?_)); conv => whnf)
        refine Br.no (by simp [hk]) ?_
        conv => whnf
        repeat' ((first | refine Need.auto ?_ | refine Have.mk (fun _h => ?_)); conv => whnf)
        refine Br.yes (by simp [hk]) ?_
        conv => whnf
        repeat' ((first | refine Need.auto ?_ | refine Have.mk (fun _h => ?_)); conv => whnf)
        refine Br.yes hc ?_
        conv => whnf
        repeat' ((first | refine Need.auto ?_ | refine Have.mk (fun _h => ?_)); conv => whnf)
        exact fin _ (by unfold cmdE; (repeat' split) <;> omega)
    · have hc : (bif decide (r.block < 0) then true else decide (r.block ≥ c.blocks)) = false := by
        rw [decide_eq_false (by omega : ¬ r.block < 0)]; exact decide_eq_false (by omega)
      rcases hk with hk | hk | hk
      · refine Br.yes (by simp [hk]) ?_
        conv => whnf
        repeat' ((first | refine Need.auto ?_ | refine Have.mk (fun _h => ?_)); conv => whnf)
        refine Br.yes (by simp [hk]) ?_
        conv => whnf
        repeat' ((first | refine Need.auto ?_ | refine Have.mk (fun _h => ?_)); conv => whnf)
        refine Br.no hc ?_
        conv => whnf
        repeat' ((first | refine Need.auto ?_ | refine Have.mk (fun _h => ?_)); conv => whnf)
        (first | refine Br.lt (fun h5 => ?_) (fun h5 => ?_) | refine Br.le (fun h5 => ?_) (fun h5 => ?_) | refine Br.gt (fun h5 => ?_) (fun h5 => ?_) | refine Br.ge (fun h5 => ?_) (fun h5 => ?_) | refine Br.eq (fun h5 => ?_) (fun h5 => ?_) | refine Br.ne (fun h5 => ?_) (fun h5 => ?_) | refine Br.not (fun h5 => ?_) (fun h5 => ?_) | (refine Br.mk (fun h5 => ?_) (fun h5 => ?_) <;> simp [-List.length_eq_zero_iff, -List.getD_eq_getElem?_getD] at h5)) <;> (try simp only [Int.toNat_natCast] at h5) <;> (conv => whnf)
        · repeat' ((first | refine Need.auto ?_ | refine Have.mk (fun _h => ?_)); conv => whnf)
          (first | refine Br.lt (fun h6 => ?_) (fun h6 => ?_) | refine Br.le (fun h6 => ?_) (fun h6 => ?_) | refine Br.gt (fun h6 => ?_) (fun h6 => ?_) | refine Br.ge (fun h6 => ?_) (fun h6 => ?_) | refine Br.eq (fun h6 => ?_) (fun h6 => ?_) | refine Br.ne (fun h6 => ?_) (fun h6 => ?_) | refine Br.not (fun h6 => ?_) (fun h6 => ?_) | (refine Br.mk (fun h6 => ?_) (fun h6 => ?_) <;> simp [-List.length_eq_zero_iff, -List.getD_eq_getElem?_getD] at h6)) <;> (try simp only [Int.toNat_natCast] at h6) <;> (conv => whnf)
          · repeat' ((first | refine Need.auto ?_ | refine Have.mk (fun _h => ?_)); conv => whnf)
            exact fin _ (by unfold cmdE; (repeat' split) <;> omega)
          · repeat' ((first | refine Need.auto ?_ | refine Have.mk (fun _h => ?_)); conv => whnf)
            exact fin _ (by unfold cmdE; (repeat' split) <;> omega)
        · repeat' ((first | refine Need.auto ?_ | refine Have.mk (fun _h => ?_)); conv => whnf)
          (first | refine Br.lt (fun h6 => ?_) (fun h6 => ?_) | refine Br.le (fun h6 => ?_) (fun h6 => ?_) | refine Br.gt (fun h6 => ?_) (fun h6 => ?_) | refine Br.ge (fun h6 => ?_) (fun h6 => ?_) | refine Br.eq (fun h6 => ?_) (fun h6 => ?_) | refine Br.ne (fun h6 => ?_) (fun h6 => ?_) | refine Br.not (fun h6 => ?_) (fun h6 => ?_) | (refine Br.mk (fun h6 => ?_) (fun h6 => ?_) <;> simp [-List.length_eq_zero_iff, -List.getD_eq_getElem?_getD] at h6)) <;> (try simp only [Int.toNat_natCast] at h6) <;> (conv => whnf)
          · repeat' ((first | refine Need.auto ?_ | refine Have.mk (fun _h => ?_)); conv => whnf)
            exact fin _ (by unfold cmdE; (repeat' split) <;> omega)
          · repeat' ((first | refine Need.auto ?_ | refine Have.mk (fun _h => ?_)); conv => whnf)
            exact fin _ (by unfold cmdE; (repeat' split) <;> omega)
      · refine Br.no (by simp [hk]) ?_
        conv => whnf
        repeat' ((first | refine Need.auto ?_ | refine Have.mk (fun _h => ?_)); conv => whnf)
        refine Br.yes (by simp [hk]) ?_
        conv => whnf
        repeat' ((first | refine Need.auto ?_ | refine Have.mk (fun _h => ?_)); conv => whnf)
        refine Br.yes (by simp [hk]) ?_
        conv => whnf
        repeat' ((first | refine Need.auto ?_ | refine Have.mk (fun _h => ?_)); conv => whnf)
        refine Br.no hc ?_
        conv => whnf
        repeat' ((first | refine Need.auto ?_ | refine Have.mk (fun _h => ?_)); conv => whnf)
        (first | refine Br.lt (fun h5 => ?_) (fun h5 => ?_) | refine Br.le (fun h5 => ?_) (fun h5 => ?_) | refine Br.gt (fun h5 => ?_) (fun h5 => ?_) | refine Br.ge (fun h5 => ?_) (fun h5 => ?_) | refine Br.eq (fun h5 => ?_) (fun h5 => ?_) | refine Br.ne (fun h5 => ?_) (fun h5 => ?_) | refine Br.not (fun h5 => ?_) (fun h5 => ?_) | (refine Br.mk (fun h5 => ?_) (fun h5 => ?_) <;> simp [-List.length_eq_zero_iff, -List.getD_eq_getElem?_getD] at h5)) <;> (try simp only [Int.toNat_natCast] at h5) <;> (conv => whnf)
        · repeat' ((first | refine Need.auto ?_ | refine Have.mk (fun _h => ?_)); conv => whnf)
          (first | refine Br.lt (fun h6 => ?_) (fun h6 => ?_) | refine Br.le (fun h6 => ?_) (fun h6 => ?_) | refine Br.gt (fun h6 => ?_) (fun h6 => ?_) | refine Br.ge (fun h6 => ?_) (fun h6 => ?_) | refine Br.eq (fun h6 => ?_) (fun h6 => ?_) | refine Br.ne (fun h6 => ?_) (fun h6 => ?_) | refine Br.not (fun h6 => ?_) (fun h6 => ?_) | (refine Br.mk (fun h6 => ?_) (fun h6 => ?_) <;> simp [-List.length_eq_zero_iff, -List.getD_eq_getElem?_getD] at h6)) <;> (try simp only [Int.toNat_natCast] at h6) <;> (conv => whnf)
          · repeat' ((first | refine Need.auto ?_ | refine Have.mk (fun _h => ?_)); conv => whnf)
            exact fin _ (by unfold cmdE; (repeat' split) <;> omega)
          · repeat' ((first | refine Need.auto ?_ | refine Have.mk (fun _h => ?_)); conv => whnf)
            exact fin _ (by unfold cmdE; (repeat' split) <;> omega)
        · repeat' ((first | refine Need.auto ?_ | refine Have.mk (fun _h => ?_)); conv => whnf)
          (first | refine Br.lt (fun h6 => ?_) (fun h6 => ?_) | refine Br.le (fun h6 => ?_) (fun h6 => ?_) | refine Br.gt (fun h6 => ?_) (fun h6 => ?_) | refine Br.ge (fun h6 => ?_) (fun h6 => ?_) | refine Br.eq (fun h6 => ?_) (fun h6 => ?_) | refine Br.ne (fun h6 => ?_) (fun h6 => ?_) | refine Br.not (fun h6 => ?_) (fun h6 => ?_) | (refine Br.mk (fun h6 => ?_) (fun h6 => ?_) <;> simp [-List.length_eq_zero_iff, -List.getD_eq_getElem?_getD] at h6)) <;> (try simp only [Int.toNat_natCast] at h6) <;> (conv => whnf)
          · repeat' ((first | refine Need.auto ?_ | refine Have.mk (fun _h => ?_)); conv => whnf)
            exact fin _ (by unfold cmdE; (repeat' split) <;> omega)
          · repeat' ((first | refine Need.auto ?_ | refine Have.mk (fun _h => ?_)); conv => whnf)
            exact fin _ (by unfold cmdE; (repeat' split) <;> omega)
      · refine Br.no (by simp [hk]) ?_
        conv => whnf
        repeat' ((first | refine Need.auto ?_ | refine Have.mk (fun _h => ?_)); conv => whnf)
        refine Br.no (by simp [hk]) ?_
        conv => whnf
        repeat' ((first | refine Need.auto ?_ | refine Have.mk (fun _h => ?_)); conv => whnf)
        refine Br.yes (by simp [hk]) ?_
        conv => whnf
        repeat' ((first | refine Need.auto ?_ | refine Have.mk (fun _h => ?_)); conv => whnf)
        refine Br.no hc ?_
        conv => whnf
        repeat' ((first | refine Need.auto ?_ | refine Have.mk (fun _h => ?_)); conv => whnf)
        (first | refine Br.lt (fun h5 => ?_) (fun h5 => ?_) | refine Br.le (fun h5 => ?_) (fun h5 => ?_) | refine Br.gt (fun h5 => ?_) (fun h5 => ?_) | refine Br.ge (fun h5 => ?_) (fun h5 => ?_) | refine Br.eq (fun h5 => ?_) (fun h5 => ?_) | refine Br.ne (fun h5 => ?_) (fun h5 => ?_) | refine Br.not (fun h5 => ?_) (fun h5 => ?_) | (refine Br.mk (fun h5 => ?_) (fun h5 => ?_) <;> simp [-List.length_eq_zero_iff, -List.getD_eq_getElem?_getD] at h5)) <;> (try simp only [Int.toNat_natCast] at h5) <;> (conv => whnf)
        · repeat' ((first | refine Need.auto ?_ | refine Have.mk (fun _h => ?_)); conv => whnf)
          (first | refine Br.lt (fun h6 => ?_) (fun h6 => ?_) | refine Br.le (fun h6 => ?_) (fun h6 => ?_) | refine Br.gt (fun h6 => ?_) (fun h6 => ?_) | refine Br.ge (fun h6 => ?_) (fun h6 => ?_) | refine Br.eq (fun h6 => ?_) (fun h6 => ?_) | refine Br.ne (fun h6 => ?_) (fun h6 => ?_) | refine Br.not (fun h6 => ?_) (fun h6 => ?_) | (refine Br.mk (fun h6 => ?_) (fun h6 => ?_) <;> simp [-List.length_eq_zero_iff, -List.getD_eq_getElem?_getD] at h6)) <;> (try simp only [Int.toNat_natCast] at h6) <;> (conv => whnf)
          · repeat' ((first | refine Need.auto ?_ | refine Have.mk (fun _h => ?_)); conv => whnf)
            exact fin _ (by unfold cmdE; (repeat' split) <;> omega)
          · repeat' ((first | refine Need.auto ?_ | refine Have.mk (fun _h => ?_)); conv => whnf)
            exact fin _ (by unfold cmdE; (repeat' split) <;> omega)
        · repeat' ((first | refine Need.auto ?_ | refine Have.mk (fun _h => ?_)); conv => whnf)
          (first | refine Br.lt (fun h6 => ?_) (fun h6 => ?_) | refine Br.le (fun h6 => ?_) (fun h6 => ?_) | refine Br.gt (fun h6 => ?_) (fun h6 => ?_) | refine Br.ge (fun h6 => ?_) (fun h6 => ?_) | refine Br.eq (fun h6 => ?_) (fun h6 => ?_) | refine Br.ne (fun h6 => ?_) (fun h6 => ?_) | refine Br.not (fun h6 => ?_) (fun h6 => ?_) | (refine Br.mk (fun h6 => ?_) (fun h6 => ?_) <;> simp [-List.length_eq_zero_iff, -List.getD_eq_getElem?_getD] at h6)) <;> (try simp only [Int.toNat_natCast] at h6) <;> (conv => whnf)
          · repeat' ((first | refine Need.auto ?_ | refine Have.mk (fun _h => ?_)); conv => whnf)
            exact fin _ (by unfold cmdE; (repeat' split) <;> omega)
          · repeat' ((first | refine Need.auto ?_ | refine Have.mk (fun _h => ?_)); conv => whnf)
            exact fin _ (by unfold cmdE; (repeat' split) <;> omega)
  · have h1 : ¬ r.kind = 1 := by omega
    have h2 : ¬ r.kind = 2 := by omega
    have h3 : ¬ r.kind = 3 := by omega
    refine Br.no (by simp [h1]) ?_
    conv => whnf
    repeat' ((first | refine Need.auto ?_ | refine Have.mk (fun _h => ?_)); conv => whnf)
    refine Br.no (by simp [h2]) ?_
    conv => whnf
    repeat' ((first | refine Need.auto ?_ | refine Have.mk (fun _h => ?_)); conv => whnf)
    refine Br.no (by simp [h3]) ?_
    conv => whnf
    repeat' ((first | refine Need.auto ?_ | refine Have.mk (fun _h => ?_)); conv => whnf)
    (first | refine Br.lt (fun h4 => ?_) (fun h4 => ?_) | refine Br.le (fun h4 => ?_) (fun h4 => ?_) | refine Br.gt (fun h4 => ?_) (fun h4 => ?_) | refine Br.ge (fun h4 => ?_) (fun h4 => ?_) | refine Br.eq (fun h4 => ?_) (fun h4 => ?_) | refine Br.ne (fun h4 => ?_) (fun h4 => ?_) | refine Br.not (fun h4 => ?_) (fun h4 => ?_) | (refine Br.mk (fun h4 => ?_) (fun h4 => ?_) <;> simp [-List.length_eq_zero_iff, -List.getD_eq_getElem?_getD] at h4)) <;> (try simp only [Int.toNat_natCast] at h4) <;> (conv => whnf)
    · repeat' ((first | refine Need.auto ?_ | refine Have.mk (fun _h => ?_)); conv => whnf)
      (first | refine Br.lt (fun h7 => ?_) (fun h7 => ?_) | refine Br.le (fun h7 => ?_) (fun h7 => ?_) | refine Br.gt (fun h7 => ?_) (fun h7 => ?_) | refine Br.ge (fun h7 => ?_) (fun h7 => ?_) | refine Br.eq (fun h7 => ?_) (fun h7 => ?_) | refine Br.ne (fun h7 => ?_) (fun h7 => ?_) | refine Br.not (fun h7 => ?_) (fun h7 => ?_) | (refine Br.mk (fun h7 => ?_) (fun h7 => ?_) <;> simp [-List.length_eq_zero_iff, -List.getD_eq_getElem?_getD] at h7)) <;> (try simp only [Int.toNat_natCast] at h7) <;> (conv => whnf)
      · repeat' ((first | refine Need.auto ?_ | refine Have.mk (fun _h => ?_)); conv => whnf)
        exact fin _ (by unfold cmdE; (repeat' split) <;> omega)
      · repeat' ((first | refine Need.auto ?_ | refine Have.mk (fun _h => ?_)); conv => whnf)
        (first | refine Br.lt (fun h5 => ?_) (fun h5 => ?_) | refine Br.le (fun h5 => ?_) (fun h5 => ?_) | refine Br.gt (fun h5 => ?_) (fun h5 => ?_) | refine Br.ge (fun h5 => ?_) (fun h5 => ?_) | refine Br.eq (fun h5 => ?_) (fun h5 => ?_) | refine Br.ne (fun h5 => ?_) (fun h5 => ?_) | refine Br.not (fun h5 => ?_) (fun h5 => ?_) | (refine Br.mk (fun h5 => ?_) (fun h5 => ?_) <;> simp [-List.length_eq_zero_iff, -List.getD_eq_getElem?_getD] at h5)) <;> (try simp only [Int.toNat_natCast] at h5) <;> (conv => whnf)
        · repeat' ((first | refine Need.auto ?_ | refine Have.mk (fun _h => ?_)); conv => whnf)
          (first | refine Br.lt (fun h6 => ?_) (fun h6 => ?_) | refine Br.le (fun h6 => ?_) (fun h6 => ?_) | refine Br.gt (fun h6 => ?_) (fun h6 => ?_) | refine Br.ge (fun h6 => ?_) (fun h6 => ?_) | refine Br.eq (fun h6 => ?_) (fun h6 => ?_) | refine Br.ne (fun h6 => ?_) (fun h6 => ?_) | refine Br.not (fun h6 => ?_) (fun h6 => ?_) | (refine Br.mk (fun h6 => ?_) (fun h6 => ?_) <;> simp [-List.length_eq_zero_iff, -List.getD_eq_getElem?_getD] at h6)) <;> (try simp only [Int.toNat_natCast] at h6) <;> (conv => whnf)
          · repeat' ((first | refine Need.auto ?_ | refine Have.mk (fun _h => ?_)); conv => whnf)
            exact fin _ (by unfold cmdE; (repeat' split) <;> omega)
          · repeat' ((first | refine Need.auto ?_ | refine Have.mk (fun _h => ?_)); conv => whnf)
            exact fin _ (by unfold cmdE; (repeat' split) <;> omega)
        · repeat' ((first | refine Need.auto ?_ | refine Have.mk (fun _h => ?_)); conv => whnf)
          (first | refine Br.lt (fun h6 => ?_) (fun h6 => ?_) | refine Br.le (fun h6 => ?_) (fun h6 => ?_) | refine Br.gt (fun h6 => ?_) (fun h6 => ?_) | refine Br.ge (fun h6 => ?_) (fun h6 => ?_) | refine Br.eq (fun h6 => ?_) (fun h6 => ?_) | refine Br.ne (fun h6 => ?_) (fun h6 => ?_) | refine Br.not (fun h6 => ?_) (fun h6 => ?_) | (refine Br.mk (fun h6 => ?_) (fun h6 => ?_) <;> simp [-List.length_eq_zero_iff, -List.getD_eq_getElem?_getD] at h6)) <;> (try simp only [Int.toNat_natCast] at h6) <;> (conv => whnf)
          · repeat' ((first | refine Need.auto ?_ | refine Have.mk (fun _h => ?_)); conv => whnf)
            exact fin _ (by unfold cmdE; (repeat' split) <;> omega)
          · repeat' ((first | refine Need.auto ?_ | refine Have.mk (fun _h => ?_)); conv => whnf)
            exact fin _ (by unfold cmdE; (repeat' split) <;> omega)
    · repeat' ((first | refine Need.auto ?_ | refine Have.mk (fun _h => ?_)); conv => whnf)
      exact fin _ (by unfold cmdE; (repeat' split) <;> omega)
theorem cmd_body : HasBody Tryz.prog 61 := ⟨⟨Tryz.f61, Tryz.func61, rfl, by kernel_rfl⟩⟩
end Go.Proofs
end

section
open Go Go.Am
namespace Go.Proofs
set_option maxRecDepth 20000
theorem wrkOk_iff {c : Conf} {w : Wrk} : wrkOk c w = true ↔ (w.state = 0 ∨ cmdE c w.req = 0 ∧ (w.req.kind = 1 → 1 ≤ w.state ∧ w.state ≤ 4) ∧ (w.req.kind = 4 → w.state = 10 ∨ w.state = 11) ∧ (w.req.kind ≠ 1 → w.req.kind ≠ 4 → 5 ≤ w.state ∧ w.state ≤ 9)) := by
  unfold wrkOk; rw [decide_eq_true_eq]
theorem cmdE_kind {c : Conf} {r : Req} (h : cmdE c r = 0) : 1 ≤ r.kind ∧ r.kind ≤ 4 := by
  unfold cmdE at h
  split at h
  · omega
  · omega
theorem wright_spec (s : St) (w : Wrk) : PSpec Tryz.prog 140 [.a s.cells, .a w.cells] (.c (.bool (wrkOk s.cfg w))) := by
  refine PSpec.rm ?_
  refine CSpec.of_vc hΓ Tryz.func140 rfl 63 0 [.tmp 4] Tryz.ntmps140 rfl (by rw [Tryz.results140]) rfl ?_
  conv => whnf
  repeat' ((first | refine Need.auto ?_ | refine Have.mk (fun _h => ?_)); conv => whnf)
  (first | refine Br.lt (fun h => ?_) (fun h => ?_) | refine Br.le (fun h => ?_) (fun h => ?_) | refine Br.gt (fun h => ?_) (fun h => ?_) | refine Br.ge (fun h => ?_) (fun h => ?_) | refine Br.eq (fun h => ?_) (fun h => ?_) | refine Br.ne (fun h => ?_) (fun h => ?_) | refine Br.not (fun h => ?_) (fun h => ?_) | (refine Br.mk (fun h => ?_) (fun h => ?_) <;> simp [-List.length_eq_zero_iff, -List.getD_eq_getElem?_getD] at h)) <;> (try simp only [Int.toNat_natCast] at h) <;> (conv => whnf)
  · repeat' ((first | refine Need.auto ?_ | refine Have.mk (fun _h => ?_)); conv => whnf)
    rw [wrkOk_iff.2 (Or.inl h)]
    refine RM.immW rfl ?_; (repeat' (first | exact WA.nil | refine WA.cons rfl ?_ ?_ | exact WB.nil | refine WB.cons ?_ ?_ | exact WT.nil | refine WT.cons ?_ ?_ | exact WH.nil | refine WH.cons ?_ ?_ | exact WR.nil | refine WR.cons rfl ?_ ?_ | refine WO.vr ?_ | exact WO.dead | exact WO.mpS | refine WO.mpA ?_ | exact WO.arrPA (fun i j => plainRow _ _ _) | refine WO.arrA ?_ | exact WS.u | refine WS.c ?_ | refine WS.a ?_ | refine WS.t ?_ | exact WL.nil | refine WL.cons ?_ ?_ | exact WTL.nil | refine WTL.consC ?_ ?_ | refine WTL.consL ?_ ?_ | exact WC.nils | exact WC.nil rfl | exact WC.nilp | refine WC.fzA | exact WC.ptr rfl (Nat.le_of_ble_eq_true rfl) | exact WC.mpr rfl (Nat.le_of_ble_eq_true rfl) | refine WC.slA | refine WC.intA | refine WC.int ?_ | refine WC.boolA | refine WC.bool ?_ | refine WC.strA | refine WC.str ?_ | exact WC.imm rfl))
  · repeat' ((first | refine Need.auto ?_ | refine Have.mk (fun _h => ?_)); conv => whnf)
    (first | refine Br.lt (fun h1 => ?_) (fun h1 => ?_) | refine Br.le (fun h1 => ?_) (fun h1 => ?_) | refine Br.gt (fun h1 => ?_) (fun h1 => ?_) | refine Br.ge (fun h1 => ?_) (fun h1 => ?_) | refine Br.eq (fun h1 => ?_) (fun h1 => ?_) | refine Br.ne (fun h1 => ?_) (fun h1 => ?_) | refine Br.not (fun h1 => ?_) (fun h1 => ?_) | (refine Br.mk (fun h1 => ?_) (fun h1 => ?_) <;> simp [-List.length_eq_zero_iff, -List.getD_eq_getElem?_getD] at h1)) <;> (try simp only [Int.toNat_natCast] at h1) <;> (conv => whnf)
    · repeat' ((first | refine Need.auto ?_ | refine Have.mk (fun _h => ?_)); conv => whnf)
      refine CallN.pureA cmd_body (cmd_spec s.cfg w.req ) ?_
      conv => whnf
      repeat' ((first | refine Need.auto ?_ | refine Have.mk (fun _h => ?_)); conv => whnf)
      refine RM.immW rfl (WS.c (WC.bool ?_))
      rw [Bool.eq_iff_iff, wrkOk_iff]
      have hk := @cmdE_kind s.cfg w.req
      generalize cmdE s.cfg w.req = e at hk ⊢
      generalize w.req.kind = kd at hk ⊢
      by_cases he : e = 0
      · have hk := hk he
        by_cases k1 : kd = 1 <;> by_cases k2 : kd = 2 <;> by_cases k3 : kd = 3 <;> by_cases k4 : kd = 4 <;> simp [he, k1, k2, k3, k4] <;> omega
      · simp [he]; omega
    · repeat' ((first | refine Need.auto ?_ | refine Have.mk (fun _h => ?_)); conv => whnf)
      (first | refine Br.lt (fun h2 => ?_) (fun h2 => ?_) | refine Br.le (fun h2 => ?_) (fun h2 => ?_) | refine Br.gt (fun h2 => ?_) (fun h2 => ?_) | refine Br.ge (fun h2 => ?_) (fun h2 => ?_) | refine Br.eq (fun h2 => ?_) (fun h2 => ?_) | refine Br.ne (fun h2 => ?_) (fun h2 => ?_) | refine Br.not (fun h2 => ?_) (fun h2 => ?_) | (refine Br.mk (fun h2 => ?_) (fun h2 => ?_) <;> simp [-List.length_eq_zero_iff, -List.getD_eq_getElem?_getD] at h2)) <;> (try simp only [Int.toNat_natCast] at h2) <;> (conv => whnf)
      · repeat' ((first | refine Need.auto ?_ | refine Have.mk (fun _h => ?_)); conv => whnf)
        refine CallN.pureA cmd_body (cmd_spec s.cfg w.req ) ?_
        conv => whnf
        repeat' ((first | refine Need.auto ?_ | refine Have.mk (fun _h => ?_)); conv => whnf)
        refine RM.immW rfl (WS.c (WC.bool ?_))
        rw [Bool.eq_iff_iff, wrkOk_iff]
        have hk := @cmdE_kind s.cfg w.req
        generalize cmdE s.cfg w.req = e at hk ⊢
        generalize w.req.kind = kd at hk ⊢
        by_cases he : e = 0
        · have hk := hk he
          by_cases k1 : kd = 1 <;> by_cases k2 : kd = 2 <;> by_cases k3 : kd = 3 <;> by_cases k4 : kd = 4 <;> simp [he, k1, k2, k3, k4] <;> omega
        · simp [he]; omega
      · repeat' ((first | refine Need.auto ?_ | refine Have.mk (fun _h => ?_)); conv => whnf)
        (first | refine Br.lt (fun h3 => ?_) (fun h3 => ?_) | refine Br.le (fun h3 => ?_) (fun h3 => ?_) | refine Br.gt (fun h3 => ?_) (fun h3 => ?_) | refine Br.ge (fun h3 => ?_) (fun h3 => ?_) | refine Br.eq (fun h3 => ?_) (fun h3 => ?_) | refine Br.ne (fun h3 => ?_) (fun h3 => ?_) | refine Br.not (fun h3 => ?_) (fun h3 => ?_) | (refine Br.mk (fun h3 => ?_) (fun h3 => ?_) <;> simp [-List.length_eq_zero_iff, -List.getD_eq_getElem?_getD] at h3)) <;> (try simp only [Int.toNat_natCast] at h3) <;> (conv => whnf)
        · repeat' ((first | refine Need.auto ?_ | refine Have.mk (fun _h => ?_)); conv => whnf)
          refine CallN.pureA cmd_body (cmd_spec s.cfg w.req ) ?_
          conv => whnf
          repeat' ((first | refine Need.auto ?_ | refine Have.mk (fun _h => ?_)); conv => whnf)
          refine RM.immW rfl (WS.c (WC.bool ?_))
          rw [Bool.eq_iff_iff, wrkOk_iff]
          have hk := @cmdE_kind s.cfg w.req
          generalize cmdE s.cfg w.req = e at hk ⊢
          generalize w.req.kind = kd at hk ⊢
          by_cases he : e = 0
          · have hk := hk he
            by_cases k1 : kd = 1 <;> by_cases k2 : kd = 2 <;> by_cases k3 : kd = 3 <;> by_cases k4 : kd = 4 <;> simp [he, k1, k2, k3, k4] <;> omega
          · simp [he]; omega
        · repeat' ((first | refine Need.auto ?_ | refine Have.mk (fun _h => ?_)); conv => whnf)
          refine CallN.pureA cmd_body (cmd_spec s.cfg w.req ) ?_
          conv => whnf
          repeat' ((first | refine Need.auto ?_ | refine Have.mk (fun _h => ?_)); conv => whnf)
          refine RM.immW rfl (WS.c (WC.bool ?_))
          rw [Bool.eq_iff_iff, wrkOk_iff]
          have hk := @cmdE_kind s.cfg w.req
          generalize cmdE s.cfg w.req = e at hk ⊢
          generalize w.req.kind = kd at hk ⊢
          by_cases he : e = 0
          · have hk := hk he
            by_cases k1 : kd = 1 <;> by_cases k2 : kd = 2 <;> by_cases k3 : kd = 3 <;> by_cases k4 : kd = 4 <;> simp [he, k1, k2, k3, k4] <;> omega
          · simp [he]; omega
theorem wright_body : HasBody Tryz.prog 140 := ⟨⟨Tryz.f140, Tryz.func140, rfl, by kernel_rfl⟩⟩
end Go.Proofs
end
