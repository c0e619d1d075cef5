/- Part of the proofs of laws of this seat: contracts and plain lemmas; no condition is added to a statement. -/
import Derived.Test.YtmollgldghpbkaaGreatCtD
import Derived.Test.YtmollgldghpbkaaGreatModB
set_option linter.unusedSimpArgs false
set_option linter.unusedVariables false
section
open Go Go.Am
namespace Go.Proofs
set_option maxRecDepth 20000
def keyI : Key → Int
  | .c (.i _ n) => n
  | _ => 0
@[simp] theorem keyI_i {q : IntKind} {n : Int} : keyI (.c (.i q n)) = n := rfl
def keyN (n : Int) : Key := .c (.i .i64 n)
def setO (l : List Int) : O := .mp (.c (some .i64)) [.b] false (l.map keyN) fun k _ => .bool (decide (keyI k ∈ l))
def insS (l : List Int) (n : Int) : List Int := if n ∈ l then l else l ++ [n]
theorem memK_n {l : List Int} {n : Int} : memK (l.map keyN) (.c (.i .i64 n)) = decide (n ∈ l) := by
  unfold memK keyN
  congr 1
  simp only [List.mem_map, Key.c.injEq, KC.i.injEq, true_and, eq_iff_iff]
  exact ⟨fun ⟨a, h1, h2⟩ => h2 ▸ h1, fun h => ⟨n, h, rfl⟩⟩
theorem updK_n {l : List Int} {n : Int} : updK (l.map keyN) (.c (.i .i64 n)) = (insS l n).map keyN := by
  unfold updK insS
  rw [memK_n]
  by_cases h : n ∈ l
  · rw [if_pos h, decide_eq_true h]
  · rw [if_neg h, decide_eq_false h]
    simp [keyN]
theorem mem_insS {l : List Int} {n x : Int} : x ∈ insS l n ↔ x = n ∨ x ∈ l := by
  unfold insS
  split
  · rename_i h
    exact ⟨Or.inr, fun e => e.elim (fun e => e ▸ h) id⟩
  · simp [or_comm]
theorem updV_n {l : List Int} {n : Int} {k : Key} {j : Nat} (hk : k.sh = .c (some .i64)) (hj : j < 1) : updV (fun k (_ : Nat) => C.bool (decide (keyI k ∈ l))) (.c (.i .i64 n)) (lget [.bool true]) k j = C.bool (decide (keyI k ∈ insS l n)) := by
  have : j = 0 := by omega
  subst this
  match k, hk with
  | .c (.i q x), hk =>
    cases hk
    simp only [updV, Key.c.injEq, KC.i.injEq, true_and, keyI_i]
    by_cases c : x = n
    · rw [if_pos c]
      show C.bool true = _
      congr 1
      exact (decide_eq_true (mem_insS.2 (Or.inl c))).symm
    · rw [if_neg c]
      congr 1
      refine decide_eq_decide.2 ⟨fun h => mem_insS.2 (Or.inr h), fun h => (mem_insS.1 h).elim (fun e => absurd e c) id⟩
theorem insS_new {l : List Int} {n : Int} (h : n ∉ l) : insS l n = l ++ [n] := if_neg h
theorem setO_upd {ρ : Nat → Nat} {m : Nat} {l : List Int} {n : Int} : WO ρ m (.mp (.c (some .i64)) [.b] false (updK (l.map keyN) (.c (.i .i64 n))) (updV (fun k (_ : Nat) => C.bool (decide (keyI k ∈ l))) (.c (.i .i64 n)) (lget [.bool true]))) (setO (insS l n)) :=
  WO.mp rfl rfl rfl updK_n fun k j hk hj => leF.of_eq (updV_n hk hj)
theorem epochsOk_iff {g : Int} {p : List Int} {r : List Ret} : epochsOk g p r = true ↔ (1 ≤ p.length ∧ p.length ≤ 4 ∧ 0 ≤ g ∧ g ≤ 1099511627776) ∧ (∀ i, i < p.length → p.getD i default = -1 ∨ 0 ≤ p.getD i default ∧ (p.getD i default = g ∨ p.getD i default = g - 1)) ∧
    (∀ i, i < r.length → 0 ≤ (r.getD i default).zone ∧ 0 ≤ (r.getD i default).epoch ∧ (r.getD i default).epoch ≤ g ∧ ∀ j, j < i → (r.getD j default).zone ≠ (r.getD i default).zone) := by
  unfold epochsOk pinsOk retsOk
  rw [Bool.and_eq_true, Bool.and_eq_true, decide_eq_true_eq, decide_eq_true_eq, decide_eq_true_eq]
theorem pinB {x g : Int} (wg : IntKind.i64.wrap (g - 1) = g - 1) : (bif x != -1 then (bif decide (x < 0) then true else bif x != g then x != IntKind.i64.wrap (g - 1) else false) else false) = !decide (x = -1 ∨ 0 ≤ x ∧ (x = g ∨ x = g - 1)) := by
  rw [wg, Bool.eq_iff_iff]
  have b1 : ∀ y : Int, (x != y) = true ↔ x ≠ y := fun y => bne_iff_ne
  simp only [Bool.cond_false_right, Bool.cond_true_left, Bool.and_eq_true, Bool.or_eq_true, b1, decide_eq_true_eq, Bool.not_eq_true', decide_eq_false_iff_not]
  omega
theorem retB {z e g : Int} {b : Bool} {P : Prop} (hb : b = true ↔ ¬ P) : (bif (bif (bif decide (z < 0) then true else b) then true else decide (e < 0)) then true else decide (e > g)) = false ↔ 0 ≤ z ∧ 0 ≤ e ∧ e ≤ g ∧ P := by
  by_cases h1 : z < 0
  · simp [h1]; omega
  · by_cases h2 : e < 0
    · simp [h1, h2]; omega
    · by_cases h3 : e > g
      · simp [h1, h2, h3]; omega
      · cases b with
        | true =>
          have := hb.1 rfl
          simp [h1, h2, h3, this]
        | false =>
          have : P := Classical.byContradiction fun q => by cases hb.2 q
          simp [h1, h2, h3, this]; omega
def zonesTo (r : List Ret) (k : Nat) : List Int := (r.take k).map Ret.zone
theorem mem_zonesTo {r : List Ret} {k : Nat} (hk : k ≤ r.length) {n : Int} : n ∈ zonesTo r k ↔ ∃ j, j < k ∧ (r.getD j default).zone = n := by
  unfold zonesTo
  rw [List.mem_map]
  constructor
  · rintro ⟨x, hx, rfl⟩
    obtain ⟨j, hj, rfl⟩ := List.getElem_of_mem hx
    rw [List.length_take] at hj
    refine ⟨j, by omega, ?_⟩
    simp [List.getD, show j < r.length by omega]
  · rintro ⟨j, hj, rfl⟩
    refine ⟨r.getD j default, ?_, rfl⟩
    rw [List.mem_iff_getElem]
    exact ⟨j, by rw [List.length_take]; omega, by simp [List.getD, show j < r.length by omega]⟩
theorem zonesTo_succ {r : List Ret} {k : Nat} (hk : k < r.length) : zonesTo r (k + 1) = zonesTo r k ++ [(r.getD k default).zone] := by
  unfold zonesTo
  rw [take_getD r hk, List.map_append]; rfl
set_option maxHeartbeats 4000000 in
theorem epochvalid_spec (g : Int) (p : List Int) (r : List Ret) (hp : p.length ≤ 1000000) (hr : r.length ≤ 1000000) : PSpec Tryz.prog 197 [.a [.int .i64 g, intsC p, retC r]] (.c (.bool (epochsOk g p r))) := by
  refine PSpec.rm ?_
  refine CSpec.of_vc hΓ Tryz.func197 rfl 88 0 [.tmp 2] Tryz.ntmps197 rfl (by rw [Tryz.results197]) rfl ?_
  conv => whnf
  repeat' ((first | refine Need.auto ?_ | refine Have.mk (fun _h => ?_)); conv => whnf)
  (first | refine Br.lt (fun h => ?_) (fun h => ?_) | refine Br.le (fun h => ?_) (fun h => ?_) | refine Br.gt (fun h => ?_) (fun h => ?_) | refine Br.ge (fun h => ?_) (fun h => ?_) | refine Br.eq (fun h => ?_) (fun h => ?_) | refine Br.ne (fun h => ?_) (fun h => ?_) | refine Br.not (fun h => ?_) (fun h => ?_) | (refine Br.mk (fun h => ?_) (fun h => ?_) <;> simp [-List.length_eq_zero_iff, -List.getD_eq_getElem?_getD] at h)) <;> (try simp only [Int.toNat_natCast] at h) <;> (conv => whnf)
  · repeat' ((first | refine Need.auto ?_ | refine Have.mk (fun _h => ?_)); conv => whnf)
    rw [bool_no (fun e => by have := (epochsOk_iff.1 e).1; omega : ¬ epochsOk g p r = true)]
    refine RM.immW rfl ?_; (repeat' (first | exact WA.nil | refine WA.cons rfl ?_ ?_ | exact WB.nil | refine WB.cons ?_ ?_ | exact WT.nil | refine WT.cons ?_ ?_ | exact WH.nil | refine WH.cons ?_ ?_ | exact WR.nil | refine WR.cons rfl ?_ ?_ | refine WO.vr ?_ | exact WO.dead | exact WO.mpS | refine WO.mpA ?_ | exact WO.arrPA (fun i j => plainRow _ _ _) | refine WO.arrA ?_ | exact WS.u | refine WS.c ?_ | refine WS.a ?_ | refine WS.t ?_ | exact WL.nil | refine WL.cons ?_ ?_ | exact WTL.nil | refine WTL.consC ?_ ?_ | refine WTL.consL ?_ ?_ | exact WC.nils | exact WC.nil rfl | exact WC.nilp | refine WC.fzA | exact WC.ptr rfl (Nat.le_of_ble_eq_true rfl) | exact WC.mpr rfl (Nat.le_of_ble_eq_true rfl) | refine WC.slA | refine WC.intA | refine WC.int ?_ | refine WC.boolA | refine WC.bool ?_ | refine WC.strA | refine WC.str ?_ | exact WC.imm rfl))
  · repeat' ((first | refine Need.auto ?_ | refine Have.mk (fun _h => ?_)); conv => whnf)
    have h0 : 1 ≤ p.length ∧ p.length ≤ 4 ∧ 0 ≤ g ∧ g ≤ 1099511627776 := by omega
    have wg : IntKind.i64.wrap (g - 1) = g - 1 := wrap_id _ (by omega) (by omega)
    refine Lp.mkK hΓ (ι := Nat) [1, 29, 30] (fun i => [(31, .c (.int .i64 i))]) (fun _ => [.vr [.int .i64 g, intsC p, retC r]]) (fun k => k ≤ p.length ∧ ∀ i, i < k → p.getD i default = -1 ∨ 0 ≤ p.getD i default ∧ (p.getD i default = g ∨ p.getD i default = g - 1)) (fun i => p.length - i) 0 ⟨Nat.zero_le _, fun j hj => absurd hj (Nat.not_lt_zero _)⟩ ?_ ?_
    · refine Mv.mkW ?_ ?_ (Nat.le_of_ble_eq_true rfl) <;> (repeat' (first | exact WA.nil | refine WA.cons rfl ?_ ?_ | exact WB.nil | refine WB.cons ?_ ?_ | exact WT.nil | refine WT.cons ?_ ?_ | exact WH.nil | refine WH.cons ?_ ?_ | exact WR.nil | refine WR.cons rfl ?_ ?_ | refine WO.vr ?_ | exact WO.dead | exact WO.mpS | refine WO.mpA ?_ | exact WO.arrPA (fun i j => plainRow _ _ _) | refine WO.arrA ?_ | exact WS.u | refine WS.c ?_ | refine WS.a ?_ | refine WS.t ?_ | exact WL.nil | refine WL.cons ?_ ?_ | exact WTL.nil | refine WTL.consC ?_ ?_ | refine WTL.consL ?_ ?_ | exact WC.nils | exact WC.nil rfl | exact WC.nilp | refine WC.fzA | exact WC.ptr rfl (Nat.le_of_ble_eq_true rfl) | exact WC.mpr rfl (Nat.le_of_ble_eq_true rfl) | refine WC.slA | refine WC.intA | refine WC.int ?_ | refine WC.boolA | refine WC.bool ?_ | refine WC.strA | refine WC.str ?_ | exact WC.imm rfl))
    · rintro k ⟨hk, hk2⟩
      conv => whnf
      repeat' ((first | refine Need.auto ?_ | refine Have.mk (fun _h => ?_)); conv => whnf)
      (first | refine Br.lt (fun h2 => ?_) (fun h2 => ?_) | refine Br.le (fun h2 => ?_) (fun h2 => ?_) | refine Br.gt (fun h2 => ?_) (fun h2 => ?_) | refine Br.ge (fun h2 => ?_) (fun h2 => ?_) | refine Br.eq (fun h2 => ?_) (fun h2 => ?_) | refine Br.ne (fun h2 => ?_) (fun h2 => ?_) | refine Br.not (fun h2 => ?_) (fun h2 => ?_) | refine Br.mk (fun h2 => ?_) (fun h2 => ?_)) <;> (try simp only [Int.toNat_natCast] at h2) <;> (conv => whnf)
      · repeat' ((first | refine Need.auto ?_ | refine Have.mk (fun _h => ?_)); conv => whnf)
        have w0 := wrap_id (↑k + 1) (by omega) (by omega)
        by_cases e : p.getD k default = -1 ∨ 0 ≤ p.getD k default ∧ (p.getD k default = g ∨ p.getD k default = g - 1)
        · refine Br.no ((pinB (x := p.getD k default) wg).trans (by rw [decide_eq_true e]; rfl)) ?_
          conv => whnf
          repeat' ((first | refine Need.auto ?_ | refine Have.mk (fun _h => ?_)); conv => whnf)
          refine ⟨k + 1, ⟨by omega, all_step hk2 e⟩, by omega, ?_⟩
          refine Mv.mkW ?_ ?_ (Nat.le_of_ble_eq_true rfl) <;> (repeat' (first | exact WA.nil | refine WA.cons rfl ?_ ?_ | exact WB.nil | refine WB.cons ?_ ?_ | exact WT.nil | refine WT.cons ?_ ?_ | exact WH.nil | refine WH.cons ?_ ?_ | exact WR.nil | refine WR.cons rfl ?_ ?_ | refine WO.vr ?_ | exact WO.dead | exact WO.mpS | refine WO.mpA ?_ | exact WO.arrPA (fun i j => plainRow _ _ _) | refine WO.arrA ?_ | exact WS.u | refine WS.c ?_ | refine WS.a ?_ | refine WS.t ?_ | exact WL.nil | refine WL.cons ?_ ?_ | exact WTL.nil | refine WTL.consC ?_ ?_ | refine WTL.consL ?_ ?_ | exact WC.nils | exact WC.nil rfl | exact WC.nilp | refine WC.fzA | exact WC.ptr rfl (Nat.le_of_ble_eq_true rfl) | exact WC.mpr rfl (Nat.le_of_ble_eq_true rfl) | refine WC.slA | refine WC.intA | refine WC.int ?_ | refine WC.boolA | refine WC.bool ?_ | refine WC.strA | refine WC.str ?_ | exact WC.imm rfl))
        · refine Br.yes ((pinB (x := p.getD k default) wg).trans (by rw [decide_eq_false e]; rfl)) ?_
          conv => whnf
          repeat' ((first | refine Need.auto ?_ | refine Have.mk (fun _h => ?_)); conv => whnf)
          rw [bool_no (fun q => e ((epochsOk_iff.1 q).2.1 k (by omega)) : ¬ epochsOk g p r = true)]
          refine RM.immW rfl ?_; (repeat' (first | exact WA.nil | refine WA.cons rfl ?_ ?_ | exact WB.nil | refine WB.cons ?_ ?_ | exact WT.nil | refine WT.cons ?_ ?_ | exact WH.nil | refine WH.cons ?_ ?_ | exact WR.nil | refine WR.cons rfl ?_ ?_ | refine WO.vr ?_ | exact WO.dead | exact WO.mpS | refine WO.mpA ?_ | exact WO.arrPA (fun i j => plainRow _ _ _) | refine WO.arrA ?_ | exact WS.u | refine WS.c ?_ | refine WS.a ?_ | refine WS.t ?_ | exact WL.nil | refine WL.cons ?_ ?_ | exact WTL.nil | refine WTL.consC ?_ ?_ | refine WTL.consL ?_ ?_ | exact WC.nils | exact WC.nil rfl | exact WC.nilp | refine WC.fzA | exact WC.ptr rfl (Nat.le_of_ble_eq_true rfl) | exact WC.mpr rfl (Nat.le_of_ble_eq_true rfl) | refine WC.slA | refine WC.intA | refine WC.int ?_ | refine WC.boolA | refine WC.bool ?_ | refine WC.strA | refine WC.str ?_ | exact WC.imm rfl))
      · repeat' ((first | refine Need.auto ?_ | refine Have.mk (fun _h => ?_)); conv => whnf)
        have hpins : ∀ i, i < p.length → p.getD i default = -1 ∨ 0 ≤ p.getD i default ∧ (p.getD i default = g ∨ p.getD i default = g - 1) := fun i hi => hk2 i (by omega)
        clear hk hk2 h2
        refine Lp.mkK hΓ (ι := Nat) [1, 5, 57, 58] (fun i => [(59, .c (.int .i64 i))]) (fun k => [.vr [.int .i64 g, intsC p, retC r], setO (zonesTo r k)]) (fun k => k ≤ r.length ∧ ∀ i, i < k → 0 ≤ (r.getD i default).zone ∧ 0 ≤ (r.getD i default).epoch ∧ (r.getD i default).epoch ≤ g ∧ ∀ j, j < i → (r.getD j default).zone ≠ (r.getD i default).zone) (fun i => r.length - i) 0 ⟨Nat.zero_le _, fun j hj => absurd hj (Nat.not_lt_zero _)⟩ ?_ ?_
        · refine Mv.mkW ?_ ?_ (Nat.le_of_ble_eq_true rfl) <;> (repeat' (first | exact WA.nil | refine WA.cons rfl ?_ ?_ | exact WB.nil | refine WB.cons ?_ ?_ | exact WT.nil | refine WT.cons ?_ ?_ | exact WH.nil | refine WH.cons ?_ ?_ | exact WR.nil | refine WR.cons rfl ?_ ?_ | refine WO.vr ?_ | exact WO.dead | exact WO.mpS | refine WO.mpA ?_ | exact WO.arrPA (fun i j => plainRow _ _ _) | refine WO.arrA ?_ | exact WS.u | refine WS.c ?_ | refine WS.a ?_ | refine WS.t ?_ | exact WL.nil | refine WL.cons ?_ ?_ | exact WTL.nil | refine WTL.consC ?_ ?_ | refine WTL.consL ?_ ?_ | exact WC.nils | exact WC.nil rfl | exact WC.nilp | refine WC.fzA | exact WC.ptr rfl (Nat.le_of_ble_eq_true rfl) | exact WC.mpr rfl (Nat.le_of_ble_eq_true rfl) | refine WC.slA | refine WC.intA | refine WC.int ?_ | refine WC.boolA | refine WC.bool ?_ | refine WC.strA | refine WC.str ?_ | exact WC.imm rfl))
          intro k j _ hj
          have : j = 0 := by simpa using hj
          subst this
          exact leF.of_eq rfl
        · rintro q ⟨hq, hq2⟩
          conv => whnf
          repeat' ((first | refine Need.auto ?_ | refine Have.mk (fun _h => ?_)); conv => whnf)
          (first | refine Br.lt (fun h3 => ?_) (fun h3 => ?_) | refine Br.le (fun h3 => ?_) (fun h3 => ?_) | refine Br.gt (fun h3 => ?_) (fun h3 => ?_) | refine Br.ge (fun h3 => ?_) (fun h3 => ?_) | refine Br.eq (fun h3 => ?_) (fun h3 => ?_) | refine Br.ne (fun h3 => ?_) (fun h3 => ?_) | refine Br.not (fun h3 => ?_) (fun h3 => ?_) | refine Br.mk (fun h3 => ?_) (fun h3 => ?_)) <;> (try simp only [Int.toNat_natCast] at h3) <;> (conv => whnf)
          · repeat' ((first | refine Need.auto ?_ | refine Have.mk (fun _h => ?_)); conv => whnf)
            have w0 := wrap_id (↑q + 1) (by omega) (by omega)
            have hmem : decide ((r.getD q default).zone ∈ zonesTo r q) = true ↔ ¬ ∀ j, j < q → (r.getD j default).zone ≠ (r.getD q default).zone := by
              rw [decide_eq_true_eq, mem_zonesTo (by omega)]
              constructor
              · rintro ⟨j, h1, h2⟩ h3; exact h3 j h1 h2
              · intro h
                refine Classical.byContradiction fun hn => h fun j hj e => hn ⟨j, hj, e⟩
            by_cases e : 0 ≤ (r.getD q default).zone ∧ 0 ≤ (r.getD q default).epoch ∧ (r.getD q default).epoch ≤ g ∧ ∀ j, j < q → (r.getD j default).zone ≠ (r.getD q default).zone
            · refine Br.no ((retB hmem).2 e) ?_
              conv => whnf
              repeat' ((first | refine Need.auto ?_ | refine Have.mk (fun _h => ?_)); conv => whnf)
              refine ⟨q + 1, ⟨by omega, all_step hq2 e⟩, by omega, ?_⟩
              refine Mv.mkW ?_ ?_ (Nat.le_of_ble_eq_true rfl) <;> (repeat' (first | exact WA.nil | refine WA.cons rfl ?_ ?_ | exact WB.nil | refine WB.cons ?_ ?_ | exact WT.nil | refine WT.cons ?_ ?_ | exact WH.nil | refine WH.cons ?_ ?_ | exact WR.nil | refine WR.cons rfl ?_ ?_ | refine WO.vr ?_ | exact WO.dead | exact WO.mpS | refine WO.mpA ?_ | exact WO.arrPA (fun i j => plainRow _ _ _) | refine WO.arrA ?_ | exact WS.u | refine WS.c ?_ | refine WS.a ?_ | refine WS.t ?_ | exact WL.nil | refine WL.cons ?_ ?_ | exact WTL.nil | refine WTL.consC ?_ ?_ | refine WTL.consL ?_ ?_ | exact WC.nils | exact WC.nil rfl | exact WC.nilp | refine WC.fzA | exact WC.ptr rfl (Nat.le_of_ble_eq_true rfl) | exact WC.mpr rfl (Nat.le_of_ble_eq_true rfl) | refine WC.slA | refine WC.intA | refine WC.int ?_ | refine WC.boolA | refine WC.bool ?_ | refine WC.strA | refine WC.str ?_ | exact WC.imm rfl))
              rw [zonesTo_succ (by omega), ← insS_new (fun h => (mem_zonesTo (by omega)).1 h |>.elim fun j hj => e.2.2.2 j hj.1 hj.2)]
              exact setO_upd
            · refine Br.yes ?_ ?_
              · cases hx : (bif (bif (bif decide ((r.getD q default).zone < 0) then true else decide ((r.getD q default).zone ∈ zonesTo r q)) then true else decide ((r.getD q default).epoch < 0)) then true else decide ((r.getD q default).epoch > g)) with
                | true => exact hx
                | false => exact absurd ((retB hmem).1 hx) e
              conv => whnf
              repeat' ((first | refine Need.auto ?_ | refine Have.mk (fun _h => ?_)); conv => whnf)
              rw [bool_no (fun z => e ((epochsOk_iff.1 z).2.2 q (by omega)) : ¬ epochsOk g p r = true)]
              refine RM.immW rfl ?_; (repeat' (first | exact WA.nil | refine WA.cons rfl ?_ ?_ | exact WB.nil | refine WB.cons ?_ ?_ | exact WT.nil | refine WT.cons ?_ ?_ | exact WH.nil | refine WH.cons ?_ ?_ | exact WR.nil | refine WR.cons rfl ?_ ?_ | refine WO.vr ?_ | exact WO.dead | exact WO.mpS | refine WO.mpA ?_ | exact WO.arrPA (fun i j => plainRow _ _ _) | refine WO.arrA ?_ | exact WS.u | refine WS.c ?_ | refine WS.a ?_ | refine WS.t ?_ | exact WL.nil | refine WL.cons ?_ ?_ | exact WTL.nil | refine WTL.consC ?_ ?_ | refine WTL.consL ?_ ?_ | exact WC.nils | exact WC.nil rfl | exact WC.nilp | refine WC.fzA | exact WC.ptr rfl (Nat.le_of_ble_eq_true rfl) | exact WC.mpr rfl (Nat.le_of_ble_eq_true rfl) | refine WC.slA | refine WC.intA | refine WC.int ?_ | refine WC.boolA | refine WC.bool ?_ | refine WC.strA | refine WC.str ?_ | exact WC.imm rfl))
          · repeat' ((first | refine Need.auto ?_ | refine Have.mk (fun _h => ?_)); conv => whnf)
            rw [epochsOk_iff.2 ⟨h0, hpins, fun i hi => hq2 i (by omega)⟩]
            refine RM.immW rfl ?_; (repeat' (first | exact WA.nil | refine WA.cons rfl ?_ ?_ | exact WB.nil | refine WB.cons ?_ ?_ | exact WT.nil | refine WT.cons ?_ ?_ | exact WH.nil | refine WH.cons ?_ ?_ | exact WR.nil | refine WR.cons rfl ?_ ?_ | refine WO.vr ?_ | exact WO.dead | exact WO.mpS | refine WO.mpA ?_ | exact WO.arrPA (fun i j => plainRow _ _ _) | refine WO.arrA ?_ | exact WS.u | refine WS.c ?_ | refine WS.a ?_ | refine WS.t ?_ | exact WL.nil | refine WL.cons ?_ ?_ | exact WTL.nil | refine WTL.consC ?_ ?_ | refine WTL.consL ?_ ?_ | exact WC.nils | exact WC.nil rfl | exact WC.nilp | refine WC.fzA | exact WC.ptr rfl (Nat.le_of_ble_eq_true rfl) | exact WC.mpr rfl (Nat.le_of_ble_eq_true rfl) | refine WC.slA | refine WC.intA | refine WC.int ?_ | refine WC.boolA | refine WC.bool ?_ | refine WC.strA | refine WC.str ?_ | exact WC.imm rfl))
theorem epochvalid_body : HasBody Tryz.prog 197 := ⟨⟨Tryz.f197, Tryz.func197, rfl, by kernel_rfl⟩⟩
end Go.Proofs
end

section
open Go Go.Am
namespace Go.Proofs
set_option maxRecDepth 20000
theorem indexI_spec (l : List Int) (v : Int) (hl : l.length ≤ 1000000) : PSpec Tryz.prog 255 [.c (intsC l), .c (.int .i64 v)] (.c (.int .i64 (if l.any (fun x => decide (x = v)) = true then (l.findIdx (fun x => decide (x = v)) : Nat) else -1))) := by
  refine PSpec.rm ?_
  refine CSpec.of_vc hΓ Tryz.func255 rfl 19 0 [.tmp 4] Tryz.ntmps255 rfl (by rw [Tryz.results255]) rfl ?_
  conv => whnf
  repeat' ((first | refine Need.auto ?_ | refine Have.mk (fun _h => ?_)); conv => whnf)
  refine Lp.mkK hΓ (ι := Nat) [0, 1, 7] (fun i => [(8, .c (.int .i64 i))]) (fun _ => []) (fun i => i ≤ l.length ∧ ∀ j, j < i → (fun x => decide (x = v)) (l.getD j default) = false) (fun i => l.length - i) 0 ⟨Nat.zero_le _, fun j hj => absurd hj (by omega)⟩ ?_ ?_
  · refine Mv.mkW ?_ ?_ (Nat.le_of_ble_eq_true rfl) <;> (repeat' (first | exact WA.nil | refine WA.cons rfl ?_ ?_ | exact WB.nil | refine WB.cons ?_ ?_ | exact WT.nil | refine WT.cons ?_ ?_ | exact WH.nil | refine WH.cons ?_ ?_ | exact WR.nil | refine WR.cons rfl ?_ ?_ | refine WO.vr ?_ | exact WO.dead | exact WO.mpS | refine WO.mpA ?_ | exact WO.arrPA (fun i j => plainRow _ _ _) | refine WO.arrA ?_ | exact WS.u | refine WS.c ?_ | refine WS.a ?_ | refine WS.t ?_ | exact WL.nil | refine WL.cons ?_ ?_ | exact WTL.nil | refine WTL.consC ?_ ?_ | refine WTL.consL ?_ ?_ | exact WC.nils | exact WC.nil rfl | exact WC.nilp | refine WC.fzA | exact WC.ptr rfl (Nat.le_of_ble_eq_true rfl) | exact WC.mpr rfl (Nat.le_of_ble_eq_true rfl) | refine WC.slA | refine WC.intA | refine WC.int ?_ | refine WC.boolA | refine WC.bool ?_ | refine WC.strA | refine WC.str ?_ | exact WC.imm rfl))
  · rintro k ⟨hk, hs⟩
    conv => whnf
    repeat' ((first | refine Need.auto ?_ | refine Have.mk (fun _h => ?_)); conv => whnf)
    (first | refine Br.lt (fun h1 => ?_) (fun h1 => ?_) | refine Br.le (fun h1 => ?_) (fun h1 => ?_) | refine Br.gt (fun h1 => ?_) (fun h1 => ?_) | refine Br.ge (fun h1 => ?_) (fun h1 => ?_) | refine Br.eq (fun h1 => ?_) (fun h1 => ?_) | refine Br.ne (fun h1 => ?_) (fun h1 => ?_) | refine Br.not (fun h1 => ?_) (fun h1 => ?_) | refine Br.mk (fun h1 => ?_) (fun h1 => ?_)) <;> (try simp only [Int.toNat_natCast] at h1) <;> (conv => whnf)
    · repeat' ((first | refine Need.auto ?_ | refine Have.mk (fun _h => ?_)); conv => whnf)
      (first | refine Br.lt (fun h2 => ?_) (fun h2 => ?_) | refine Br.le (fun h2 => ?_) (fun h2 => ?_) | refine Br.gt (fun h2 => ?_) (fun h2 => ?_) | refine Br.ge (fun h2 => ?_) (fun h2 => ?_) | refine Br.eq (fun h2 => ?_) (fun h2 => ?_) | refine Br.ne (fun h2 => ?_) (fun h2 => ?_) | refine Br.not (fun h2 => ?_) (fun h2 => ?_) | refine Br.mk (fun h2 => ?_) (fun h2 => ?_)) <;> (try simp only [Int.toNat_natCast] at h2) <;> (conv => whnf)
      · repeat' ((first | refine Need.auto ?_ | refine Have.mk (fun _h => ?_)); conv => whnf)
        obtain ⟨q1, q2⟩ := any_getD (p := fun x => decide (x = v)) (k := k) (by omega) (decide_eq_true (show l.getD k default = v from h2.symm)) hs
        rw [if_pos q1, q2]
        refine RM.immW rfl ?_; (repeat' (first | exact WA.nil | refine WA.cons rfl ?_ ?_ | exact WB.nil | refine WB.cons ?_ ?_ | exact WT.nil | refine WT.cons ?_ ?_ | exact WH.nil | refine WH.cons ?_ ?_ | exact WR.nil | refine WR.cons rfl ?_ ?_ | refine WO.vr ?_ | exact WO.dead | exact WO.mpS | refine WO.mpA ?_ | exact WO.arrPA (fun i j => plainRow _ _ _) | refine WO.arrA ?_ | exact WS.u | refine WS.c ?_ | refine WS.a ?_ | refine WS.t ?_ | exact WL.nil | refine WL.cons ?_ ?_ | exact WTL.nil | refine WTL.consC ?_ ?_ | refine WTL.consL ?_ ?_ | exact WC.nils | exact WC.nil rfl | exact WC.nilp | refine WC.fzA | exact WC.ptr rfl (Nat.le_of_ble_eq_true rfl) | exact WC.mpr rfl (Nat.le_of_ble_eq_true rfl) | refine WC.slA | refine WC.intA | refine WC.int ?_ | refine WC.boolA | refine WC.bool ?_ | refine WC.strA | refine WC.str ?_ | exact WC.imm rfl))
      · repeat' ((first | refine Need.auto ?_ | refine Have.mk (fun _h => ?_)); conv => whnf)
        have w0 := wrap_id (↑k + 1) (by omega) (by omega)
        refine ⟨k + 1, ⟨by omega, all_step hs (decide_eq_false (fun e => h2 e.symm))⟩, by omega, ?_⟩
        refine Mv.mkW ?_ ?_ (Nat.le_of_ble_eq_true rfl) <;> (repeat' (first | exact WA.nil | refine WA.cons rfl ?_ ?_ | exact WB.nil | refine WB.cons ?_ ?_ | exact WT.nil | refine WT.cons ?_ ?_ | exact WH.nil | refine WH.cons ?_ ?_ | exact WR.nil | refine WR.cons rfl ?_ ?_ | refine WO.vr ?_ | exact WO.dead | exact WO.mpS | refine WO.mpA ?_ | exact WO.arrPA (fun i j => plainRow _ _ _) | refine WO.arrA ?_ | exact WS.u | refine WS.c ?_ | refine WS.a ?_ | refine WS.t ?_ | exact WL.nil | refine WL.cons ?_ ?_ | exact WTL.nil | refine WTL.consC ?_ ?_ | refine WTL.consL ?_ ?_ | exact WC.nils | exact WC.nil rfl | exact WC.nilp | refine WC.fzA | exact WC.ptr rfl (Nat.le_of_ble_eq_true rfl) | exact WC.mpr rfl (Nat.le_of_ble_eq_true rfl) | refine WC.slA | refine WC.intA | refine WC.int ?_ | refine WC.boolA | refine WC.bool ?_ | refine WC.strA | refine WC.str ?_ | exact WC.imm rfl))
    · repeat' ((first | refine Need.auto ?_ | refine Have.mk (fun _h => ?_)); conv => whnf)
      rw [if_neg (any_none (fun j hj => hs j (by omega)))]
      refine RM.immW rfl ?_; (repeat' (first | exact WA.nil | refine WA.cons rfl ?_ ?_ | exact WB.nil | refine WB.cons ?_ ?_ | exact WT.nil | refine WT.cons ?_ ?_ | exact WH.nil | refine WH.cons ?_ ?_ | exact WR.nil | refine WR.cons rfl ?_ ?_ | refine WO.vr ?_ | exact WO.dead | exact WO.mpS | refine WO.mpA ?_ | exact WO.arrPA (fun i j => plainRow _ _ _) | refine WO.arrA ?_ | exact WS.u | refine WS.c ?_ | refine WS.a ?_ | refine WS.t ?_ | exact WL.nil | refine WL.cons ?_ ?_ | exact WTL.nil | refine WTL.consC ?_ ?_ | refine WTL.consL ?_ ?_ | exact WC.nils | exact WC.nil rfl | exact WC.nilp | refine WC.fzA | exact WC.ptr rfl (Nat.le_of_ble_eq_true rfl) | exact WC.mpr rfl (Nat.le_of_ble_eq_true rfl) | refine WC.slA | refine WC.intA | refine WC.int ?_ | refine WC.boolA | refine WC.bool ?_ | refine WC.strA | refine WC.str ?_ | exact WC.imm rfl))
theorem indexI_body : HasBody Tryz.prog 255 := ⟨⟨Tryz.f255, Tryz.func255, rfl, by kernel_rfl⟩⟩
theorem any_mem {l : List Int} {v : Int} : l.any (fun x => decide (x = v)) = decide (v ∈ l) := by
  rw [Bool.eq_iff_iff, List.any_eq_true, decide_eq_true_eq]
  constructor
  · rintro ⟨x, h1, h2⟩; exact of_decide_eq_true h2 ▸ h1
  · intro h; exact ⟨v, h, decide_eq_true rfl⟩
theorem containsI_spec (l : List Int) (v : Int) (hl : l.length ≤ 1000000) : PSpec Tryz.prog 247 [.c (intsC l), .c (.int .i64 v)] (.c (.bool (decide (v ∈ l)))) := by
  refine PSpec.rm ?_
  refine CSpec.of_vc hΓ Tryz.func247 rfl 9 0 [.tmp 4] Tryz.ntmps247 rfl (by rw [Tryz.results247]) rfl ?_
  conv => whnf
  repeat' ((first | refine Need.auto ?_ | refine Have.mk (fun _h => ?_)); conv => whnf)
  refine CallN.pureA indexI_body (indexI_spec l v hl ) ?_
  conv => whnf
  repeat' ((first | refine Need.auto ?_ | refine Have.mk (fun _h => ?_)); conv => whnf)
  rw [← any_mem]
  refine RM.immW rfl ?_; (repeat' (first | exact WA.nil | refine WA.cons rfl ?_ ?_ | exact WB.nil | refine WB.cons ?_ ?_ | exact WT.nil | refine WT.cons ?_ ?_ | exact WH.nil | refine WH.cons ?_ ?_ | exact WR.nil | refine WR.cons rfl ?_ ?_ | refine WO.vr ?_ | exact WO.dead | exact WO.mpS | refine WO.mpA ?_ | exact WO.arrPA (fun i j => plainRow _ _ _) | refine WO.arrA ?_ | exact WS.u | refine WS.c ?_ | refine WS.a ?_ | refine WS.t ?_ | exact WL.nil | refine WL.cons ?_ ?_ | exact WTL.nil | refine WTL.consC ?_ ?_ | refine WTL.consL ?_ ?_ | exact WC.nils | exact WC.nil rfl | exact WC.nilp | refine WC.fzA | exact WC.ptr rfl (Nat.le_of_ble_eq_true rfl) | exact WC.mpr rfl (Nat.le_of_ble_eq_true rfl) | refine WC.slA | refine WC.intA | refine WC.int ?_ | refine WC.boolA | refine WC.bool ?_ | refine WC.strA | refine WC.str ?_ | exact WC.imm rfl))
  cases l.any (fun x => decide (x = v)) with
  | true => simp
  | false => rfl
theorem containsI_body : HasBody Tryz.prog 247 := ⟨⟨Tryz.f247, Tryz.func247, rfl, by kernel_rfl⟩⟩
theorem lane_spec (c : Conf) (free : List Int) (h l z : Int) (hf : free.length ≤ 1000000) : PSpec Tryz.prog 228 [.a [intsC free, .int .i64 h, .int .i64 l], .a c.cells, .c (.int .i64 z)] (.c (.bool (laneOk c free z))) := by
  refine PSpec.rm ?_
  refine CSpec.of_vc hΓ Tryz.func228 rfl 21 0 [.tmp 6] Tryz.ntmps228 rfl (by rw [Tryz.results228]) rfl ?_
  conv => whnf
  repeat' ((first | refine Need.auto ?_ | refine Have.mk (fun _h => ?_)); conv => whnf)
  refine CallG.auto isDataL_body (fun _ => isDataL_spec c z ) ?_
  conv => whnf
  repeat' ((first | refine Need.auto ?_ | refine Have.mk (fun _h => ?_)); conv => whnf)
  refine CallG.auto containsI_body (fun _ => containsI_spec free z hf ) ?_
  conv => whnf
  repeat' ((first | refine Need.auto ?_ | refine Have.mk (fun _h => ?_)); conv => whnf)
  refine RM.immW rfl (WS.c (WC.bool ?_))
  unfold laneOk
  by_cases h1 : z = -1 <;> cases isDataM c z <;> by_cases h2 : z ∈ free <;> simp [h1, h2]
theorem lane_body : HasBody Tryz.prog 228 := ⟨⟨Tryz.f228, Tryz.func228, rfl, by kernel_rfl⟩⟩
theorem poolvalid_spec (c : Conf) (free : List Int) (h l : Int) (hf : free.length ≤ 1000000) : PSpec Tryz.prog 198 [.a [intsC free, .int .i64 h, .int .i64 l], .a c.cells] (.c (.bool (poolOk c free h l))) := by
  refine PSpec.rm ?_
  refine CSpec.of_vc hΓ Tryz.func198 rfl 61 0 [.tmp 4] Tryz.ntmps198 rfl (by rw [Tryz.results198]) rfl ?_
  conv => whnf
  repeat' ((first | refine Need.auto ?_ | refine Have.mk (fun _h => ?_)); conv => whnf)
  refine CallN.pureA checkL_body (checkL_spec c ) ?_
  conv => whnf
  repeat' ((first | refine Need.auto ?_ | refine Have.mk (fun _h => ?_)); conv => whnf)
  by_cases h0 : confE c = 0
  · refine Br.no (by simp [h0]) ?_
    conv => whnf
    repeat' ((first | refine Need.auto ?_ | refine Have.mk (fun _h => ?_)); conv => whnf)
    refine Lp.mkK hΓ (ι := Nat) [2, 3, 11, 12] (fun i => [(13, .c (.int .i64 i))]) (fun _ => [.vr [intsC free, .int .i64 h, .int .i64 l], .vr c.cells]) (fun k => k ≤ free.length ∧ ∀ i, i < k → isDataM c (free.getD i default) = true ∧ (0 < i → free.getD (i - 1) default < free.getD i default)) (fun i => free.length - i) 0 ⟨Nat.zero_le _, fun j hj => absurd hj (Nat.not_lt_zero _)⟩ ?_ ?_
    · refine Mv.mkW ?_ ?_ (Nat.le_of_ble_eq_true rfl) <;> (repeat' (first | exact WA.nil | refine WA.cons rfl ?_ ?_ | exact WB.nil | refine WB.cons ?_ ?_ | exact WT.nil | refine WT.cons ?_ ?_ | exact WH.nil | refine WH.cons ?_ ?_ | exact WR.nil | refine WR.cons rfl ?_ ?_ | refine WO.vr ?_ | exact WO.dead | exact WO.mpS | refine WO.mpA ?_ | exact WO.arrPA (fun i j => plainRow _ _ _) | refine WO.arrA ?_ | exact WS.u | refine WS.c ?_ | refine WS.a ?_ | refine WS.t ?_ | exact WL.nil | refine WL.cons ?_ ?_ | exact WTL.nil | refine WTL.consC ?_ ?_ | refine WTL.consL ?_ ?_ | exact WC.nils | exact WC.nil rfl | exact WC.nilp | refine WC.fzA | exact WC.ptr rfl (Nat.le_of_ble_eq_true rfl) | exact WC.mpr rfl (Nat.le_of_ble_eq_true rfl) | refine WC.slA | refine WC.intA | refine WC.int ?_ | refine WC.boolA | refine WC.bool ?_ | refine WC.strA | refine WC.str ?_ | exact WC.imm rfl))
    · rintro k ⟨hk, hk2⟩
      conv => whnf
      repeat' ((first | refine Need.auto ?_ | refine Have.mk (fun _h => ?_)); conv => whnf)
      (first | refine Br.lt (fun h2 => ?_) (fun h2 => ?_) | refine Br.le (fun h2 => ?_) (fun h2 => ?_) | refine Br.gt (fun h2 => ?_) (fun h2 => ?_) | refine Br.ge (fun h2 => ?_) (fun h2 => ?_) | refine Br.eq (fun h2 => ?_) (fun h2 => ?_) | refine Br.ne (fun h2 => ?_) (fun h2 => ?_) | refine Br.not (fun h2 => ?_) (fun h2 => ?_) | refine Br.mk (fun h2 => ?_) (fun h2 => ?_)) <;> (try simp only [Int.toNat_natCast] at h2) <;> (conv => whnf)
      · repeat' ((first | refine Need.auto ?_ | refine Have.mk (fun _h => ?_)); conv => whnf)
        refine CallN.pureA isDataL_body (isDataL_spec c (free.getD k default) ) ?_
        conv => whnf
        repeat' ((first | refine Need.auto ?_ | refine Have.mk (fun _h => ?_)); conv => whnf)
        have hw : IntKind.i64.wrap (↑k - 1) = ↑k - 1 := wrap_id _ (by omega) (by omega)
        refine Need.mk (fun h => by rw [hw]; simp only [Bool.and_eq_true, decide_eq_true_eq] at h; omega) ?_
        conv => whnf
        refine Need.mk (fun h => by rw [hw]; simp only [Bool.and_eq_true, decide_eq_true_eq] at h; omega) ?_
        conv => whnf
        repeat' ((first | refine Need.auto ?_ | refine Have.mk (fun _h => ?_)); conv => whnf)
        have hp : (IntKind.i64.wrap (↑k - 1)).toNat = k - 1 := by rw [hw]; omega
        have w0 := wrap_id (↑k + 1) (by omega) (by omega)
        by_cases e : isDataM c (free.getD k default) = true ∧ (0 < k → free.getD (k - 1) default < free.getD k default)
        · refine Br.no ?_ ?_
          · rw [hp, e.1]
            refine (guardGe (k := k)).trans (decide_eq_false fun q => ?_)
            have := e.2 q.1
            have q2 : free.getD k default ≤ free.getD (k - 1) default := q.2
            omega
          conv => whnf
          repeat' ((first | refine Need.auto ?_ | refine Have.mk (fun _h => ?_)); conv => whnf)
          refine ⟨k + 1, ⟨by omega, all_step hk2 e⟩, by omega, ?_⟩
          refine Mv.mkW ?_ ?_ (Nat.le_of_ble_eq_true rfl) <;> (repeat' (first | exact WA.nil | refine WA.cons rfl ?_ ?_ | exact WB.nil | refine WB.cons ?_ ?_ | exact WT.nil | refine WT.cons ?_ ?_ | exact WH.nil | refine WH.cons ?_ ?_ | exact WR.nil | refine WR.cons rfl ?_ ?_ | refine WO.vr ?_ | exact WO.dead | exact WO.mpS | refine WO.mpA ?_ | exact WO.arrPA (fun i j => plainRow _ _ _) | refine WO.arrA ?_ | exact WS.u | refine WS.c ?_ | refine WS.a ?_ | refine WS.t ?_ | exact WL.nil | refine WL.cons ?_ ?_ | exact WTL.nil | refine WTL.consC ?_ ?_ | refine WTL.consL ?_ ?_ | exact WC.nils | exact WC.nil rfl | exact WC.nilp | refine WC.fzA | exact WC.ptr rfl (Nat.le_of_ble_eq_true rfl) | exact WC.mpr rfl (Nat.le_of_ble_eq_true rfl) | refine WC.slA | refine WC.intA | refine WC.int ?_ | refine WC.boolA | refine WC.bool ?_ | refine WC.strA | refine WC.str ?_ | exact WC.imm rfl))
        · refine Br.yes ?_ ?_
          · rw [hp]
            show (bif !isDataM c (free.getD k default) then true else bif decide ((k : Int) > 0) then decide (free.getD (k - 1) default ≥ free.getD k default) else false) = true
            cases h1 : isDataM c (free.getD k default) with
            | false => rfl
            | true =>
              have h0 : 0 < k := by
                rcases Nat.eq_zero_or_pos k with c | c
                · exact absurd ⟨h1, fun q => by omega⟩ e
                · exact c
              have h3 : free.getD k default ≤ free.getD (k - 1) default := by
                have : ¬ free.getD (k - 1) default < free.getD k default := fun q => e ⟨h1, fun _ => q⟩
                omega
              exact (guardGe (k := k)).trans (decide_eq_true ⟨h0, h3⟩)
          conv => whnf
          repeat' ((first | refine Need.auto ?_ | refine Have.mk (fun _h => ?_)); conv => whnf)
          rw [show poolOk c free h l = false by
            unfold poolOk
            rw [show freeOk c free = false from decide_eq_false (fun q => e (q k (by omega)))]
            simp]
          refine RM.immW rfl ?_; (repeat' (first | exact WA.nil | refine WA.cons rfl ?_ ?_ | exact WB.nil | refine WB.cons ?_ ?_ | exact WT.nil | refine WT.cons ?_ ?_ | exact WH.nil | refine WH.cons ?_ ?_ | exact WR.nil | refine WR.cons rfl ?_ ?_ | refine WO.vr ?_ | exact WO.dead | exact WO.mpS | refine WO.mpA ?_ | exact WO.arrPA (fun i j => plainRow _ _ _) | refine WO.arrA ?_ | exact WS.u | refine WS.c ?_ | refine WS.a ?_ | refine WS.t ?_ | exact WL.nil | refine WL.cons ?_ ?_ | exact WTL.nil | refine WTL.consC ?_ ?_ | refine WTL.consL ?_ ?_ | exact WC.nils | exact WC.nil rfl | exact WC.nilp | refine WC.fzA | exact WC.ptr rfl (Nat.le_of_ble_eq_true rfl) | exact WC.mpr rfl (Nat.le_of_ble_eq_true rfl) | refine WC.slA | refine WC.intA | refine WC.int ?_ | refine WC.boolA | refine WC.bool ?_ | refine WC.strA | refine WC.str ?_ | exact WC.imm rfl))
      · repeat' ((first | refine Need.auto ?_ | refine Have.mk (fun _h => ?_)); conv => whnf)
        have hfr : freeOk c free = true := decide_eq_true fun i hi => hk2 i (by omega)
        refine CallN.pureA lane_body (lane_spec c free h l h hf ) ?_
        conv => whnf
        repeat' ((first | refine Need.auto ?_ | refine Have.mk (fun _h => ?_)); conv => whnf)
        refine CallG.auto lane_body (fun _ => lane_spec c free h l l hf ) ?_
        conv => whnf
        repeat' ((first | refine Need.auto ?_ | refine Have.mk (fun _h => ?_)); conv => whnf)
        refine RM.immW rfl (WS.c (WC.bool ?_))
        unfold poolOk
        rw [decide_eq_true h0, hfr]
        cases laneOk c free h <;> cases laneOk c free l <;> by_cases z1 : h = -1 <;> by_cases z2 : h = l <;> simp [z1, z2] <;> rfl
  · refine Br.yes (by simp [h0]) ?_
    conv => whnf
    repeat' ((first | refine Need.auto ?_ | refine Have.mk (fun _h => ?_)); conv => whnf)
    rw [show poolOk c free h l = false by unfold poolOk; rw [decide_eq_false h0]; rfl]
    refine RM.immW rfl ?_; (repeat' (first | exact WA.nil | refine WA.cons rfl ?_ ?_ | exact WB.nil | refine WB.cons ?_ ?_ | exact WT.nil | refine WT.cons ?_ ?_ | exact WH.nil | refine WH.cons ?_ ?_ | exact WR.nil | refine WR.cons rfl ?_ ?_ | refine WO.vr ?_ | exact WO.dead | exact WO.mpS | refine WO.mpA ?_ | exact WO.arrPA (fun i j => plainRow _ _ _) | refine WO.arrA ?_ | exact WS.u | refine WS.c ?_ | refine WS.a ?_ | refine WS.t ?_ | exact WL.nil | refine WL.cons ?_ ?_ | exact WTL.nil | refine WTL.consC ?_ ?_ | refine WTL.consL ?_ ?_ | exact WC.nils | exact WC.nil rfl | exact WC.nilp | refine WC.fzA | exact WC.ptr rfl (Nat.le_of_ble_eq_true rfl) | exact WC.mpr rfl (Nat.le_of_ble_eq_true rfl) | refine WC.slA | refine WC.intA | refine WC.int ?_ | refine WC.boolA | refine WC.bool ?_ | refine WC.strA | refine WC.str ?_ | exact WC.imm rfl))
theorem poolvalid_body : HasBody Tryz.prog 198 := ⟨⟨Tryz.f198, Tryz.func198, rfl, by kernel_rfl⟩⟩
end Go.Proofs
end

section
open Go Go.Am
namespace Go.Am
theorem lget_ok {cs : List C} {j : Nat} (hj : j < cs.length) : getL cs j = some (lget cs j) := by
  unfold lget
  rw [getL_eq, List.getElem?_eq_getElem hj]
theorem Bw.ptrL {H : List O} {id : Nat} {cs : List C} {n : Nat} (hid : getL H id = some (.vr cs)) (hn : n = cs.length) (hi : cs.all C.imm = true) : Bw H (.ptr id 0) (.ip n (lget cs)) := Bw.ptr hid fun j hj => by
  have hj' : j < cs.length := by omega
  refine ⟨lget cs j, by rw [Nat.zero_add]; exact lget_ok hj', Bw.same ?_⟩
  exact all_get hi (lget_ok hj')
end Go.Am
namespace Go.Proofs
set_option maxRecDepth 20000
def capP (c : Conf) : Nat → C := fun _ => .ip 6 (lget c.cells)
theorem bigC_spec (c : Conf) (e : Ent) : PSpec Tryz.prog 194 [.a e.cells, .c (.ip 6 (lget c.cells))] (.c (.bool (decide (c.blocks ≤ e.block)))) := by
  refine PSpec.rm ?_
  refine CSpec.of_vc hΓ Tryz.func194 rfl 9 0 [.tmp 3] Tryz.ntmps194 rfl (by rw [Tryz.results194]) rfl ?_
  conv => whnf
  repeat' ((first | refine Need.auto ?_ | refine Have.mk (fun _h => ?_)); conv => whnf)
  refine RM.immW rfl ?_; (repeat' (first | exact WA.nil | refine WA.cons rfl ?_ ?_ | exact WB.nil | refine WB.cons ?_ ?_ | exact WT.nil | refine WT.cons ?_ ?_ | exact WH.nil | refine WH.cons ?_ ?_ | exact WR.nil | refine WR.cons rfl ?_ ?_ | refine WO.vr ?_ | exact WO.dead | exact WO.mpS | refine WO.mpA ?_ | exact WO.arrPA (fun i j => plainRow _ _ _) | refine WO.arrA ?_ | exact WS.u | refine WS.c ?_ | refine WS.a ?_ | refine WS.t ?_ | exact WL.nil | refine WL.cons ?_ ?_ | exact WTL.nil | refine WTL.consC ?_ ?_ | refine WTL.consL ?_ ?_ | exact WC.nils | exact WC.nil rfl | exact WC.nilp | refine WC.fzA | exact WC.ptr rfl (Nat.le_of_ble_eq_true rfl) | exact WC.mpr rfl (Nat.le_of_ble_eq_true rfl) | refine WC.slA | refine WC.intA | refine WC.int ?_ | refine WC.boolA | refine WC.bool ?_ | refine WC.strA | refine WC.str ?_ | exact WC.imm rfl))
theorem bigC_body : HasBody Tryz.prog 194 := ⟨⟨Tryz.f194, Tryz.func194, rfl, by kernel_rfl⟩⟩
theorem bigI_spec (c : Conf) (l : List Ent) (hl : l.length ≤ 1000000) : PSpec Tryz.prog 146 [.c (entsC l), .c (.fn (.func 194) 1 (capP c))] (.c (.int .i64 (if l.any (fun (e : Ent) => decide (c.blocks ≤ e.block)) = true then (l.findIdx (fun (e : Ent) => decide (c.blocks ≤ e.block)) : Nat) else -1))) := by
  refine PSpec.rm ?_
  refine CSpec.of_vc hΓ Tryz.func146 rfl 19 0 [.tmp 4] Tryz.ntmps146 rfl (by rw [Tryz.results146]) rfl ?_
  conv => whnf
  repeat' ((first | refine Need.auto ?_ | refine Have.mk (fun _h => ?_)); conv => whnf)
  refine Lp.mkK hΓ (ι := Nat) [0, 1, 7] (fun i => [(8, .c (.int .i64 i))]) (fun _ => []) (fun i => i ≤ l.length ∧ ∀ j, j < i → (fun (e : Ent) => decide (c.blocks ≤ e.block)) (l.getD j default) = false) (fun i => l.length - i) 0 ⟨Nat.zero_le _, fun j hj => absurd hj (by omega)⟩ ?_ ?_
  · refine Mv.mkW ?_ ?_ (Nat.le_of_ble_eq_true rfl) <;> (repeat' (first | exact WA.nil | refine WA.cons rfl ?_ ?_ | exact WB.nil | refine WB.cons ?_ ?_ | exact WT.nil | refine WT.cons ?_ ?_ | exact WH.nil | refine WH.cons ?_ ?_ | exact WR.nil | refine WR.cons rfl ?_ ?_ | refine WO.vr ?_ | exact WO.dead | exact WO.mpS | refine WO.mpA ?_ | exact WO.arrPA (fun i j => plainRow _ _ _) | refine WO.arrA ?_ | exact WS.u | refine WS.c ?_ | refine WS.a ?_ | refine WS.t ?_ | exact WL.nil | refine WL.cons ?_ ?_ | exact WTL.nil | refine WTL.consC ?_ ?_ | refine WTL.consL ?_ ?_ | exact WC.nils | exact WC.nil rfl | exact WC.nilp | refine WC.fzA | exact WC.ptr rfl (Nat.le_of_ble_eq_true rfl) | exact WC.mpr rfl (Nat.le_of_ble_eq_true rfl) | refine WC.slA | refine WC.intA | refine WC.int ?_ | refine WC.boolA | refine WC.bool ?_ | refine WC.strA | refine WC.str ?_ | exact WC.imm rfl))
    exact WC.fnI (fun j _ => rfl)
  · rintro k ⟨hk, hs⟩
    conv => whnf
    repeat' ((first | refine Need.auto ?_ | refine Have.mk (fun _h => ?_)); conv => whnf)
    (first | refine Br.lt (fun h1 => ?_) (fun h1 => ?_) | refine Br.le (fun h1 => ?_) (fun h1 => ?_) | refine Br.gt (fun h1 => ?_) (fun h1 => ?_) | refine Br.ge (fun h1 => ?_) (fun h1 => ?_) | refine Br.eq (fun h1 => ?_) (fun h1 => ?_) | refine Br.ne (fun h1 => ?_) (fun h1 => ?_) | refine Br.not (fun h1 => ?_) (fun h1 => ?_) | refine Br.mk (fun h1 => ?_) (fun h1 => ?_)) <;> (try simp only [Int.toNat_natCast] at h1) <;> (conv => whnf)
    · repeat' ((first | refine Need.auto ?_ | refine Have.mk (fun _h => ?_)); conv => whnf)
      refine CallN.pureA bigC_body (bigC_spec c (l.getD k default) ) ?_
      conv => whnf
      repeat' ((first | refine Need.auto ?_ | refine Have.mk (fun _h => ?_)); conv => whnf)
      cases hb : (fun (e : Ent) => decide (c.blocks ≤ e.block)) (l.getD k default) with
      | true =>
        refine Br.yes hb ?_
        conv => whnf
        repeat' ((first | refine Need.auto ?_ | refine Have.mk (fun _h => ?_)); conv => whnf)
        obtain ⟨q1, q2⟩ := any_getD (p := fun (e : Ent) => decide (c.blocks ≤ e.block)) (by omega) hb hs
        rw [if_pos q1, q2]
        refine RM.immW rfl ?_; (repeat' (first | exact WA.nil | refine WA.cons rfl ?_ ?_ | exact WB.nil | refine WB.cons ?_ ?_ | exact WT.nil | refine WT.cons ?_ ?_ | exact WH.nil | refine WH.cons ?_ ?_ | exact WR.nil | refine WR.cons rfl ?_ ?_ | refine WO.vr ?_ | exact WO.dead | exact WO.mpS | refine WO.mpA ?_ | exact WO.arrPA (fun i j => plainRow _ _ _) | refine WO.arrA ?_ | exact WS.u | refine WS.c ?_ | refine WS.a ?_ | refine WS.t ?_ | exact WL.nil | refine WL.cons ?_ ?_ | exact WTL.nil | refine WTL.consC ?_ ?_ | refine WTL.consL ?_ ?_ | exact WC.nils | exact WC.nil rfl | exact WC.nilp | refine WC.fzA | exact WC.ptr rfl (Nat.le_of_ble_eq_true rfl) | exact WC.mpr rfl (Nat.le_of_ble_eq_true rfl) | refine WC.slA | refine WC.intA | refine WC.int ?_ | refine WC.boolA | refine WC.bool ?_ | refine WC.strA | refine WC.str ?_ | exact WC.imm rfl))
      | false =>
        refine Br.no hb ?_
        conv => whnf
        repeat' ((first | refine Need.auto ?_ | refine Have.mk (fun _h => ?_)); conv => whnf)
        have w0 := wrap_id (↑k + 1) (by omega) (by omega)
        refine ⟨k + 1, ⟨by omega, all_step hs hb⟩, by omega, ?_⟩
        refine Mv.mkW ?_ ?_ (Nat.le_of_ble_eq_true rfl) <;> (repeat' (first | exact WA.nil | refine WA.cons rfl ?_ ?_ | exact WB.nil | refine WB.cons ?_ ?_ | exact WT.nil | refine WT.cons ?_ ?_ | exact WH.nil | refine WH.cons ?_ ?_ | exact WR.nil | refine WR.cons rfl ?_ ?_ | refine WO.vr ?_ | exact WO.dead | exact WO.mpS | refine WO.mpA ?_ | exact WO.arrPA (fun i j => plainRow _ _ _) | refine WO.arrA ?_ | exact WS.u | refine WS.c ?_ | refine WS.a ?_ | refine WS.t ?_ | exact WL.nil | refine WL.cons ?_ ?_ | exact WTL.nil | refine WTL.consC ?_ ?_ | refine WTL.consL ?_ ?_ | exact WC.nils | exact WC.nil rfl | exact WC.nilp | refine WC.fzA | exact WC.ptr rfl (Nat.le_of_ble_eq_true rfl) | exact WC.mpr rfl (Nat.le_of_ble_eq_true rfl) | refine WC.slA | refine WC.intA | refine WC.int ?_ | refine WC.boolA | refine WC.bool ?_ | refine WC.strA | refine WC.str ?_ | exact WC.imm rfl))
        exact WC.fnI (fun j _ => rfl)
    · repeat' ((first | refine Need.auto ?_ | refine Have.mk (fun _h => ?_)); conv => whnf)
      rw [if_neg (any_none (fun j hj => hs j (by omega)))]
      refine RM.immW rfl ?_; (repeat' (first | exact WA.nil | refine WA.cons rfl ?_ ?_ | exact WB.nil | refine WB.cons ?_ ?_ | exact WT.nil | refine WT.cons ?_ ?_ | exact WH.nil | refine WH.cons ?_ ?_ | exact WR.nil | refine WR.cons rfl ?_ ?_ | refine WO.vr ?_ | exact WO.dead | exact WO.mpS | refine WO.mpA ?_ | exact WO.arrPA (fun i j => plainRow _ _ _) | refine WO.arrA ?_ | exact WS.u | refine WS.c ?_ | refine WS.a ?_ | refine WS.t ?_ | exact WL.nil | refine WL.cons ?_ ?_ | exact WTL.nil | refine WTL.consC ?_ ?_ | refine WTL.consL ?_ ?_ | exact WC.nils | exact WC.nil rfl | exact WC.nilp | refine WC.fzA | exact WC.ptr rfl (Nat.le_of_ble_eq_true rfl) | exact WC.mpr rfl (Nat.le_of_ble_eq_true rfl) | refine WC.slA | refine WC.intA | refine WC.int ?_ | refine WC.boolA | refine WC.bool ?_ | refine WC.strA | refine WC.str ?_ | exact WC.imm rfl))
theorem bigI_body : HasBody Tryz.prog 146 := ⟨⟨Tryz.f146, Tryz.func146, rfl, by kernel_rfl⟩⟩
theorem big_spec (c : Conf) (l : List Ent) (hl : l.length ≤ 1000000) : PSpec Tryz.prog 79 [.c (entsC l), .c (.fn (.func 194) 1 (capP c))] (.c (.bool (l.any (fun (e : Ent) => decide (c.blocks ≤ e.block))))) := by
  refine PSpec.rm ?_
  refine CSpec.of_vc hΓ Tryz.func79 rfl 9 0 [.tmp 4] Tryz.ntmps79 rfl (by rw [Tryz.results79]) rfl ?_
  conv => whnf
  repeat' ((first | refine Need.auto ?_ | refine Have.mk (fun _h => ?_)); conv => whnf)
  refine CallN.reads bigI_body (bigI_spec c l hl) (BwA.cons (BwS.c (Bw.same rfl)) (BwA.cons (BwS.c (Bw.fn fun j _ => Bw.same (rfl))) BwA.nil)) rfl ?_
  conv => whnf
  repeat' ((first | refine Need.auto ?_ | refine Have.mk (fun _h => ?_)); conv => whnf)
  refine RM.immW rfl ?_; (repeat' (first | exact WA.nil | refine WA.cons rfl ?_ ?_ | exact WB.nil | refine WB.cons ?_ ?_ | exact WT.nil | refine WT.cons ?_ ?_ | exact WH.nil | refine WH.cons ?_ ?_ | exact WR.nil | refine WR.cons rfl ?_ ?_ | refine WO.vr ?_ | exact WO.dead | exact WO.mpS | refine WO.mpA ?_ | exact WO.arrPA (fun i j => plainRow _ _ _) | refine WO.arrA ?_ | exact WS.u | refine WS.c ?_ | refine WS.a ?_ | refine WS.t ?_ | exact WL.nil | refine WL.cons ?_ ?_ | exact WTL.nil | refine WTL.consC ?_ ?_ | refine WTL.consL ?_ ?_ | exact WC.nils | exact WC.nil rfl | exact WC.nilp | refine WC.fzA | exact WC.ptr rfl (Nat.le_of_ble_eq_true rfl) | exact WC.mpr rfl (Nat.le_of_ble_eq_true rfl) | refine WC.slA | refine WC.intA | refine WC.int ?_ | refine WC.boolA | refine WC.bool ?_ | refine WC.strA | refine WC.str ?_ | exact WC.imm rfl))
  cases l.any (fun (e : Ent) => decide (c.blocks ≤ e.block)) with
  | true => simp
  | false => rfl
theorem big_body : HasBody Tryz.prog 79 := ⟨⟨Tryz.f79, Tryz.func79, rfl, by kernel_rfl⟩⟩
structure AllS (m : List (List Ent)) (l : List Ent) : Prop where
  spec : PSpec Tryz.prog 80 [.a [shardsC m]] (.c (entsC l))
  mem : ∀ e, e ∈ l ↔ ∃ i, i < m.length ∧ e ∈ m.getD i default
  len : l.length ≤ 1000000
theorem all_body : HasBody Tryz.prog 80 := ⟨⟨Tryz.f80, Tryz.func80, rfl, by kernel_rfl⟩⟩
theorem AllS.big {m : List (List Ent)} {l : List Ent} (h : AllS m l) (n : Int) : (l.any fun (e : Ent) => decide (n ≤ e.block)) = !blocksIn m n := by
  rw [Bool.eq_iff_iff, Bool.not_eq_true']
  unfold blocksIn
  rw [List.any_eq_true, decide_eq_false_iff_not]
  constructor
  · rintro ⟨e, h1, h2⟩ h3
    obtain ⟨i, hi, he⟩ := (h.mem e).1 h1
    obtain ⟨k, hk, rfl⟩ := List.getElem_of_mem he
    have := h3 i hi k hk
    rw [getD_eq _ _ hk] at this
    have := of_decide_eq_true h2
    omega
  · intro h3
    refine Classical.byContradiction fun hn => h3 fun i hi k hk => ?_
    rw [getD_eq _ _ hk]
    refine Int.not_le.1 fun hle => hn ⟨_, (h.mem _).2 ⟨i, hi, List.getElem_mem hk⟩, decide_eq_true hle⟩
theorem neI {a b : Int} : (a != b) = !decide (a = b) := rfl
set_option maxHeartbeats 4000000 in
theorem parts_spec (s : St) (hs : s.small) (l : List Ent) (hall : mapOk s.map = true → AllS s.map l) : PSpec Tryz.prog 139 [.a s.cells] (.c (.bool (partsM s))) := by
  refine PSpec.rm ?_
  refine CSpec.of_vc hΓ Tryz.func139 rfl 154 0 [.tmp 2] Tryz.ntmps139 rfl (by rw [Tryz.results139]) rfl ?_
  conv => whnf
  repeat' ((first | refine Need.auto ?_ | refine Have.mk (fun _h => ?_)); conv => whnf)
  refine CallN.pureA checkL_body (checkL_spec s.cfg ) ?_
  conv => whnf
  repeat' ((first | refine Need.auto ?_ | refine Have.mk (fun _h => ?_)); conv => whnf)
  refine CallG.auto check_body (fun _ => check_spec s.dev ) ?_
  conv => whnf
  repeat' ((first | refine Need.auto ?_ | refine Have.mk (fun _h => ?_)); conv => whnf)
  have no : partsM s = false → RM 0 (.c (.bool false)) [.vr s.cells, .vr s.cfg.cells] (.c (.bool (partsM s))) [] := fun h => by rw [h]; refine RM.immW rfl ?_; (repeat' (first | exact WA.nil | refine WA.cons rfl ?_ ?_ | exact WB.nil | refine WB.cons ?_ ?_ | exact WT.nil | refine WT.cons ?_ ?_ | exact WH.nil | refine WH.cons ?_ ?_ | exact WR.nil | refine WR.cons rfl ?_ ?_ | refine WO.vr ?_ | exact WO.dead | exact WO.mpS | refine WO.mpA ?_ | exact WO.arrPA (fun i j => plainRow _ _ _) | refine WO.arrA ?_ | exact WS.u | refine WS.c ?_ | refine WS.a ?_ | refine WS.t ?_ | exact WL.nil | refine WL.cons ?_ ?_ | exact WTL.nil | refine WTL.consC ?_ ?_ | refine WTL.consL ?_ ?_ | exact WC.nils | exact WC.nil rfl | exact WC.nilp | refine WC.fzA | exact WC.ptr rfl (Nat.le_of_ble_eq_true rfl) | exact WC.mpr rfl (Nat.le_of_ble_eq_true rfl) | refine WC.slA | refine WC.intA | refine WC.int ?_ | refine WC.boolA | refine WC.bool ?_ | refine WC.strA | refine WC.str ?_ | exact WC.imm rfl))
  by_cases h1 : confE s.cfg = 0 ∧ check s.dev = 0
  · refine Br.no (by rw [neI, neI, decide_eq_true h1.1, decide_eq_true h1.2]; rfl) ?_
    conv => whnf
    repeat' ((first | refine Need.auto ?_ | refine Have.mk (fun _h => ?_)); conv => whnf)
    by_cases h2 : (s.dev.zones.length : Int) = s.cfg.zones ∧ s.dev.size = s.cfg.size
    · refine Br.no (by rw [neI, neI, decide_eq_true h2.1, decide_eq_true h2.2]; rfl) ?_
      conv => whnf
      repeat' ((first | refine Need.auto ?_ | refine Have.mk (fun _h => ?_)); conv => whnf)
      refine CallN.pureA l2pvalid_body (l2pvalid_spec s.map hs.map hs.shard ) ?_
      conv => whnf
      repeat' ((first | refine Need.auto ?_ | refine Have.mk (fun _h => ?_)); conv => whnf)
      by_cases h3 : mapOk s.map = true ∧ (s.map.length : Int) = s.cfg.shards
      · refine Br.no (by rw [neI, h3.1, decide_eq_true h3.2]; rfl) ?_
        conv => whnf
        repeat' ((first | refine Need.auto ?_ | refine Have.mk (fun _h => ?_)); conv => whnf)
        have hA := hall h3.1
        refine CallN.pureA all_body hA.spec ?_
        conv => whnf
        repeat' ((first | refine Need.auto ?_ | refine Have.mk (fun _h => ?_)); conv => whnf)
        refine CallN.reads big_body (big_spec s.cfg l hA.len) (BwA.cons (BwS.c (Bw.same rfl)) (BwA.cons (BwS.c (Bw.fn1 (g := lget [.ptr 1 0]) (g' := capP s.cfg) (Bw.ptrL (cs := s.cfg.cells) rfl rfl rfl))) BwA.nil)) rfl ?_
        conv => whnf
        repeat' ((first | refine Need.auto ?_ | refine Have.mk (fun _h => ?_)); conv => whnf)
        have hb := hA.big s.cfg.blocks
        by_cases h4 : blocksIn s.map s.cfg.blocks = true
        · refine Br.no (hb.trans (by rw [h4]; rfl)) ?_
          conv => whnf
          repeat' ((first | refine Need.auto ?_ | refine Have.mk (fun _h => ?_)); conv => whnf)
          refine CallN.pureA livevalid_body (livevalid_spec s.live s.pend hs.live hs.pend ) ?_
          conv => whnf
          repeat' ((first | refine Need.auto ?_ | refine Have.mk (fun _h => ?_)); conv => whnf)
          by_cases h5 : countsOk s.live s.pend = true ∧ (s.live.length : Int) = s.cfg.zones
          · refine Br.no (by rw [neI, h5.1, decide_eq_true h5.2]; rfl) ?_
            conv => whnf
            repeat' ((first | refine Need.auto ?_ | refine Have.mk (fun _h => ?_)); conv => whnf)
            refine CallN.pureA locksvalid_body (locksvalid_spec s.owner hs.owner ) ?_
            conv => whnf
            repeat' ((first | refine Need.auto ?_ | refine Have.mk (fun _h => ?_)); conv => whnf)
            by_cases h6 : locksOk s.owner = true ∧ (s.owner.length : Int) = s.cfg.shards
            · refine Br.no (by rw [neI, h6.1, decide_eq_true h6.2]; rfl) ?_
              conv => whnf
              repeat' ((first | refine Need.auto ?_ | refine Have.mk (fun _h => ?_)); conv => whnf)
              refine CallN.pureA epochvalid_body (epochvalid_spec s.glob s.pins s.rets hs.pins hs.rets ) ?_
              conv => whnf
              repeat' ((first | refine Need.auto ?_ | refine Have.mk (fun _h => ?_)); conv => whnf)
              by_cases h7 : epochsOk s.glob s.pins s.rets = true ∧ (s.pins.length : Int) = s.cfg.queues
              · refine Br.no (by rw [neI, h7.1, decide_eq_true h7.2]; rfl) ?_
                conv => whnf
                repeat' ((first | refine Need.auto ?_ | refine Have.mk (fun _h => ?_)); conv => whnf)
                refine CallN.pureA poolvalid_body (poolvalid_spec s.cfg s.free s.host s.lane hs.free ) ?_
                conv => whnf
                repeat' ((first | refine Need.auto ?_ | refine Have.mk (fun _h => ?_)); conv => whnf)
                by_cases h8 : poolOk s.cfg s.free s.host s.lane = true ∧ (s.rings.length : Int) = s.cfg.queues ∧ (s.works.length : Int) = s.cfg.queues
                · refine Br.no (by rw [neI, neI, h8.1, decide_eq_true h8.2.1, decide_eq_true h8.2.2]; rfl) ?_
                  conv => whnf
                  repeat' ((first | refine Need.auto ?_ | refine Have.mk (fun _h => ?_)); conv => whnf)
                  refine RM.immW rfl (WS.c (WC.bool ?_))
                  unfold partsM
                  rw [decide_eq_true h1.1, decide_eq_true h1.2, decide_eq_true h2, h3.1, decide_eq_true h3.2, h4, h5.1, decide_eq_true h5.2, h6.1, decide_eq_true h6.2, h7.1, decide_eq_true h7.2, h8.1, decide_eq_true h8.2]
                  simp only [Bool.true_and]
                  rw [Bool.eq_iff_iff]
                  simp only [Bool.cond_false_right, Bool.and_eq_true, decide_eq_true_eq]
                  omega
                · refine Br.yes ?_ ?_
                  · rw [neI, neI]
                    cases q1 : poolOk s.cfg s.free s.host s.lane with
                    | false => rfl
                    | true =>
                      by_cases q2 : (s.rings.length : Int) = s.cfg.queues
                      · rw [decide_eq_true q2, decide_eq_false (fun q3 => h8 ⟨q1, q2, q3⟩)]; rfl
                      · rw [decide_eq_false q2]; rfl
                  conv => whnf
                  repeat' ((first | refine Need.auto ?_ | refine Have.mk (fun _h => ?_)); conv => whnf)
                  refine no ?_
                  unfold partsM
                  by_cases q1 : poolOk s.cfg s.free s.host s.lane = true
                  · rw [decide_eq_false (fun q2 => h8 ⟨q1, q2⟩)]
                    simp only [Bool.false_and, Bool.and_false]
                  · rw [bool_no q1]
                    simp only [Bool.false_and, Bool.and_false]
              · refine Br.yes ?_ ?_
                · rw [neI]
                  cases q1 : (epochsOk s.glob s.pins s.rets) with
                  | false => rfl
                  | true => rw [decide_eq_false (fun q2 => h7 ⟨q1, q2⟩)]; rfl
                conv => whnf
                repeat' ((first | refine Need.auto ?_ | refine Have.mk (fun _h => ?_)); conv => whnf)
                refine no ?_
                unfold partsM
                by_cases q1 : (epochsOk s.glob s.pins s.rets) = true
                · rw [decide_eq_false (fun q2 => h7 ⟨q1, q2⟩ : ¬ ((s.pins.length : Int) = s.cfg.queues))]
                  simp only [Bool.false_and, Bool.and_false]
                · rw [bool_no q1]
                  simp only [Bool.false_and, Bool.and_false]
            · refine Br.yes ?_ ?_
              · rw [neI]
                cases q1 : (locksOk s.owner) with
                | false => rfl
                | true => rw [decide_eq_false (fun q2 => h6 ⟨q1, q2⟩)]; rfl
              conv => whnf
              repeat' ((first | refine Need.auto ?_ | refine Have.mk (fun _h => ?_)); conv => whnf)
              refine no ?_
              unfold partsM
              by_cases q1 : (locksOk s.owner) = true
              · rw [decide_eq_false (fun q2 => h6 ⟨q1, q2⟩ : ¬ ((s.owner.length : Int) = s.cfg.shards))]
                simp only [Bool.false_and, Bool.and_false]
              · rw [bool_no q1]
                simp only [Bool.false_and, Bool.and_false]
          · refine Br.yes ?_ ?_
            · rw [neI]
              cases q1 : (countsOk s.live s.pend) with
              | false => rfl
              | true => rw [decide_eq_false (fun q2 => h5 ⟨q1, q2⟩)]; rfl
            conv => whnf
            repeat' ((first | refine Need.auto ?_ | refine Have.mk (fun _h => ?_)); conv => whnf)
            refine no ?_
            unfold partsM
            by_cases q1 : (countsOk s.live s.pend) = true
            · rw [decide_eq_false (fun q2 => h5 ⟨q1, q2⟩ : ¬ ((s.live.length : Int) = s.cfg.zones))]
              simp only [Bool.false_and, Bool.and_false]
            · rw [bool_no q1]
              simp only [Bool.false_and, Bool.and_false]
        · refine Br.yes (hb.trans (by rw [bool_no h4]; rfl)) ?_
          conv => whnf
          repeat' ((first | refine Need.auto ?_ | refine Have.mk (fun _h => ?_)); conv => whnf)
          refine no ?_
          unfold partsM
          rw [bool_no h4]
          simp only [Bool.false_and, Bool.and_false]
      · refine Br.yes ?_ ?_
        · rw [neI]
          cases q1 : (mapOk s.map) with
          | false => rfl
          | true => rw [decide_eq_false (fun q2 => h3 ⟨q1, q2⟩)]; rfl
        conv => whnf
        repeat' ((first | refine Need.auto ?_ | refine Have.mk (fun _h => ?_)); conv => whnf)
        refine no ?_
        unfold partsM
        by_cases q1 : (mapOk s.map) = true
        · rw [decide_eq_false (fun q2 => h3 ⟨q1, q2⟩ : ¬ ((s.map.length : Int) = s.cfg.shards))]
          simp only [Bool.false_and, Bool.and_false]
        · rw [bool_no q1]
          simp only [Bool.false_and, Bool.and_false]
    · refine Br.yes ?_ ?_
      · rw [neI, neI]
        by_cases q1 : (s.dev.zones.length : Int) = s.cfg.zones
        · rw [decide_eq_true q1, decide_eq_false (fun q2 => h2 ⟨q1, q2⟩)]; rfl
        · rw [decide_eq_false q1]; rfl
      conv => whnf
      repeat' ((first | refine Need.auto ?_ | refine Have.mk (fun _h => ?_)); conv => whnf)
      refine no ?_
      unfold partsM
      rw [decide_eq_false h2]
      simp only [Bool.false_and, Bool.and_false]
  · refine Br.yes ?_ ?_
    · rw [neI, neI]
      by_cases q1 : confE s.cfg = 0
      · rw [decide_eq_true q1, decide_eq_false (fun q2 => h1 ⟨q1, q2⟩)]; rfl
      · rw [decide_eq_false q1]; rfl
    conv => whnf
    repeat' ((first | refine Need.auto ?_ | refine Have.mk (fun _h => ?_)); conv => whnf)
    refine no ?_
    unfold partsM
    by_cases q1 : confE s.cfg = 0
    · rw [decide_eq_false (fun q2 => h1 ⟨q1, q2⟩)]
      simp only [Bool.false_and, Bool.and_false]
    · rw [decide_eq_false q1]
      simp only [Bool.false_and, Bool.and_false]
theorem parts_body : HasBody Tryz.prog 139 := ⟨⟨Tryz.f139, Tryz.func139, rfl, by kernel_rfl⟩⟩
end Go.Proofs
end

section
open Go Go.Am
namespace Go.Proofs
set_option maxRecDepth 20000
theorem ring_asc {l : List Req} (h : ringTo l l.length) : ∀ d i : Nat, i + d < l.length → (l.getD i default).serial ≤ (l.getD (i + d) default).serial
  | 0, i, _ => Int.le_refl _
  | d + 1, i, hi => by
    have ih := ring_asc h d i (by omega)
    have := (h (i + (d + 1)) hi).2 (by omega)
    rw [show i + (d + 1) - 1 = i + d by omega] at this
    omega
theorem ring_last {l : List Req} (h : ringTo l l.length) {n : Int} : (∀ k, k < l.length → (l.getD k default).serial < n) ↔ (0 < l.length → (l.getD (l.length - 1) default).serial < n) := by
  constructor
  · intro q h0; exact q _ (by omega)
  · intro q k hk
    have := q (by omega)
    have h2 := ring_asc h (l.length - 1 - k) k (by omega)
    rw [show k + (l.length - 1 - k) = l.length - 1 by omega] at h2
    omega
theorem lateC_spec (s : St) (e : Evt) : PSpec Tryz.prog 142 [.a e.cells, .c (.ip 48 (lget s.cells))] (.c (.bool (decide (s.serial ≤ e.serial)))) := by
  refine PSpec.rm ?_
  refine CSpec.of_vc hΓ Tryz.func142 rfl 10 0 [.tmp 3] Tryz.ntmps142 rfl (by rw [Tryz.results142]) rfl ?_
  conv => whnf
  repeat' ((first | refine Need.auto ?_ | refine Have.mk (fun _h => ?_)); conv => whnf)
  refine RM.immW rfl ?_; (repeat' (first | exact WA.nil | refine WA.cons rfl ?_ ?_ | exact WB.nil | refine WB.cons ?_ ?_ | exact WT.nil | refine WT.cons ?_ ?_ | exact WH.nil | refine WH.cons ?_ ?_ | exact WR.nil | refine WR.cons rfl ?_ ?_ | refine WO.vr ?_ | exact WO.dead | exact WO.mpS | refine WO.mpA ?_ | exact WO.arrPA (fun i j => plainRow _ _ _) | refine WO.arrA ?_ | exact WS.u | refine WS.c ?_ | refine WS.a ?_ | refine WS.t ?_ | exact WL.nil | refine WL.cons ?_ ?_ | exact WTL.nil | refine WTL.consC ?_ ?_ | refine WTL.consL ?_ ?_ | exact WC.nils | exact WC.nil rfl | exact WC.nilp | refine WC.fzA | exact WC.ptr rfl (Nat.le_of_ble_eq_true rfl) | exact WC.mpr rfl (Nat.le_of_ble_eq_true rfl) | refine WC.slA | refine WC.intA | refine WC.int ?_ | refine WC.boolA | refine WC.bool ?_ | refine WC.strA | refine WC.str ?_ | exact WC.imm rfl))
theorem lateC_body : HasBody Tryz.prog 142 := ⟨⟨Tryz.f142, Tryz.func142, rfl, by kernel_rfl⟩⟩
def capS48 (s : St) : Nat → C := fun _ => .ip 48 (lget s.cells)
theorem lateI_spec (s0 : St) (l : List Evt) (hl : l.length ≤ 1000000) : PSpec Tryz.prog 199 [.c (evC l), .c (.fn (.func 142) 1 (capS48 s0))] (.c (.int .i64 (if l.any (fun (e : Evt) => decide (s0.serial ≤ e.serial)) = true then (l.findIdx (fun (e : Evt) => decide (s0.serial ≤ e.serial)) : Nat) else -1))) := by
  refine PSpec.rm ?_
  refine CSpec.of_vc hΓ Tryz.func199 rfl 19 0 [.tmp 4] Tryz.ntmps199 rfl (by rw [Tryz.results199]) rfl ?_
  conv => whnf
  repeat' ((first | refine Need.auto ?_ | refine Have.mk (fun _h => ?_)); conv => whnf)
  refine Lp.mkK hΓ (ι := Nat) [0, 1, 7] (fun i => [(8, .c (.int .i64 i))]) (fun _ => []) (fun i => i ≤ l.length ∧ ∀ j, j < i → (fun (e : Evt) => decide (s0.serial ≤ e.serial)) (l.getD j default) = false) (fun i => l.length - i) 0 ⟨Nat.zero_le _, fun j hj => absurd hj (by omega)⟩ ?_ ?_
  · refine Mv.mkW ?_ ?_ (Nat.le_of_ble_eq_true rfl) <;> (repeat' (first | exact WA.nil | refine WA.cons rfl ?_ ?_ | exact WB.nil | refine WB.cons ?_ ?_ | exact WT.nil | refine WT.cons ?_ ?_ | exact WH.nil | refine WH.cons ?_ ?_ | exact WR.nil | refine WR.cons rfl ?_ ?_ | refine WO.vr ?_ | exact WO.dead | exact WO.mpS | refine WO.mpA ?_ | exact WO.arrPA (fun i j => plainRow _ _ _) | refine WO.arrA ?_ | exact WS.u | refine WS.c ?_ | refine WS.a ?_ | refine WS.t ?_ | exact WL.nil | refine WL.cons ?_ ?_ | exact WTL.nil | refine WTL.consC ?_ ?_ | refine WTL.consL ?_ ?_ | exact WC.nils | exact WC.nil rfl | exact WC.nilp | refine WC.fzA | exact WC.ptr rfl (Nat.le_of_ble_eq_true rfl) | exact WC.mpr rfl (Nat.le_of_ble_eq_true rfl) | refine WC.slA | refine WC.intA | refine WC.int ?_ | refine WC.boolA | refine WC.bool ?_ | refine WC.strA | refine WC.str ?_ | exact WC.imm rfl))
    exact WC.fnI (fun j _ => rfl)
  · rintro k ⟨hk, hs⟩
    conv => whnf
    repeat' ((first | refine Need.auto ?_ | refine Have.mk (fun _h => ?_)); conv => whnf)
    (first | refine Br.lt (fun h1 => ?_) (fun h1 => ?_) | refine Br.le (fun h1 => ?_) (fun h1 => ?_) | refine Br.gt (fun h1 => ?_) (fun h1 => ?_) | refine Br.ge (fun h1 => ?_) (fun h1 => ?_) | refine Br.eq (fun h1 => ?_) (fun h1 => ?_) | refine Br.ne (fun h1 => ?_) (fun h1 => ?_) | refine Br.not (fun h1 => ?_) (fun h1 => ?_) | refine Br.mk (fun h1 => ?_) (fun h1 => ?_)) <;> (try simp only [Int.toNat_natCast] at h1) <;> (conv => whnf)
    · repeat' ((first | refine Need.auto ?_ | refine Have.mk (fun _h => ?_)); conv => whnf)
      refine CallN.pureA lateC_body (lateC_spec s0 (l.getD k default) ) ?_
      conv => whnf
      repeat' ((first | refine Need.auto ?_ | refine Have.mk (fun _h => ?_)); conv => whnf)
      cases hb : (fun (e : Evt) => decide (s0.serial ≤ e.serial)) (l.getD k default) with
      | true =>
        refine Br.yes hb ?_
        conv => whnf
        repeat' ((first | refine Need.auto ?_ | refine Have.mk (fun _h => ?_)); conv => whnf)
        obtain ⟨q1, q2⟩ := any_getD (p := fun (e : Evt) => decide (s0.serial ≤ e.serial)) (by omega) hb hs
        rw [if_pos q1, q2]
        refine RM.immW rfl ?_; (repeat' (first | exact WA.nil | refine WA.cons rfl ?_ ?_ | exact WB.nil | refine WB.cons ?_ ?_ | exact WT.nil | refine WT.cons ?_ ?_ | exact WH.nil | refine WH.cons ?_ ?_ | exact WR.nil | refine WR.cons rfl ?_ ?_ | refine WO.vr ?_ | exact WO.dead | exact WO.mpS | refine WO.mpA ?_ | exact WO.arrPA (fun i j => plainRow _ _ _) | refine WO.arrA ?_ | exact WS.u | refine WS.c ?_ | refine WS.a ?_ | refine WS.t ?_ | exact WL.nil | refine WL.cons ?_ ?_ | exact WTL.nil | refine WTL.consC ?_ ?_ | refine WTL.consL ?_ ?_ | exact WC.nils | exact WC.nil rfl | exact WC.nilp | refine WC.fzA | exact WC.ptr rfl (Nat.le_of_ble_eq_true rfl) | exact WC.mpr rfl (Nat.le_of_ble_eq_true rfl) | refine WC.slA | refine WC.intA | refine WC.int ?_ | refine WC.boolA | refine WC.bool ?_ | refine WC.strA | refine WC.str ?_ | exact WC.imm rfl))
      | false =>
        refine Br.no hb ?_
        conv => whnf
        repeat' ((first | refine Need.auto ?_ | refine Have.mk (fun _h => ?_)); conv => whnf)
        have w0 := wrap_id (↑k + 1) (by omega) (by omega)
        refine ⟨k + 1, ⟨by omega, all_step hs hb⟩, by omega, ?_⟩
        refine Mv.mkW ?_ ?_ (Nat.le_of_ble_eq_true rfl) <;> (repeat' (first | exact WA.nil | refine WA.cons rfl ?_ ?_ | exact WB.nil | refine WB.cons ?_ ?_ | exact WT.nil | refine WT.cons ?_ ?_ | exact WH.nil | refine WH.cons ?_ ?_ | exact WR.nil | refine WR.cons rfl ?_ ?_ | refine WO.vr ?_ | exact WO.dead | exact WO.mpS | refine WO.mpA ?_ | exact WO.arrPA (fun i j => plainRow _ _ _) | refine WO.arrA ?_ | exact WS.u | refine WS.c ?_ | refine WS.a ?_ | refine WS.t ?_ | exact WL.nil | refine WL.cons ?_ ?_ | exact WTL.nil | refine WTL.consC ?_ ?_ | refine WTL.consL ?_ ?_ | exact WC.nils | exact WC.nil rfl | exact WC.nilp | refine WC.fzA | exact WC.ptr rfl (Nat.le_of_ble_eq_true rfl) | exact WC.mpr rfl (Nat.le_of_ble_eq_true rfl) | refine WC.slA | refine WC.intA | refine WC.int ?_ | refine WC.boolA | refine WC.bool ?_ | refine WC.strA | refine WC.str ?_ | exact WC.imm rfl))
        exact WC.fnI (fun j _ => rfl)
    · repeat' ((first | refine Need.auto ?_ | refine Have.mk (fun _h => ?_)); conv => whnf)
      rw [if_neg (any_none (fun j hj => hs j (by omega)))]
      refine RM.immW rfl ?_; (repeat' (first | exact WA.nil | refine WA.cons rfl ?_ ?_ | exact WB.nil | refine WB.cons ?_ ?_ | exact WT.nil | refine WT.cons ?_ ?_ | exact WH.nil | refine WH.cons ?_ ?_ | exact WR.nil | refine WR.cons rfl ?_ ?_ | refine WO.vr ?_ | exact WO.dead | exact WO.mpS | refine WO.mpA ?_ | exact WO.arrPA (fun i j => plainRow _ _ _) | refine WO.arrA ?_ | exact WS.u | refine WS.c ?_ | refine WS.a ?_ | refine WS.t ?_ | exact WL.nil | refine WL.cons ?_ ?_ | exact WTL.nil | refine WTL.consC ?_ ?_ | refine WTL.consL ?_ ?_ | exact WC.nils | exact WC.nil rfl | exact WC.nilp | refine WC.fzA | exact WC.ptr rfl (Nat.le_of_ble_eq_true rfl) | exact WC.mpr rfl (Nat.le_of_ble_eq_true rfl) | refine WC.slA | refine WC.intA | refine WC.int ?_ | refine WC.boolA | refine WC.bool ?_ | refine WC.strA | refine WC.str ?_ | exact WC.imm rfl))
theorem lateI_body : HasBody Tryz.prog 199 := ⟨⟨Tryz.f199, Tryz.func199, rfl, by kernel_rfl⟩⟩
theorem late_spec (s0 : St) (l : List Evt) (hl : l.length ≤ 1000000) : PSpec Tryz.prog 141 [.c (evC l), .c (.fn (.func 142) 1 (capS48 s0))] (.c (.bool (l.any (fun (e : Evt) => decide (s0.serial ≤ e.serial))))) := by
  refine PSpec.rm ?_
  refine CSpec.of_vc hΓ Tryz.func141 rfl 9 0 [.tmp 4] Tryz.ntmps141 rfl (by rw [Tryz.results141]) rfl ?_
  conv => whnf
  repeat' ((first | refine Need.auto ?_ | refine Have.mk (fun _h => ?_)); conv => whnf)
  refine CallN.reads lateI_body (lateI_spec s0 l hl) (BwA.cons (BwS.c (Bw.same rfl)) (BwA.cons (BwS.c (Bw.fn fun j _ => Bw.same (rfl))) BwA.nil)) rfl ?_
  conv => whnf
  repeat' ((first | refine Need.auto ?_ | refine Have.mk (fun _h => ?_)); conv => whnf)
  refine RM.immW rfl ?_; (repeat' (first | exact WA.nil | refine WA.cons rfl ?_ ?_ | exact WB.nil | refine WB.cons ?_ ?_ | exact WT.nil | refine WT.cons ?_ ?_ | exact WH.nil | refine WH.cons ?_ ?_ | exact WR.nil | refine WR.cons rfl ?_ ?_ | refine WO.vr ?_ | exact WO.dead | exact WO.mpS | refine WO.mpA ?_ | exact WO.arrPA (fun i j => plainRow _ _ _) | refine WO.arrA ?_ | exact WS.u | refine WS.c ?_ | refine WS.a ?_ | refine WS.t ?_ | exact WL.nil | refine WL.cons ?_ ?_ | exact WTL.nil | refine WTL.consC ?_ ?_ | refine WTL.consL ?_ ?_ | exact WC.nils | exact WC.nil rfl | exact WC.nilp | refine WC.fzA | exact WC.ptr rfl (Nat.le_of_ble_eq_true rfl) | exact WC.mpr rfl (Nat.le_of_ble_eq_true rfl) | refine WC.slA | refine WC.intA | refine WC.int ?_ | refine WC.boolA | refine WC.bool ?_ | refine WC.strA | refine WC.str ?_ | exact WC.imm rfl))
  cases l.any (fun (e : Evt) => decide (s0.serial ≤ e.serial)) with
  | true => simp
  | false => rfl
theorem late_body : HasBody Tryz.prog 141 := ⟨⟨Tryz.f141, Tryz.func141, rfl, by kernel_rfl⟩⟩
theorem queueB {r1 w1 : Bool} {d d' st q n : Int} : (bif (bif (bif !r1 then true else d != d') then true else !w1) then true else (bif st != 0 then decide (q ≥ n) else false)) = false ↔ r1 = true ∧ d = d' ∧ w1 = true ∧ (st = 0 ∨ q < n) := by
  cases r1 <;> cases w1 <;> by_cases h1 : d = d' <;> by_cases h2 : st = 0 <;> simp [h1, h2]
theorem queueOk_iff {s : St} {i : Nat} : queueOk s i = true ↔ (ringOk (s.rings.getD i default) = true ∧ (s.rings.getD i default).depth = s.cfg.depth ∧ wrkOk s.cfg (s.works.getD i default) = true ∧ ((s.works.getD i default).state = 0 ∨ (s.works.getD i default).req.serial < s.serial)) ∧
    ∀ k, k < (s.rings.getD i default).items.length → ((s.rings.getD i default).items.getD k default).serial < s.serial := by
  unfold queueOk
  simp only [Bool.and_eq_true, decide_eq_true_eq]
  exact ⟨fun ⟨a, b, c, d, e⟩ => ⟨⟨a, b, c, d⟩, e⟩, fun ⟨⟨a, b, c, d⟩, e⟩ => ⟨a, b, c, d, e⟩⟩
theorem lastB {n : Nat} {a b : Int} : (bif decide ((n : Int) > 0) then decide (a ≥ b) else false) = false ↔ (0 < n → a < b) := by
  by_cases h : 0 < n
  · rw [decide_eq_true (show (n : Int) > 0 by omega)]
    simp [h]
  · rw [decide_eq_false (show ¬ (n : Int) > 0 by omega)]
    simp [h]
theorem partsM_len {s : St} (h : partsM s = true) : s.rings.length = s.works.length ∧ 0 ≤ s.serial ∧ s.serial ≤ 1099511627776 := by
  unfold partsM at h
  simp only [Bool.and_eq_true, decide_eq_true_eq] at h
  omega
set_option maxHeartbeats 4000000 in
theorem shape_st_spec (s : St) (hs : s.small) (l : List Ent) (hall : mapOk s.map = true → AllS s.map l) : PSpec Tryz.prog 66 [.a s.cells] (.c (.bool (validS s))) := by
  refine PSpec.rm ?_
  refine CSpec.of_vc hΓ Tryz.func66 rfl 82 0 [.tmp 2] Tryz.ntmps66 rfl (by rw [Tryz.results66]) rfl ?_
  conv => whnf
  repeat' ((first | refine Need.auto ?_ | refine Have.mk (fun _h => ?_)); conv => whnf)
  refine CallN.pureA parts_body (parts_spec s hs l hall ) ?_
  conv => whnf
  repeat' ((first | refine Need.auto ?_ | refine Have.mk (fun _h => ?_)); conv => whnf)
  cases hp : partsM s with
  | false =>
    refine Br.yes rfl ?_
    conv => whnf
    repeat' ((first | refine Need.auto ?_ | refine Have.mk (fun _h => ?_)); conv => whnf)
    rw [show validS s = false by unfold validS; rw [hp]; rfl]
    refine RM.immW rfl ?_; (repeat' (first | exact WA.nil | refine WA.cons rfl ?_ ?_ | exact WB.nil | refine WB.cons ?_ ?_ | exact WT.nil | refine WT.cons ?_ ?_ | exact WH.nil | refine WH.cons ?_ ?_ | exact WR.nil | refine WR.cons rfl ?_ ?_ | refine WO.vr ?_ | exact WO.dead | exact WO.mpS | refine WO.mpA ?_ | exact WO.arrPA (fun i j => plainRow _ _ _) | refine WO.arrA ?_ | exact WS.u | refine WS.c ?_ | refine WS.a ?_ | refine WS.t ?_ | exact WL.nil | refine WL.cons ?_ ?_ | exact WTL.nil | refine WTL.consC ?_ ?_ | refine WTL.consL ?_ ?_ | exact WC.nils | exact WC.nil rfl | exact WC.nilp | refine WC.fzA | exact WC.ptr rfl (Nat.le_of_ble_eq_true rfl) | exact WC.mpr rfl (Nat.le_of_ble_eq_true rfl) | refine WC.slA | refine WC.intA | refine WC.int ?_ | refine WC.boolA | refine WC.bool ?_ | refine WC.strA | refine WC.str ?_ | exact WC.imm rfl))
  | true =>
    refine Br.no rfl ?_
    conv => whnf
    repeat' ((first | refine Need.auto ?_ | refine Have.mk (fun _h => ?_)); conv => whnf)
    have hpl := partsM_len hp
    refine Lp.mkK hΓ (ι := Nat) [1, 12, 13] (fun i => [(14, .c (.int .i64 i))]) (fun _ => [.vr s.cells]) (fun k => k ≤ s.rings.length ∧ ∀ i, i < k → queueOk s i = true) (fun i => s.rings.length - i) 0 ⟨Nat.zero_le _, fun j hj => absurd hj (Nat.not_lt_zero _)⟩ ?_ ?_
    · refine Mv.mkW ?_ ?_ (Nat.le_of_ble_eq_true rfl) <;> (repeat' (first | exact WA.nil | refine WA.cons rfl ?_ ?_ | exact WB.nil | refine WB.cons ?_ ?_ | exact WT.nil | refine WT.cons ?_ ?_ | exact WH.nil | refine WH.cons ?_ ?_ | exact WR.nil | refine WR.cons rfl ?_ ?_ | refine WO.vr ?_ | exact WO.dead | exact WO.mpS | refine WO.mpA ?_ | exact WO.arrPA (fun i j => plainRow _ _ _) | refine WO.arrA ?_ | exact WS.u | refine WS.c ?_ | refine WS.a ?_ | refine WS.t ?_ | exact WL.nil | refine WL.cons ?_ ?_ | exact WTL.nil | refine WTL.consC ?_ ?_ | refine WTL.consL ?_ ?_ | exact WC.nils | exact WC.nil rfl | exact WC.nilp | refine WC.fzA | exact WC.ptr rfl (Nat.le_of_ble_eq_true rfl) | exact WC.mpr rfl (Nat.le_of_ble_eq_true rfl) | refine WC.slA | refine WC.intA | refine WC.int ?_ | refine WC.boolA | refine WC.bool ?_ | refine WC.strA | refine WC.str ?_ | exact WC.imm rfl))
    · rintro k ⟨hk, hk2⟩
      have hrl := hs.rings
      have hil := hs.items k
      conv => whnf
      repeat' ((first | refine Need.auto ?_ | refine Have.mk (fun _h => ?_)); conv => whnf)
      (first | refine Br.lt (fun h2 => ?_) (fun h2 => ?_) | refine Br.le (fun h2 => ?_) (fun h2 => ?_) | refine Br.gt (fun h2 => ?_) (fun h2 => ?_) | refine Br.ge (fun h2 => ?_) (fun h2 => ?_) | refine Br.eq (fun h2 => ?_) (fun h2 => ?_) | refine Br.ne (fun h2 => ?_) (fun h2 => ?_) | refine Br.not (fun h2 => ?_) (fun h2 => ?_) | refine Br.mk (fun h2 => ?_) (fun h2 => ?_)) <;> (try simp only [Int.toNat_natCast] at h2) <;> (conv => whnf)
      · repeat' ((first | refine Need.auto ?_ | refine Have.mk (fun _h => ?_)); conv => whnf)
        refine CallN.pureA ringvalid_body (ringvalid_spec (s.rings.getD k default) hil ) ?_
        conv => whnf
        repeat' ((first | refine Need.auto ?_ | refine Have.mk (fun _h => ?_)); conv => whnf)
        refine CallG.auto wright_body (fun _ => wright_spec s (s.works.getD k default) ) ?_
        conv => whnf
        repeat' ((first | refine Need.auto ?_ | refine Have.mk (fun _h => ?_)); conv => whnf)
        have w0 := wrap_id (↑k + 1) (by omega) (by omega)
        have no : ¬ queueOk s k = true → validS s = false := fun q => by
          unfold validS
          rw [decide_eq_false (fun z => q (z k (by omega)))]
          simp only [Bool.false_and, Bool.and_false]
        by_cases e : ringOk (s.rings.getD k default) = true ∧ (s.rings.getD k default).depth = s.cfg.depth ∧ wrkOk s.cfg (s.works.getD k default) = true ∧ ((s.works.getD k default).state = 0 ∨ (s.works.getD k default).req.serial < s.serial)
        · refine Br.no (queueB.2 e) ?_
          conv => whnf
          repeat' ((first | refine Need.auto ?_ | refine Have.mk (fun _h => ?_)); conv => whnf)
          refine Dr.mk hΓ hMix (by kernel_rfl) ?_; conv => whnf
          repeat' ((first | refine Need.auto ?_ | refine Have.mk (fun _h => ?_)); conv => whnf)
          have e0 : (k : Int).toNat = k := rfl
          have hw : IntKind.i64.wrap (↑(s.rings.getD k default).items.length - 1) = ↑(s.rings.getD k default).items.length - 1 := wrap_id _ (by omega) (by omega)
          refine Need.mk (fun h => by have h' := of_decide_eq_true h; rw [e0] at h' ⊢; rw [hw]; omega) ?_
          conv => whnf
          refine Need.mk (fun h => by have h' := of_decide_eq_true h; rw [e0] at h' ⊢; rw [hw]; omega) ?_
          conv => whnf
          repeat' ((first | refine Need.auto ?_ | refine Have.mk (fun _h => ?_)); conv => whnf)
          have hp2 : (IntKind.i64.wrap (↑(s.rings.getD k default).items.length - 1)).toNat = (s.rings.getD k default).items.length - 1 := by rw [hw]; omega
          have hro := (ringOk_iff.1 e.1).2
          rw [e0, hp2]
          by_cases e2 : 0 < (s.rings.getD k default).items.length → ((s.rings.getD k default).items.getD ((s.rings.getD k default).items.length - 1) default).serial < s.serial
          · refine Br.no (lastB.2 e2) ?_
            conv => whnf
            repeat' ((first | refine Need.auto ?_ | refine Have.mk (fun _h => ?_)); conv => whnf)
            refine ⟨k + 1, ⟨by omega, all_step hk2 (queueOk_iff.2 ⟨e, (ring_last hro).2 e2⟩)⟩, by omega, ?_⟩
            refine Mv.mkW ?_ ?_ (Nat.le_of_ble_eq_true rfl) <;> (repeat' (first | exact WA.nil | refine WA.cons rfl ?_ ?_ | exact WB.nil | refine WB.cons ?_ ?_ | exact WT.nil | refine WT.cons ?_ ?_ | exact WH.nil | refine WH.cons ?_ ?_ | exact WR.nil | refine WR.cons rfl ?_ ?_ | refine WO.vr ?_ | exact WO.dead | exact WO.mpS | refine WO.mpA ?_ | exact WO.arrPA (fun i j => plainRow _ _ _) | refine WO.arrA ?_ | exact WS.u | refine WS.c ?_ | refine WS.a ?_ | refine WS.t ?_ | exact WL.nil | refine WL.cons ?_ ?_ | exact WTL.nil | refine WTL.consC ?_ ?_ | refine WTL.consL ?_ ?_ | exact WC.nils | exact WC.nil rfl | exact WC.nilp | refine WC.fzA | exact WC.ptr rfl (Nat.le_of_ble_eq_true rfl) | exact WC.mpr rfl (Nat.le_of_ble_eq_true rfl) | refine WC.slA | refine WC.intA | refine WC.int ?_ | refine WC.boolA | refine WC.bool ?_ | refine WC.strA | refine WC.str ?_ | exact WC.imm rfl))
          · refine Br.yes ?_ ?_
            · refine Decidable.byContradiction fun z => e2 (lastB.1 (bool_no z))
            conv => whnf
            repeat' ((first | refine Need.auto ?_ | refine Have.mk (fun _h => ?_)); conv => whnf)
            rw [no (fun z => e2 ((ring_last hro).1 (queueOk_iff.1 z).2))]
            refine RM.immW rfl ?_; (repeat' (first | exact WA.nil | refine WA.cons rfl ?_ ?_ | exact WB.nil | refine WB.cons ?_ ?_ | exact WT.nil | refine WT.cons ?_ ?_ | exact WH.nil | refine WH.cons ?_ ?_ | exact WR.nil | refine WR.cons rfl ?_ ?_ | refine WO.vr ?_ | exact WO.dead | exact WO.mpS | refine WO.mpA ?_ | exact WO.arrPA (fun i j => plainRow _ _ _) | refine WO.arrA ?_ | exact WS.u | refine WS.c ?_ | refine WS.a ?_ | refine WS.t ?_ | exact WL.nil | refine WL.cons ?_ ?_ | exact WTL.nil | refine WTL.consC ?_ ?_ | refine WTL.consL ?_ ?_ | exact WC.nils | exact WC.nil rfl | exact WC.nilp | refine WC.fzA | exact WC.ptr rfl (Nat.le_of_ble_eq_true rfl) | exact WC.mpr rfl (Nat.le_of_ble_eq_true rfl) | refine WC.slA | refine WC.intA | refine WC.int ?_ | refine WC.boolA | refine WC.bool ?_ | refine WC.strA | refine WC.str ?_ | exact WC.imm rfl))
        · refine Br.yes ?_ ?_
          · refine Decidable.byContradiction fun z => e (queueB.1 (bool_no z))
          conv => whnf
          repeat' ((first | refine Need.auto ?_ | refine Have.mk (fun _h => ?_)); conv => whnf)
          rw [no (fun z => e (queueOk_iff.1 z).1)]
          refine RM.immW rfl ?_; (repeat' (first | exact WA.nil | refine WA.cons rfl ?_ ?_ | exact WB.nil | refine WB.cons ?_ ?_ | exact WT.nil | refine WT.cons ?_ ?_ | exact WH.nil | refine WH.cons ?_ ?_ | exact WR.nil | refine WR.cons rfl ?_ ?_ | refine WO.vr ?_ | exact WO.dead | exact WO.mpS | refine WO.mpA ?_ | exact WO.arrPA (fun i j => plainRow _ _ _) | refine WO.arrA ?_ | exact WS.u | refine WS.c ?_ | refine WS.a ?_ | refine WS.t ?_ | exact WL.nil | refine WL.cons ?_ ?_ | exact WTL.nil | refine WTL.consC ?_ ?_ | refine WTL.consL ?_ ?_ | exact WC.nils | exact WC.nil rfl | exact WC.nilp | refine WC.fzA | exact WC.ptr rfl (Nat.le_of_ble_eq_true rfl) | exact WC.mpr rfl (Nat.le_of_ble_eq_true rfl) | refine WC.slA | refine WC.intA | refine WC.int ?_ | refine WC.boolA | refine WC.bool ?_ | refine WC.strA | refine WC.str ?_ | exact WC.imm rfl))
      · repeat' ((first | refine Need.auto ?_ | refine Have.mk (fun _h => ?_)); conv => whnf)
        refine CallN.reads late_body (late_spec s s.evs hs.evs) (BwA.cons (BwS.c (Bw.same rfl)) (BwA.cons (BwS.c (Bw.fn1 (g := lget [.ptr 0 0]) (g' := capS48 s) (Bw.ptrL (cs := s.cells) rfl rfl rfl))) BwA.nil)) rfl ?_
        conv => whnf
        repeat' ((first | refine Need.auto ?_ | refine Have.mk (fun _h => ?_)); conv => whnf)
        refine RM.immW rfl (WS.c (WC.bool ?_))
        unfold validS
        rw [hp, decide_eq_true (fun i hi => hk2 i (by omega)), Bool.eq_iff_iff]
        simp only [Bool.true_and, Bool.not_eq_true', any_iff, decide_eq_true_eq, decide_eq_false_iff_not]
        exact ⟨fun q i hi => by have := q i hi; omega, fun q i hi => by have := q i hi; omega⟩
theorem shape_st_body : HasBody Tryz.prog 66 := ⟨⟨Tryz.f66, Tryz.func66, rfl, by kernel_rfl⟩⟩
theorem valid_spec (s : St) (hs : s.small) (l : List Ent) (hall : mapOk s.map = true → AllS s.map l) : PSpec Tryz.prog 30 [.a s.cells] (.c (.bool (validS s))) := by
  refine PSpec.rm ?_
  refine CSpec.of_vc hΓ Tryz.func30 rfl 6 0 [.tmp 2] Tryz.ntmps30 rfl (by rw [Tryz.results30]) rfl ?_
  conv => whnf
  repeat' ((first | refine Need.auto ?_ | refine Have.mk (fun _h => ?_)); conv => whnf)
  refine CallN.pureA shape_st_body (shape_st_spec s hs l hall ) ?_
  conv => whnf
  repeat' ((first | refine Need.auto ?_ | refine Have.mk (fun _h => ?_)); conv => whnf)
  refine RM.immW rfl ?_; (repeat' (first | exact WA.nil | refine WA.cons rfl ?_ ?_ | exact WB.nil | refine WB.cons ?_ ?_ | exact WT.nil | refine WT.cons ?_ ?_ | exact WH.nil | refine WH.cons ?_ ?_ | exact WR.nil | refine WR.cons rfl ?_ ?_ | refine WO.vr ?_ | exact WO.dead | exact WO.mpS | refine WO.mpA ?_ | exact WO.arrPA (fun i j => plainRow _ _ _) | refine WO.arrA ?_ | exact WS.u | refine WS.c ?_ | refine WS.a ?_ | refine WS.t ?_ | exact WL.nil | refine WL.cons ?_ ?_ | exact WTL.nil | refine WTL.consC ?_ ?_ | refine WTL.consL ?_ ?_ | exact WC.nils | exact WC.nil rfl | exact WC.nilp | refine WC.fzA | exact WC.ptr rfl (Nat.le_of_ble_eq_true rfl) | exact WC.mpr rfl (Nat.le_of_ble_eq_true rfl) | refine WC.slA | refine WC.intA | refine WC.int ?_ | refine WC.boolA | refine WC.bool ?_ | refine WC.strA | refine WC.str ?_ | exact WC.imm rfl))
theorem valid_body : HasBody Tryz.prog 30 := ⟨⟨Tryz.f30, Tryz.func30, rfl, by kernel_rfl⟩⟩
end Go.Proofs
end

section
open Go Go.Am
namespace Go.Am
theorem CallE.reads {P : Program} {f : FuncId} {args args' : List S} {r : S} {H : List O} {k : S → List O → Prop} (hb : HasBody P f) (hp : PSpec P f args' r) (ha : BwA H args args') (hr : r.flat = true) (hk : k r H) : CallE P f args H k :=
  ⟨r, H, hb, CSpec.reads hp ha hr ⟨rfl, rfl⟩, fun _ _ _ h => h, hk⟩
end Go.Am
namespace Go.Proofs
set_option maxRecDepth 20000
theorem BwL.own {H : List O} {s : St} {a b c e1 e2 e3 : Nat} {x1 x2 x3 : Bool} (ha : getL H a = some (.arr e1 2 s.rings.length (rngG s.rings))) (hb : getL H b = some (.arr e2 12 s.works.length (wrkG s.works))) (hc : getL H c = some (.arr e3 8 s.evs.length (evG s.evs))) :
    BwL H (s.cellsW (.sl a 2 s.rings.length s.rings.length x1) (.sl b 12 s.works.length s.works.length x2) (.sl c 8 s.evs.length s.evs.length x3)) s.cells := by
  have ra : Bw H (.sl a 2 s.rings.length s.rings.length x1) (rngC s.rings) := Bw.sl ha rfl (fun i _ j _ => Bw.same (rngCell_imm _ _)) (fun e => by cases e)
  have rb : Bw H (.sl b 12 s.works.length s.works.length x2) (wrkC s.works) := Bw.sl hb rfl (fun i _ j _ => Bw.same (wrkCell_imm _ _)) (fun e => by cases e)
  have rc : Bw H (.sl c 8 s.evs.length s.evs.length x3) (evC s.evs) := Bw.sl hc rfl (fun i _ j _ => Bw.same (evCell_imm _ _)) (fun e => by cases e)
  unfold St.cells St.cellsW St.cellsX St.cellsZ
  repeat' (first | exact BwL.nil | refine BwL.cons ?_ ?_ | exact ra | exact rb | exact rc | exact Bw.same rfl)
theorem edit_spec (s : St) (hs : s.small) (l : List Ent) (hall : mapOk s.map = true → AllS s.map l) : CSpec Tryz.prog 59 [.a s.cells] [] fun r H => r = .t [.inr (s.own 0 1 2), .inl (.bool (validS s))] ∧ H = s.objs := by
  refine CSpec.rm ?_
  refine CSpec.of_vc hΓ Tryz.func59 rfl 13 0 [.cell 2 138, .tmp 3] Tryz.ntmps59 rfl (by rw [Tryz.results59]) rfl ?_
  conv => whnf
  repeat' ((first | refine Need.auto ?_ | refine Have.mk (fun _h => ?_)); conv => whnf)
  refine CallN.autoQ [] state_body (state_spec s hs) ?_; conv => whnf
  repeat' ((first | refine Need.auto ?_ | refine Have.mk (fun _h => ?_)); conv => whnf)
  refine Dr.mvK [2, 4] [] [.vr s.cells, .vr (default : St).cells, .arr 98 2 s.rings.length (rngG s.rings), .arr 68 12 s.works.length (wrkG s.works), .arr 94 8 s.evs.length (evG s.evs), .vr (s.own 2 3 4)] (Mv.mkW ?_ ?_ (Nat.le_of_ble_eq_true rfl)) ?_ <;> (repeat' (first | exact WA.nil | refine WA.cons rfl ?_ ?_ | exact WB.nil | refine WB.cons ?_ ?_ | exact WT.nil | refine WT.cons ?_ ?_ | exact WH.nil | refine WH.cons ?_ ?_ | exact WR.nil | refine WR.cons rfl ?_ ?_ | refine WO.vr ?_ | exact WO.dead | exact WO.mpS | refine WO.mpA ?_ | exact WO.arrPA (fun i j => plainRow _ _ _) | refine WO.arrA ?_ | exact WS.u | refine WS.c ?_ | refine WS.a ?_ | refine WS.t ?_ | exact WL.nil | refine WL.cons ?_ ?_ | exact WTL.nil | refine WTL.consC ?_ ?_ | refine WTL.consL ?_ ?_ | exact WC.nils | exact WC.nil rfl | exact WC.nilp | refine WC.fzA | exact WC.ptr rfl (Nat.le_of_ble_eq_true rfl) | exact WC.mpr rfl (Nat.le_of_ble_eq_true rfl) | refine WC.slA | refine WC.intA | refine WC.int ?_ | refine WC.boolA | refine WC.bool ?_ | refine WC.strA | refine WC.str ?_ | exact WC.imm rfl))
  · exact fun i _ j _ => WC.reI (rngCell_imm _ _)
  · exact fun i _ j _ => WC.reI (wrkCell_imm _ _)
  · exact fun i _ j _ => WC.reI (evCell_imm _ _)
  refine Dr.mkE hΓ hMix [66] [(0, 3)] (by kernel_rfl) ?_; conv => whnf
  repeat' ((first | refine Need.auto ?_ | refine Have.mk (fun _h => ?_)); conv => whnf)
  refine CallE.reads shape_st_body (shape_st_spec s hs l hall) (BwA.cons (BwS.a (BwL.own (a := 2) (b := 3) (c := 4) rfl rfl rfl)) BwA.nil) rfl ?_
  conv => whnf
  repeat' ((first | refine Need.auto ?_ | refine Have.mk (fun _h => ?_)); conv => whnf)
  refine ⟨_, _, ?_, rfl, rfl⟩
  refine RM.renW [2, 3, 4] (by decide) ?_ ?_ <;> (repeat' (first | exact WA.nil | refine WA.cons rfl ?_ ?_ | exact WB.nil | refine WB.cons ?_ ?_ | exact WT.nil | refine WT.cons ?_ ?_ | exact WH.nil | refine WH.cons ?_ ?_ | exact WR.nil | refine WR.cons rfl ?_ ?_ | refine WO.vr ?_ | exact WO.dead | exact WO.mpS | refine WO.mpA ?_ | exact WO.arrPA (fun i j => plainRow _ _ _) | refine WO.arrA ?_ | exact WS.u | refine WS.c ?_ | refine WS.a ?_ | refine WS.t ?_ | exact WL.nil | refine WL.cons ?_ ?_ | exact WTL.nil | refine WTL.consC ?_ ?_ | refine WTL.consL ?_ ?_ | exact WC.nils | exact WC.nil rfl | exact WC.nilp | refine WC.fzA | exact WC.ptr rfl (Nat.le_of_ble_eq_true rfl) | exact WC.mpr rfl (Nat.le_of_ble_eq_true rfl) | refine WC.slA | refine WC.intA | refine WC.int ?_ | refine WC.boolA | refine WC.bool ?_ | refine WC.strA | refine WC.str ?_ | exact WC.imm rfl))
  · exact fun i _ j _ => WC.imm (rngCell_imm _ _)
  · exact fun i _ j _ => WC.imm (wrkCell_imm _ _)
  · exact fun i _ j _ => WC.imm (evCell_imm _ _)
theorem edit_body : HasBody Tryz.prog 59 := ⟨⟨Tryz.f59, Tryz.func59, rfl, by kernel_rfl⟩⟩
theorem evSnoc {l : List Evt} {x : Evt} {t : List C} {n i j : Nat} (hn : n = l.length) (hi : i < l.length + 1) (hj : j < 8) : appG (evG l) n (flatG 8 (.bool x.ret :: .int .i64 x.queue :: .int .i64 x.serial :: .int .i64 x.kind :: .int .i64 x.block :: .str x.data :: .int .i64 x.err :: .str x.rdata :: t)) i j = evG (l ++ [x]) i j :=
  rowG_snoc (f := Evt.cell) hn (fun j hj => by
    match j, hj with
    | 0, _ => rfl
    | 1, _ => rfl
    | 2, _ => rfl
    | 3, _ => rfl
    | 4, _ => rfl
    | 5, _ => rfl
    | 6, _ => rfl
    | 7, _ => rfl) hi hj
theorem tell_spec (s : St) (back : Bool) (q : Int) (r : Req) (err : Int) (d : ByteArray) (hs : s.evs.length ≤ 1000000) : CSpec Tryz.prog 62 [.c (.ptr 0 0), .c (.bool back), .c (.int .i64 q), .a r.cells, .a [.int .i64 err, .str d]] (.vr (s.own 1 2 3) :: s.objs) fun x H => x = .t [] ∧ H = .vr ((s.addEv (tellE back q r err d)).own 1 2 3) :: (s.addEv (tellE back q r err d)).objs := by
  refine CSpec.rm ?_
  refine CSpec.of_vc hΓ Tryz.func62 rfl 31 4 [] Tryz.ntmps62 rfl (by rw [Tryz.results62]) rfl ?_
  conv => whnf
  repeat' ((first | refine Need.auto ?_ | refine Have.mk (fun _h => ?_)); conv => whnf)
  refine Dr.mkE hΓ hMix [] [(0, 16)] (by kernel_rfl) ?_; conv => whnf
  repeat' ((first | refine Need.auto ?_ | refine Have.mk (fun _h => ?_)); conv => whnf)
  refine ⟨_, _, ?_, rfl, rfl⟩
  have hl : (s.addEv (tellE back q r err d)).evs.length = s.evs.length + 1 := by simp [St.addEv]
  unfold St.own St.objs
  rw [hl]
  refine RM.wkW ?_ ?_ (Nat.le_refl _) <;> (repeat' (first | exact WA.nil | refine WA.cons rfl ?_ ?_ | exact WB.nil | refine WB.cons ?_ ?_ | exact WT.nil | refine WT.cons ?_ ?_ | exact WH.nil | refine WH.cons ?_ ?_ | exact WR.nil | refine WR.cons rfl ?_ ?_ | refine WO.vr ?_ | exact WO.dead | exact WO.mpS | refine WO.mpA ?_ | exact WO.arrPA (fun i j => plainRow _ _ _) | refine WO.arrA ?_ | exact WS.u | refine WS.c ?_ | refine WS.a ?_ | refine WS.t ?_ | exact WL.nil | refine WL.cons ?_ ?_ | exact WTL.nil | refine WTL.consC ?_ ?_ | refine WTL.consL ?_ ?_ | exact WC.nils | exact WC.nil rfl | exact WC.nilp | refine WC.fzA | exact WC.ptr rfl (Nat.le_of_ble_eq_true rfl) | exact WC.mpr rfl (Nat.le_of_ble_eq_true rfl) | refine WC.slA | refine WC.intA | refine WC.int ?_ | refine WC.boolA | refine WC.bool ?_ | refine WC.strA | refine WC.str ?_ | exact WC.imm rfl))
  · exact fun i _ j _ => WC.imm (rngCell_imm _ _)
  · exact fun i _ j _ => WC.imm (wrkCell_imm _ _)
  · exact fun i hi j hj => WC.eq (evSnoc (x := tellE back q r err d) rfl hi hj) (evCell_imm _ _)
theorem tell_body : HasBody Tryz.prog 62 := ⟨⟨Tryz.f62, Tryz.func62, rfl, by kernel_rfl⟩⟩
end Go.Proofs
end
