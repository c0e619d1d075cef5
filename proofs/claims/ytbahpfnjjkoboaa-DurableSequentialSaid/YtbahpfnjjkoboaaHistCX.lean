/- Part of the proofs of laws of this seat: contracts and plain lemmas; no condition is added to a statement. -/
import Derived.Test.YtbahpfnjjkoboaaHistBX
set_option linter.unusedSimpArgs false
set_option linter.unusedVariables false
section
open Go Go.Am
namespace Go.Proofs
/-- Events by their numbers. -/
def getE (es : List Evt) (n : Int) : Evt := (es.find? fun e => decide (e.serial = n)).getD default
def hasE (es : List Evt) (n : Int) : Bool := decide (n ∈ es.map Evt.serial)
def keyE (es : List Evt) : List Key := es.map fun e => .c (.i .i64 e.serial)
def zEvt : List Z := [Z.b, Z.i .i64, Z.i .i64, Z.i .i64, Z.i .i64, Z.s, Z.i .i64, Z.s]
def mapE (es : List Evt) : O := .mp (.c (some .i64)) zEvt true (keyE es) (fun k j => Evt.cell (getE es (keyI k)) j)
theorem memK_E {es : List Evt} {n : Int} : memK (keyE es) (.c (.i .i64 n)) = hasE es n := by
  unfold memK hasE keyE
  congr 1
  simp only [List.mem_map, Key.c.injEq, KC.i.injEq, true_and, eq_iff_iff]
theorem updK_E {es : List Evt} {e : Evt} (h : hasE es e.serial = false) : updK (keyE es) (.c (.i .i64 e.serial)) = keyE (es ++ [e]) := by
  unfold updK
  rw [memK_E, h]
  simp [keyE]
theorem getE_not {es : List Evt} {n : Int} (h : hasE es n = false) : getE es n = default := by
  unfold getE
  have : es.find? (fun e => decide (e.serial = n)) = none := by
    rw [List.find?_eq_none]
    intro e he
    simp only [hasE, decide_eq_false_iff_not, List.mem_map, not_exists, not_and] at h
    simpa using h e he
  rw [this]; rfl
theorem getE_new {es : List Evt} {e : Evt} (h : hasE es e.serial = false) (x : Int) : getE (es ++ [e]) x = if x = e.serial then e else getE es x := by
  unfold getE
  rw [List.find?_append]
  by_cases c : x = e.serial
  · subst c
    have : es.find? (fun f => decide (f.serial = e.serial)) = none := by
      rw [List.find?_eq_none]
      intro f hf
      simp only [hasE, decide_eq_false_iff_not, List.mem_map, not_exists, not_and] at h
      simpa using h f hf
    simp [this]
  · have : List.find? (fun f => decide (f.serial = x)) [e] = none := by simp; exact fun q => c q.symm
    simp [this, c]
theorem updV_E {es : List Evt} {e : Evt} {x : Int} {j : Nat} (h : hasE es e.serial = false) {cs : List C} (hc : ∀ j, lget cs j = e.cell j) :
    updV (fun k (j : Nat) => Evt.cell (getE es (keyI k)) j) (.c (.i .i64 e.serial)) (lget cs) (.c (.i .i64 x)) j = Evt.cell (getE (es ++ [e]) x) j := by
  rw [getE_new h]
  simp only [updV, Key.c.injEq, KC.i.injEq, true_and]
  by_cases c : x = e.serial
  · rw [if_pos c, if_pos c, hc]
  · rw [if_neg c, if_neg c]; rfl
theorem cells_lget (e : Evt) : ∀ j, lget e.cells j = e.cell j
  | 0 => rfl
  | 1 => rfl
  | 2 => rfl
  | 3 => rfl
  | 4 => rfl
  | 5 => rfl
  | 6 => rfl
  | 7 => rfl
  | _ + 8 => rfl
theorem WO.mapE_new {ρ : Nat → Nat} {n : Nat} {es : List Evt} {e : Evt} {cs : List C} (h : hasE es e.serial = false) (hc : ∀ j, lget cs j = e.cell j) :
    WO ρ n (.mp (.c (some .i64)) zEvt true (updK (keyE es) (.c (.i .i64 e.serial))) (updV (fun k (j : Nat) => Evt.cell (getE es (keyI k)) j) (.c (.i .i64 e.serial)) (lget cs))) (mapE (es ++ [e])) :=
  WO.mp rfl rfl rfl (updK_E h) fun k j hk _ => by
    obtain ⟨m, rfl⟩ := key_i hk
    exact leF.of_eq (updV_E h hc)
theorem begunTo_serials (l : List Evt) : ∀ k, k ≤ l.length → (begunTo l k).map Evt.serial = (placesM l false k).map Prod.fst
  | 0, _ => rfl
  | k + 1, h => by
    have ih := begunTo_serials l k (by omega)
    by_cases hr : (l.getD k default).ret = false ∧ (placesM l false k).has (l.getD k default).serial = false
    · rw [begunTo_yes (by omega) hr.1 hr.2, placesM, if_pos ⟨hr.2, hr.1⟩]
      simp [ih]
    · have : (l.getD k default).ret = true ∨ (placesM l false k).has (l.getD k default).serial = true := by
        cases h1 : (l.getD k default).ret with
        | true => exact .inl rfl
        | false =>
          cases h2 : (placesM l false k).has (l.getD k default).serial with
          | true => exact .inr rfl
          | false => exact absurd ⟨h1, h2⟩ hr
      rw [begunTo_no (by omega) this, placesM, if_neg (fun c => hr ⟨c.2, c.1⟩), ih]
theorem places_nodup (l : List Evt) (r : Bool) : ∀ k, ((placesM l r k).map Prod.fst).Nodup
  | 0 => by simp [placesM]
  | k + 1 => by
    have ih := places_nodup l r k
    simp only [placesM]
    split
    · rename_i h
      rw [List.map_append, List.nodup_append]
      refine ⟨ih, by simp, ?_⟩
      intro a ha b hb
      simp only [List.map_cons, List.map_nil, List.mem_singleton] at hb
      subst hb
      have := h.1
      simp only [MapI.has, decide_eq_false_iff_not] at this
      exact fun e => this (e ▸ ha)
    · exact ih
theorem opOf_serial (l : List Evt) (e : Evt) : (opOf l e).serial = e.serial := by
  unfold opOf; split <;> rfl
theorem operations_serials (l : List Evt) : (operationsM l).map Evt.serial = (placesF l false).map Prod.fst := by
  unfold operationsM
  rw [List.map_map, show placesF l false = placesM l false l.length from rfl, ← begunTo_serials l l.length (Nat.le_refl _)]
  refine List.map_congr_left fun e _ => opOf_serial l e
theorem operations_nodup (l : List Evt) : ((operationsM l).map Evt.serial).Nodup := by
  rw [operations_serials]; exact places_nodup l false _
theorem hasE_take {es : List Evt} {k : Nat} {p : Evt → Bool} (h : (es.map Evt.serial).Nodup) (hk : k < es.length) : hasE ((es.take k).filter p) (es.getD k default).serial = false := by
  have e : es.getD k default = es[k] := by simp [List.getD, hk]
  rw [e]
  simp only [hasE, decide_eq_false_iff_not, List.mem_map, List.mem_filter, not_exists, not_and, and_imp]
  intro f hf _ hs
  obtain ⟨i, hi, rfl⟩ := List.getElem_of_mem hf
  rw [List.getElem_take] at hs
  have hi' : i < k := by
    rw [List.length_take] at hi; omega
  unfold List.Nodup at h
  rw [List.pairwise_iff_getElem] at h
  exact h i k (by simp; omega) (by simp; omega) hi' (by simpa using hs)
theorem take_filter_succ {es : List Evt} {k : Nat} {p : Evt → Bool} (hk : k < es.length) : (es.take (k + 1)).filter p = if p (es.getD k default) = true then (es.take k).filter p ++ [es.getD k default] else (es.take k).filter p := by
  have e : es.getD k default = es[k] := by simp [List.getD, hk]
  rw [e, List.take_succ_eq_append_getElem hk, List.filter_append]
  by_cases c : p es[k] = true
  · rw [if_pos c]; simp [c]
  · rw [if_neg c]; simp [c]
def canE (e : Evt) : Bool := !e.ret || decide (e.err = 0)
def mustE (e : Evt) : Bool := e.ret && decide (e.err = 0)
def leftM (l : List Evt) : Nat := ((operationsM l).filter mustE).length
def nilCheckM (bs : List ByteArray) (l : List Evt) : Int := if sizesM bs l ≠ 0 then sizesM bs l else if 0 < leftM l then 17 else 0
theorem operations_len (l : List Evt) : (operationsM l).length = (begunM l).length := by unfold operationsM; rw [List.length_map]
theorem lcheck_nil_spec (bs : List ByteArray) (l : List Evt) (g : Nat → Nat → C) (hl : l.length ≤ 10000000) : PSpec Try.prog 11 [.c (strsC bs), .c (evC l), .c (.isl 1 0 g false)] (.c (.int .i64 (nilCheckM bs l))) := by
  refine PSpec.rm ?_
  refine CSpec.of_vc hΓ Try.func11 rfl 100 0 [.tmp 6] Try.ntmps11 rfl (by rw [Try.results11]) rfl ?_
  conv => whnf
  repeat' ((first | refine Need.auto ?_ | refine Have.mk (fun _h => ?_)); conv => whnf)
  refine CallN.pureA lbase_body (lbase_spec bs l ) ?_
  conv => whnf
  repeat' ((first | refine Need.auto ?_ | refine Have.mk (fun _h => ?_)); conv => whnf)
  (first | refine Br.lt (fun h0 => ?_) (fun h0 => ?_) | refine Br.le (fun h0 => ?_) (fun h0 => ?_) | refine Br.gt (fun h0 => ?_) (fun h0 => ?_) | refine Br.ge (fun h0 => ?_) (fun h0 => ?_) | refine Br.eq (fun h0 => ?_) (fun h0 => ?_) | refine Br.ne (fun h0 => ?_) (fun h0 => ?_) | refine Br.not (fun h0 => ?_) (fun h0 => ?_) | refine Br.mk (fun h0 => ?_) (fun h0 => ?_)) <;> (try simp only [Int.toNat_natCast] at h0) <;> (conv => whnf)
  · repeat' ((first | refine Need.auto ?_ | refine Have.mk (fun _h => ?_)); conv => whnf)
    have : nilCheckM bs l = sizesM bs l := by unfold nilCheckM; rw [if_pos h0]
    rw [this]
    refine RM.immW rfl ?_; (repeat' (first | exact WA.nil | refine WA.cons rfl ?_ ?_ | exact WB.nil | refine WB.cons ?_ ?_ | exact WT.nil | refine WT.cons ?_ ?_ | exact WH.nil | refine WH.cons ?_ ?_ | exact WR.nil | refine WR.cons rfl ?_ ?_ | refine WO.vr ?_ | exact WO.dead | exact WO.mpS | refine WO.mpA ?_ | refine WO.arrA ?_ | exact WS.u | refine WS.c ?_ | refine WS.a ?_ | refine WS.t ?_ | exact WL.nil | refine WL.cons ?_ ?_ | exact WTL.nil | refine WTL.consC ?_ ?_ | refine WTL.consL ?_ ?_ | exact WC.nils | exact WC.nil rfl | exact WC.nilp | refine WC.fzA | exact WC.ptr rfl (Nat.le_of_ble_eq_true rfl) | exact WC.mpr rfl (Nat.le_of_ble_eq_true rfl) | refine WC.slA | refine WC.intA | refine WC.int ?_ | refine WC.boolA | refine WC.bool ?_ | refine WC.strA | refine WC.str ?_ | exact WC.imm rfl))
  · repeat' ((first | refine Need.auto ?_ | refine Have.mk (fun _h => ?_)); conv => whnf)
    refine CallN.autoQ [] operations_body (operations_spec l hl) ?_; conv => whnf
    conv => whnf
    repeat' ((first | refine Need.auto ?_ | refine Have.mk (fun _h => ?_)); conv => whnf)
    have hlen := operations_len l
    have hbl : (begunM l).length ≤ l.length := begunTo_len l l.length
    rw [← hlen] at hbl ⊢
    have hnd := operations_nodup l
    generalize ho : operationsM l = ops at *
    refine Lp.mkK hΓ (ι := Nat) [0, 1, 2, 8, 30, 31] (fun i => [(32, .c (.int .i64 i)), (9, .c (.int .i64 ((ops.take i).filter mustE).length))]) (fun i => [mapE ((ops.take i).filter canE), .arr 41 8 ops.length (evG ops)]) (fun i => i ≤ ops.length) (fun i => ops.length - i) 0 (Nat.zero_le _) ?_ ?_
    · refine Mv.mkW ?_ ?_ (Nat.le_of_ble_eq_true rfl) <;> (repeat' (first | exact WA.nil | refine WA.cons rfl ?_ ?_ | exact WB.nil | refine WB.cons ?_ ?_ | exact WT.nil | refine WT.cons ?_ ?_ | exact WH.nil | refine WH.cons ?_ ?_ | exact WR.nil | refine WR.cons rfl ?_ ?_ | refine WO.vr ?_ | exact WO.dead | exact WO.mpS | refine WO.mpA ?_ | refine WO.arrA ?_ | exact WS.u | refine WS.c ?_ | refine WS.a ?_ | refine WS.t ?_ | exact WL.nil | refine WL.cons ?_ ?_ | exact WTL.nil | refine WTL.consC ?_ ?_ | refine WTL.consL ?_ ?_ | exact WC.nils | exact WC.nil rfl | exact WC.nilp | refine WC.fzA | exact WC.ptr rfl (Nat.le_of_ble_eq_true rfl) | exact WC.mpr rfl (Nat.le_of_ble_eq_true rfl) | refine WC.slA | refine WC.intA | refine WC.int ?_ | refine WC.boolA | refine WC.bool ?_ | refine WC.strA | refine WC.str ?_ | exact WC.imm rfl))
      · intro x j _ hj
        refine leF.of_eq ?_
        have e : getE ((ops.take 0).filter canE) (keyI x) = default := getE_not (by simp [hasE])
        rw [e]
        match j, hj with
        | 0, _ => rfl
        | 1, _ => rfl
        | 2, _ => rfl
        | 3, _ => rfl
        | 4, _ => rfl
        | 5, _ => rfl
        | 6, _ => rfl
        | 7, _ => rfl
      all_goals (intro i _ j _; exact WC.eq (ev_re _ _ _) (evCell_imm _ _))
    · intro k hk
      conv => whnf
      repeat' ((first | refine Need.auto ?_ | refine Have.mk (fun _h => ?_)); conv => whnf)
      (first | refine Br.lt (fun h1 => ?_) (fun h1 => ?_) | refine Br.le (fun h1 => ?_) (fun h1 => ?_) | refine Br.gt (fun h1 => ?_) (fun h1 => ?_) | refine Br.ge (fun h1 => ?_) (fun h1 => ?_) | refine Br.eq (fun h1 => ?_) (fun h1 => ?_) | refine Br.ne (fun h1 => ?_) (fun h1 => ?_) | refine Br.not (fun h1 => ?_) (fun h1 => ?_) | refine Br.mk (fun h1 => ?_) (fun h1 => ?_)) <;> (try simp only [Int.toNat_natCast] at h1) <;> (conv => whnf)
      · repeat' ((first | refine Need.auto ?_ | refine Have.mk (fun _h => ?_)); conv => whnf)
        have e0 : (k : Int).toNat = k := by simp
        rw [e0]
        refine Frc.mk (.a (ops.getD k default).cells) ?_ ?_
        · simp [gets, evG, rowG, Evt.cell, Evt.cells]
        conv => whnf
        repeat' ((first | refine Need.auto ?_ | refine Have.mk (fun _h => ?_)); conv => whnf)
        refine CallN.pureA counts_body (counts_spec (ops.getD k default) ) ?_
        conv => whnf
        repeat' ((first | refine Need.auto ?_ | refine Have.mk (fun _h => ?_)); conv => whnf)
        have hk' : k < ops.length := by omega
        have e1 := take_filter_succ (p := canE) hk'
        have e2 := take_filter_succ (p := mustE) hk'
        have hml : ((ops.take k).filter mustE).length ≤ k := Nat.le_trans (List.length_filter_le _ _) (by rw [List.length_take]; omega)
        cases hc : canE (ops.getD k default) with
        | true =>
          rw [if_pos hc] at e1
          have hn := hasE_take (p := canE) hnd hk'
          refine Br.yes hc ?_
          conv => whnf
          repeat' ((first | refine Need.auto ?_ | refine Have.mk (fun _h => ?_)); conv => whnf)
          cases hm : mustE (ops.getD k default) with
          | true =>
            refine Br.yes hm ?_
            conv => whnf
            repeat' ((first | refine Need.auto ?_ | refine Have.mk (fun _h => ?_)); conv => whnf)
            rw [if_pos hm] at e2
            refine ⟨k + 1, by omega, by omega, ?_⟩
            rw [e1, e2]
            refine Mv.mkW ?_ ?_ (Nat.le_of_ble_eq_true rfl) <;> (repeat' (first | exact WA.nil | refine WA.cons rfl ?_ ?_ | exact WB.nil | refine WB.cons ?_ ?_ | exact WT.nil | refine WT.cons ?_ ?_ | exact WH.nil | refine WH.cons ?_ ?_ | exact WR.nil | refine WR.cons rfl ?_ ?_ | refine WO.vr ?_ | exact WO.dead | exact WO.mpS | refine WO.mpA ?_ | refine WO.arrA ?_ | exact WS.u | refine WS.c ?_ | refine WS.a ?_ | refine WS.t ?_ | exact WL.nil | refine WL.cons ?_ ?_ | exact WTL.nil | refine WTL.consC ?_ ?_ | refine WTL.consL ?_ ?_ | exact WC.nils | exact WC.nil rfl | exact WC.nilp | refine WC.fzA | exact WC.ptr rfl (Nat.le_of_ble_eq_true rfl) | exact WC.mpr rfl (Nat.le_of_ble_eq_true rfl) | refine WC.slA | refine WC.intA | refine WC.int ?_ | refine WC.boolA | refine WC.bool ?_ | refine WC.strA | refine WC.str ?_ | exact WC.imm rfl))
            all_goals first
              | exact WO.mapE_new hn (cells_lget _)
              | exact WO.mpS
              | (intro i _ j _; exact WC.imm (evCell_imm _ _))
              | (rw [List.length_append]; simp; rw [wrap_id _ (by omega) (by omega)])
          | false =>
            refine Br.no hm ?_
            conv => whnf
            repeat' ((first | refine Need.auto ?_ | refine Have.mk (fun _h => ?_)); conv => whnf)
            rw [if_neg (by rw [hm]; simp)] at e2
            refine ⟨k + 1, by omega, by omega, ?_⟩
            rw [e1, e2]
            refine Mv.mkW ?_ ?_ (Nat.le_of_ble_eq_true rfl) <;> (repeat' (first | exact WA.nil | refine WA.cons rfl ?_ ?_ | exact WB.nil | refine WB.cons ?_ ?_ | exact WT.nil | refine WT.cons ?_ ?_ | exact WH.nil | refine WH.cons ?_ ?_ | exact WR.nil | refine WR.cons rfl ?_ ?_ | refine WO.vr ?_ | exact WO.dead | exact WO.mpS | refine WO.mpA ?_ | refine WO.arrA ?_ | exact WS.u | refine WS.c ?_ | refine WS.a ?_ | refine WS.t ?_ | exact WL.nil | refine WL.cons ?_ ?_ | exact WTL.nil | refine WTL.consC ?_ ?_ | refine WTL.consL ?_ ?_ | exact WC.nils | exact WC.nil rfl | exact WC.nilp | refine WC.fzA | exact WC.ptr rfl (Nat.le_of_ble_eq_true rfl) | exact WC.mpr rfl (Nat.le_of_ble_eq_true rfl) | refine WC.slA | refine WC.intA | refine WC.int ?_ | refine WC.boolA | refine WC.bool ?_ | refine WC.strA | refine WC.str ?_ | exact WC.imm rfl))
            all_goals first
              | exact WO.mapE_new hn (cells_lget _)
              | exact WO.mpS
              | (intro i _ j _; exact WC.imm (evCell_imm _ _))
              | (rw [List.length_append]; simp; rw [wrap_id _ (by omega) (by omega)])
        | false =>
          rw [if_neg (by rw [hc]; simp)] at e1
          refine Br.no hc ?_
          conv => whnf
          repeat' ((first | refine Need.auto ?_ | refine Have.mk (fun _h => ?_)); conv => whnf)
          cases hm : mustE (ops.getD k default) with
          | true =>
            refine Br.yes hm ?_
            conv => whnf
            repeat' ((first | refine Need.auto ?_ | refine Have.mk (fun _h => ?_)); conv => whnf)
            rw [if_pos hm] at e2
            refine ⟨k + 1, by omega, by omega, ?_⟩
            rw [e1, e2]
            refine Mv.mkW ?_ ?_ (Nat.le_of_ble_eq_true rfl) <;> (repeat' (first | exact WA.nil | refine WA.cons rfl ?_ ?_ | exact WB.nil | refine WB.cons ?_ ?_ | exact WT.nil | refine WT.cons ?_ ?_ | exact WH.nil | refine WH.cons ?_ ?_ | exact WR.nil | refine WR.cons rfl ?_ ?_ | refine WO.vr ?_ | exact WO.dead | exact WO.mpS | refine WO.mpA ?_ | refine WO.arrA ?_ | exact WS.u | refine WS.c ?_ | refine WS.a ?_ | refine WS.t ?_ | exact WL.nil | refine WL.cons ?_ ?_ | exact WTL.nil | refine WTL.consC ?_ ?_ | refine WTL.consL ?_ ?_ | exact WC.nils | exact WC.nil rfl | exact WC.nilp | refine WC.fzA | exact WC.ptr rfl (Nat.le_of_ble_eq_true rfl) | exact WC.mpr rfl (Nat.le_of_ble_eq_true rfl) | refine WC.slA | refine WC.intA | refine WC.int ?_ | refine WC.boolA | refine WC.bool ?_ | refine WC.strA | refine WC.str ?_ | exact WC.imm rfl))
            all_goals first
              | exact WO.mapE_new hn (cells_lget _)
              | exact WO.mpS
              | (intro i _ j _; exact WC.imm (evCell_imm _ _))
              | (rw [List.length_append]; simp; rw [wrap_id _ (by omega) (by omega)])
          | false =>
            refine Br.no hm ?_
            conv => whnf
            repeat' ((first | refine Need.auto ?_ | refine Have.mk (fun _h => ?_)); conv => whnf)
            rw [if_neg (by rw [hm]; simp)] at e2
            refine ⟨k + 1, by omega, by omega, ?_⟩
            rw [e1, e2]
            refine Mv.mkW ?_ ?_ (Nat.le_of_ble_eq_true rfl) <;> (repeat' (first | exact WA.nil | refine WA.cons rfl ?_ ?_ | exact WB.nil | refine WB.cons ?_ ?_ | exact WT.nil | refine WT.cons ?_ ?_ | exact WH.nil | refine WH.cons ?_ ?_ | exact WR.nil | refine WR.cons rfl ?_ ?_ | refine WO.vr ?_ | exact WO.dead | exact WO.mpS | refine WO.mpA ?_ | refine WO.arrA ?_ | exact WS.u | refine WS.c ?_ | refine WS.a ?_ | refine WS.t ?_ | exact WL.nil | refine WL.cons ?_ ?_ | exact WTL.nil | refine WTL.consC ?_ ?_ | refine WTL.consL ?_ ?_ | exact WC.nils | exact WC.nil rfl | exact WC.nilp | refine WC.fzA | exact WC.ptr rfl (Nat.le_of_ble_eq_true rfl) | exact WC.mpr rfl (Nat.le_of_ble_eq_true rfl) | refine WC.slA | refine WC.intA | refine WC.int ?_ | refine WC.boolA | refine WC.bool ?_ | refine WC.strA | refine WC.str ?_ | exact WC.imm rfl))
            all_goals first
              | exact WO.mapE_new hn (cells_lget _)
              | exact WO.mpS
              | (intro i _ j _; exact WC.imm (evCell_imm _ _))
              | (rw [List.length_append]; simp; rw [wrap_id _ (by omega) (by omega)])
      · repeat' ((first | refine Need.auto ?_ | refine Have.mk (fun _h => ?_)); conv => whnf)
        have : k = ops.length := by omega
        subst this
        refine Lp.mkK hΓ (ι := Unit) [9, 53, 52] (fun i => []) (fun i => []) (fun i => True) (fun i => 0) () trivial ?_ ?_
        · refine Mv.mkW ?_ ?_ (Nat.le_of_ble_eq_true rfl) <;> (repeat' (first | exact WA.nil | refine WA.cons rfl ?_ ?_ | exact WB.nil | refine WB.cons ?_ ?_ | exact WT.nil | refine WT.cons ?_ ?_ | exact WH.nil | refine WH.cons ?_ ?_ | exact WR.nil | refine WR.cons rfl ?_ ?_ | refine WO.vr ?_ | exact WO.dead | exact WO.mpS | refine WO.mpA ?_ | refine WO.arrA ?_ | exact WS.u | refine WS.c ?_ | refine WS.a ?_ | refine WS.t ?_ | exact WL.nil | refine WL.cons ?_ ?_ | exact WTL.nil | refine WTL.consC ?_ ?_ | refine WTL.consL ?_ ?_ | exact WC.nils | exact WC.nil rfl | exact WC.nilp | refine WC.fzA | exact WC.ptr rfl (Nat.le_of_ble_eq_true rfl) | exact WC.mpr rfl (Nat.le_of_ble_eq_true rfl) | refine WC.slA | refine WC.intA | refine WC.int ?_ | refine WC.boolA | refine WC.bool ?_ | refine WC.strA | refine WC.str ?_ | exact WC.imm rfl))
        · intro _ _
          conv => whnf
          repeat' ((first | refine Need.auto ?_ | refine Have.mk (fun _h => ?_)); conv => whnf)
          refine Br.no rfl ?_
          conv => whnf
          repeat' ((first | refine Need.auto ?_ | refine Have.mk (fun _h => ?_)); conv => whnf)
          rw [List.take_length]
          (first | refine Br.lt (fun h3 => ?_) (fun h3 => ?_) | refine Br.le (fun h3 => ?_) (fun h3 => ?_) | refine Br.gt (fun h3 => ?_) (fun h3 => ?_) | refine Br.ge (fun h3 => ?_) (fun h3 => ?_) | refine Br.eq (fun h3 => ?_) (fun h3 => ?_) | refine Br.ne (fun h3 => ?_) (fun h3 => ?_) | refine Br.not (fun h3 => ?_) (fun h3 => ?_) | refine Br.mk (fun h3 => ?_) (fun h3 => ?_)) <;> (try simp only [Int.toNat_natCast] at h3) <;> (conv => whnf)
          · repeat' ((first | refine Need.auto ?_ | refine Have.mk (fun _h => ?_)); conv => whnf)
            have : nilCheckM bs l = 17 := by unfold nilCheckM leftM; rw [if_neg (by omega), ho, if_pos (by omega)]
            rw [this]
            refine RM.immW rfl ?_; (repeat' (first | exact WA.nil | refine WA.cons rfl ?_ ?_ | exact WB.nil | refine WB.cons ?_ ?_ | exact WT.nil | refine WT.cons ?_ ?_ | exact WH.nil | refine WH.cons ?_ ?_ | exact WR.nil | refine WR.cons rfl ?_ ?_ | refine WO.vr ?_ | exact WO.dead | exact WO.mpS | refine WO.mpA ?_ | refine WO.arrA ?_ | exact WS.u | refine WS.c ?_ | refine WS.a ?_ | refine WS.t ?_ | exact WL.nil | refine WL.cons ?_ ?_ | exact WTL.nil | refine WTL.consC ?_ ?_ | refine WTL.consL ?_ ?_ | exact WC.nils | exact WC.nil rfl | exact WC.nilp | refine WC.fzA | exact WC.ptr rfl (Nat.le_of_ble_eq_true rfl) | exact WC.mpr rfl (Nat.le_of_ble_eq_true rfl) | refine WC.slA | refine WC.intA | refine WC.int ?_ | refine WC.boolA | refine WC.bool ?_ | refine WC.strA | refine WC.str ?_ | exact WC.imm rfl))
          · repeat' ((first | refine Need.auto ?_ | refine Have.mk (fun _h => ?_)); conv => whnf)
            have : nilCheckM bs l = 0 := by unfold nilCheckM leftM; rw [if_neg (by omega), ho, if_neg (by omega)]
            rw [this]
            refine RM.immW rfl ?_; (repeat' (first | exact WA.nil | refine WA.cons rfl ?_ ?_ | exact WB.nil | refine WB.cons ?_ ?_ | exact WT.nil | refine WT.cons ?_ ?_ | exact WH.nil | refine WH.cons ?_ ?_ | exact WR.nil | refine WR.cons rfl ?_ ?_ | refine WO.vr ?_ | exact WO.dead | exact WO.mpS | refine WO.mpA ?_ | refine WO.arrA ?_ | exact WS.u | refine WS.c ?_ | refine WS.a ?_ | refine WS.t ?_ | exact WL.nil | refine WL.cons ?_ ?_ | exact WTL.nil | refine WTL.consC ?_ ?_ | refine WTL.consL ?_ ?_ | exact WC.nils | exact WC.nil rfl | exact WC.nilp | refine WC.fzA | exact WC.ptr rfl (Nat.le_of_ble_eq_true rfl) | exact WC.mpr rfl (Nat.le_of_ble_eq_true rfl) | refine WC.slA | refine WC.intA | refine WC.int ?_ | refine WC.boolA | refine WC.bool ?_ | refine WC.strA | refine WC.str ?_ | exact WC.imm rfl))
theorem lcheck_nil_body : HasBody Try.prog 11 := ⟨⟨Try.f11, Try.func11, rfl, by kernel_rfl⟩⟩
end Go.Proofs
end

section
open Go Go.Am
namespace Go.Proofs
theorem sizes_range {bs : List ByteArray} {l : List Evt} (h : sizesM bs l = 0) : checkM bs.length l = 0 ∧ 1 ≤ bs.length ∧ bs.length ≤ 128 ∧ l.length ≤ 400 ∧ rightTo l l.length = true ∧ ∀ b ∈ bs, b.size = 16 := by
  unfold sizesM at h
  split at h
  · rename_i hc
    split at h
    · rename_i ha
      refine ⟨hc, ?_⟩
      unfold checkM at hc
      split at hc
      · cases hc
      · split at hc
        · cases hc
        · split at hc
          · refine ⟨by omega, by omega, by omega, by assumption, fun b hb => ?_⟩
            rw [List.all_eq_true] at ha
            simpa using ha b hb
          · cases hc
    · cases h
  · rename_i hc; exact absurd h hc
theorem nil_small {bs : List ByteArray} {l : List Evt} (h : ¬ (nilCheckM bs l ≠ 0 ∧ nilCheckM bs l ≠ 17)) : checkM bs.length l = sizesM bs l := by
  have e : nilCheckM bs l = if sizesM bs l ≠ 0 then sizesM bs l else if 0 < leftM l then 17 else 0 := rfl
  by_cases c : sizesM bs l = 0
  · rw [(sizes_range c).1, c]
  · rw [if_pos c] at e
    rw [e] at h
    have c17 : sizesM bs l = 17 := by omega
    unfold sizesM at c17 ⊢
    split at c17
    · split at c17 <;> cases c17
    · rename_i hc; rw [if_neg hc]
theorem dbase_spec (bs : List ByteArray) (l : List Evt) (hl : l.length ≤ 10000000) : PSpec Try.prog 56 [.c (strsC bs), .c (evC l)] (.c (.int .i64 (sizesM bs l))) := by
  refine PSpec.rm ?_
  refine CSpec.of_vc hΓ Try.func56 rfl 20 0 [.tmp 4] Try.ntmps56 rfl (by rw [Try.results56]) rfl ?_
  conv => whnf
  repeat' ((first | refine Need.auto ?_ | refine Have.mk (fun _h => ?_)); conv => whnf)
  refine CallN.pureA lcheck_nil_body (lcheck_nil_spec bs l (fun _ _ => .junk) hl ) ?_
  conv => whnf
  repeat' ((first | refine Need.auto ?_ | refine Have.mk (fun _h => ?_)); conv => whnf)
  (first | refine Br.lt (fun h0 => ?_) (fun h0 => ?_) | refine Br.le (fun h0 => ?_) (fun h0 => ?_) | refine Br.gt (fun h0 => ?_) (fun h0 => ?_) | refine Br.ge (fun h0 => ?_) (fun h0 => ?_) | refine Br.eq (fun h0 => ?_) (fun h0 => ?_) | refine Br.ne (fun h0 => ?_) (fun h0 => ?_) | refine Br.not (fun h0 => ?_) (fun h0 => ?_) | (refine Br.mk (fun h0 => ?_) (fun h0 => ?_) <;> simp [-List.length_eq_zero_iff, -List.getD_eq_getElem?_getD] at h0)) <;> (try simp only [Int.toNat_natCast] at h0) <;> (conv => whnf)
  · repeat' ((first | refine Need.auto ?_ | refine Have.mk (fun _h => ?_)); conv => whnf)
    have : nilCheckM bs l = sizesM bs l := by
      unfold nilCheckM at h0 ⊢
      split
      · rfl
      · rename_i hc
        rw [if_neg hc] at h0
        split at h0 <;> omega
    rw [this]
    refine RM.immW rfl ?_; (repeat' (first | exact WA.nil | refine WA.cons rfl ?_ ?_ | exact WB.nil | refine WB.cons ?_ ?_ | exact WT.nil | refine WT.cons ?_ ?_ | exact WH.nil | refine WH.cons ?_ ?_ | exact WR.nil | refine WR.cons rfl ?_ ?_ | refine WO.vr ?_ | exact WO.dead | exact WO.mpS | refine WO.mpA ?_ | refine WO.arrA ?_ | exact WS.u | refine WS.c ?_ | refine WS.a ?_ | refine WS.t ?_ | exact WL.nil | refine WL.cons ?_ ?_ | exact WTL.nil | refine WTL.consC ?_ ?_ | refine WTL.consL ?_ ?_ | exact WC.nils | exact WC.nil rfl | exact WC.nilp | refine WC.fzA | exact WC.ptr rfl (Nat.le_of_ble_eq_true rfl) | exact WC.mpr rfl (Nat.le_of_ble_eq_true rfl) | refine WC.slA | refine WC.intA | refine WC.int ?_ | refine WC.boolA | refine WC.bool ?_ | refine WC.strA | refine WC.str ?_ | exact WC.imm rfl))
  · repeat' ((first | refine Need.auto ?_ | refine Have.mk (fun _h => ?_)); conv => whnf)
    refine CallN.pureA check_body (check_spec bs.length l ) ?_
    conv => whnf
    repeat' ((first | refine Need.auto ?_ | refine Have.mk (fun _h => ?_)); conv => whnf)
    refine RM.immW rfl ?_; (repeat' (first | exact WA.nil | refine WA.cons rfl ?_ ?_ | exact WB.nil | refine WB.cons ?_ ?_ | exact WT.nil | refine WT.cons ?_ ?_ | exact WH.nil | refine WH.cons ?_ ?_ | exact WR.nil | refine WR.cons rfl ?_ ?_ | refine WO.vr ?_ | exact WO.dead | exact WO.mpS | refine WO.mpA ?_ | refine WO.arrA ?_ | exact WS.u | refine WS.c ?_ | refine WS.a ?_ | refine WS.t ?_ | exact WL.nil | refine WL.cons ?_ ?_ | exact WTL.nil | refine WTL.consC ?_ ?_ | refine WTL.consL ?_ ?_ | exact WC.nils | exact WC.nil rfl | exact WC.nilp | refine WC.fzA | exact WC.ptr rfl (Nat.le_of_ble_eq_true rfl) | exact WC.mpr rfl (Nat.le_of_ble_eq_true rfl) | refine WC.slA | refine WC.intA | refine WC.int ?_ | refine WC.boolA | refine WC.bool ?_ | refine WC.strA | refine WC.str ?_ | exact WC.imm rfl))
    exact nil_small (by omega)
theorem dbase_body : HasBody Try.prog 56 := ⟨⟨Try.f56, Try.func56, rfl, by kernel_rfl⟩⟩
def isFlush (e : Evt) : Bool := decide (e.kind = 4) && e.ret && decide (e.err = 0)
def flushedIn (es : List Evt) (n : Int) : Bool := es.any fun e => decide (e.serial = n) && isFlush e
def pointTo (l : List Evt) : Nat → Nat
  | 0 => 0
  | k + 1 => if (l.getD k default).ret = false ∧ flushedIn (operationsM l) (l.getD k default).serial = true then k else pointTo l k
def pointM (l : List Evt) : Nat := pointTo l l.length
theorem pointTo_le (l : List Evt) : ∀ k, pointTo l k ≤ k
  | 0 => Nat.le_refl _
  | k + 1 => by
    have := pointTo_le l k
    simp only [pointTo]
    split <;> omega
def mapF (es : List Evt) : O := .mp (.c (some .i64)) [Z.b] false (keyE es) (fun k _ => .bool (flushedIn es (keyI k)))
theorem flushedIn_new {es : List Evt} {e : Evt} (h : hasE es e.serial = false) (m : Int) : flushedIn (es ++ [e]) m = if m = e.serial then isFlush e else flushedIn es m := by
  simp only [flushedIn, List.any_append, List.any_cons, List.any_nil, Bool.or_false]
  by_cases c : m = e.serial
  · subst c
    have : (es.any fun f => decide (f.serial = e.serial) && isFlush f) = false := by
      rw [← Bool.not_eq_true, List.any_eq_true]
      rintro ⟨f, hf, hs⟩
      simp only [Bool.and_eq_true, decide_eq_true_eq] at hs
      simp only [hasE, decide_eq_false_iff_not, List.mem_map, not_exists, not_and] at h
      exact h f hf hs.1
    rw [if_pos rfl, this]
    simp
  · rw [if_neg c, decide_eq_false (fun q => c q.symm)]
    simp
theorem WO.mapF_new {ρ : Nat → Nat} {n : Nat} {es : List Evt} {e : Evt} {b : Bool} (h : hasE es e.serial = false) (hb : b = isFlush e) :
    WO ρ n (.mp (.c (some .i64)) [Z.b] false (updK (keyE es) (.c (.i .i64 e.serial))) (updV (fun k (_ : Nat) => C.bool (flushedIn es (keyI k))) (.c (.i .i64 e.serial)) (lget [.bool b]))) (mapF (es ++ [e])) :=
  WO.mp rfl rfl rfl (updK_E h) fun k j hk hj => by
    have : j = 0 := by simpa using hj
    subst this
    obtain ⟨m, rfl⟩ := key_i hk
    refine leF.of_eq ?_
    show updV _ _ _ _ _ = C.bool (flushedIn (es ++ [e]) m)
    rw [flushedIn_new h]
    simp only [updV, Key.c.injEq, KC.i.injEq, true_and]
    by_cases c : m = e.serial
    · rw [if_pos c, if_pos c, hb]
      rfl
    · rw [if_neg c, if_neg c]
      rfl
theorem take_succ_getD {es : List Evt} {k : Nat} (hk : k < es.length) : es.take (k + 1) = es.take k ++ [es.getD k default] := by
  have e : es.getD k default = es[k] := by simp [List.getD, hk]
  rw [e, List.take_succ_eq_append_getElem hk]
theorem hasE_take' {es : List Evt} {k : Nat} (h : (es.map Evt.serial).Nodup) (hk : k < es.length) : hasE (es.take k) (es.getD k default).serial = false := by
  have := hasE_take (p := fun _ => true) h hk
  rwa [List.filter_eq_self.2 (by simp)] at this
theorem point_spec (l : List Evt) (hl : l.length ≤ 10000000) : PSpec Try.prog 58 [.c (evC l)] (.c (.int .i64 (pointM l))) := by
  refine PSpec.rm ?_
  refine CSpec.of_vc hΓ Try.func58 rfl 54 0 [.tmp 2] Try.ntmps58 rfl (by rw [Try.results58]) rfl ?_
  conv => whnf
  repeat' ((first | refine Need.auto ?_ | refine Have.mk (fun _h => ?_)); conv => whnf)
  refine CallN.autoQ [] operations_body (operations_spec l hl) ?_; conv => whnf
  conv => whnf
  repeat' ((first | refine Need.auto ?_ | refine Have.mk (fun _h => ?_)); conv => whnf)
  have hlen := operations_len l
  have hbl : (begunM l).length ≤ l.length := begunTo_len l l.length
  rw [← hlen] at hbl ⊢
  have hnd := operations_nodup l
  have hp : ∀ k, pointTo l (k + 1) = if (l.getD k default).ret = false ∧ flushedIn (operationsM l) (l.getD k default).serial = true then k else pointTo l k := fun k => rfl
  generalize ho : operationsM l = ops at *
  refine Lp.mkK hΓ (ι := Nat) [0, 3, 11, 12] (fun i => [(13, .c (.int .i64 i))]) (fun i => [mapF (ops.take i), .arr 41 8 ops.length (evG ops)]) (fun i => i ≤ ops.length) (fun i => ops.length - i) 0 (Nat.zero_le _) ?_ ?_
  · refine Mv.mkW ?_ ?_ (Nat.le_of_ble_eq_true rfl) <;> (repeat' (first | exact WA.nil | refine WA.cons rfl ?_ ?_ | exact WB.nil | refine WB.cons ?_ ?_ | exact WT.nil | refine WT.cons ?_ ?_ | exact WH.nil | refine WH.cons ?_ ?_ | exact WR.nil | refine WR.cons rfl ?_ ?_ | refine WO.vr ?_ | exact WO.dead | exact WO.mpS | refine WO.mpA ?_ | refine WO.arrA ?_ | exact WS.u | refine WS.c ?_ | refine WS.a ?_ | refine WS.t ?_ | exact WL.nil | refine WL.cons ?_ ?_ | exact WTL.nil | refine WTL.consC ?_ ?_ | refine WTL.consL ?_ ?_ | exact WC.nils | exact WC.nil rfl | exact WC.nilp | refine WC.fzA | exact WC.ptr rfl (Nat.le_of_ble_eq_true rfl) | exact WC.mpr rfl (Nat.le_of_ble_eq_true rfl) | refine WC.slA | refine WC.intA | refine WC.int ?_ | refine WC.boolA | refine WC.bool ?_ | refine WC.strA | refine WC.str ?_ | exact WC.imm rfl))
    · intro x j _ hj
      have : j = 0 := by simpa using hj
      subst this
      exact leF.of_eq rfl
    all_goals (intro i _ j _; exact WC.eq (ev_re _ _ _) (evCell_imm _ _))
  · intro k hk
    conv => whnf
    repeat' ((first | refine Need.auto ?_ | refine Have.mk (fun _h => ?_)); conv => whnf)
    (first | refine Br.lt (fun h1 => ?_) (fun h1 => ?_) | refine Br.le (fun h1 => ?_) (fun h1 => ?_) | refine Br.gt (fun h1 => ?_) (fun h1 => ?_) | refine Br.ge (fun h1 => ?_) (fun h1 => ?_) | refine Br.eq (fun h1 => ?_) (fun h1 => ?_) | refine Br.ne (fun h1 => ?_) (fun h1 => ?_) | refine Br.not (fun h1 => ?_) (fun h1 => ?_) | refine Br.mk (fun h1 => ?_) (fun h1 => ?_)) <;> (try simp only [Int.toNat_natCast] at h1) <;> (conv => whnf)
    · repeat' ((first | refine Need.auto ?_ | refine Have.mk (fun _h => ?_)); conv => whnf)
      have hk' : k < ops.length := by omega
      have e0 : (k : Int).toNat = k := by simp
      rw [e0]
      refine Frc.mk (.a (ops.getD k default).cells) ?_ ?_
      · simp [gets, evG, rowG, Evt.cell, Evt.cells]
      conv => whnf
      repeat' ((first | refine Need.auto ?_ | refine Have.mk (fun _h => ?_)); conv => whnf)
      refine ⟨k + 1, by omega, by omega, ?_⟩
      rw [take_succ_getD hk']
      refine Mv.mkW ?_ ?_ (Nat.le_of_ble_eq_true rfl) <;> (repeat' (first | exact WA.nil | refine WA.cons rfl ?_ ?_ | exact WB.nil | refine WB.cons ?_ ?_ | exact WT.nil | refine WT.cons ?_ ?_ | exact WH.nil | refine WH.cons ?_ ?_ | exact WR.nil | refine WR.cons rfl ?_ ?_ | refine WO.vr ?_ | exact WO.dead | exact WO.mpS | refine WO.mpA ?_ | refine WO.arrA ?_ | exact WS.u | refine WS.c ?_ | refine WS.a ?_ | refine WS.t ?_ | exact WL.nil | refine WL.cons ?_ ?_ | exact WTL.nil | refine WTL.consC ?_ ?_ | refine WTL.consL ?_ ?_ | exact WC.nils | exact WC.nil rfl | exact WC.nilp | refine WC.fzA | exact WC.ptr rfl (Nat.le_of_ble_eq_true rfl) | exact WC.mpr rfl (Nat.le_of_ble_eq_true rfl) | refine WC.slA | refine WC.intA | refine WC.int ?_ | refine WC.boolA | refine WC.bool ?_ | refine WC.strA | refine WC.str ?_ | exact WC.imm rfl))
      · refine WO.mapF_new (hasE_take' hnd hk') ?_
        unfold isFlush
        by_cases c1 : (ops.getD k default).kind = 4 <;> simp [c1, -List.getD_eq_getElem?_getD]
        cases (ops.getD k default).ret <;> simp [-List.getD_eq_getElem?_getD]
        rfl
      · intro i _ j _; exact WC.imm (evCell_imm _ _)
    · repeat' ((first | refine Need.auto ?_ | refine Have.mk (fun _h => ?_)); conv => whnf)
      have : k = ops.length := by omega
      subst this
      refine Lp.mkK hΓ (ι := Nat) [3, 35, 36] (fun i => [(37, .c (.int .i64 i)), (6, .c (.int .i64 (pointTo l i)))]) (fun i => [mapF ops]) (fun i => i ≤ l.length) (fun i => l.length - i) 0 (Nat.zero_le _) ?_ ?_
      · rw [List.take_length]
        refine Mv.mkW ?_ ?_ (Nat.le_of_ble_eq_true rfl) <;> (repeat' (first | exact WA.nil | refine WA.cons rfl ?_ ?_ | exact WB.nil | refine WB.cons ?_ ?_ | exact WT.nil | refine WT.cons ?_ ?_ | exact WH.nil | refine WH.cons ?_ ?_ | exact WR.nil | refine WR.cons rfl ?_ ?_ | refine WO.vr ?_ | exact WO.dead | exact WO.mpS | refine WO.mpA ?_ | refine WO.arrA ?_ | exact WS.u | refine WS.c ?_ | refine WS.a ?_ | refine WS.t ?_ | exact WL.nil | refine WL.cons ?_ ?_ | exact WTL.nil | refine WTL.consC ?_ ?_ | refine WTL.consL ?_ ?_ | exact WC.nils | exact WC.nil rfl | exact WC.nilp | refine WC.fzA | exact WC.ptr rfl (Nat.le_of_ble_eq_true rfl) | exact WC.mpr rfl (Nat.le_of_ble_eq_true rfl) | refine WC.slA | refine WC.intA | refine WC.int ?_ | refine WC.boolA | refine WC.bool ?_ | refine WC.strA | refine WC.str ?_ | exact WC.imm rfl))
      · intro k hk
        conv => whnf
        repeat' ((first | refine Need.auto ?_ | refine Have.mk (fun _h => ?_)); conv => whnf)
        (first | refine Br.lt (fun h2 => ?_) (fun h2 => ?_) | refine Br.le (fun h2 => ?_) (fun h2 => ?_) | refine Br.gt (fun h2 => ?_) (fun h2 => ?_) | refine Br.ge (fun h2 => ?_) (fun h2 => ?_) | refine Br.eq (fun h2 => ?_) (fun h2 => ?_) | refine Br.ne (fun h2 => ?_) (fun h2 => ?_) | refine Br.not (fun h2 => ?_) (fun h2 => ?_) | refine Br.mk (fun h2 => ?_) (fun h2 => ?_)) <;> (try simp only [Int.toNat_natCast] at h2) <;> (conv => whnf)
        · repeat' ((first | refine Need.auto ?_ | refine Have.mk (fun _h => ?_)); conv => whnf)
          have e0 : (k : Int).toNat = k := by simp
          rw [e0]
          have hc : ((bif !(l.getD k default).ret then flushedIn ops (keyI (Key.c (KC.i IntKind.i64 (l.getD k default).serial))) else false) = true) ↔ ((l.getD k default).ret = false ∧ flushedIn ops (l.getD k default).serial = true) := by
            cases (l.getD k default).ret <;> simp
          refine Br.mk (fun h3 => ?_) (fun h3 => ?_)
          · conv => whnf
            repeat' ((first | refine Need.auto ?_ | refine Have.mk (fun _h => ?_)); conv => whnf)
            have hp' := hp k
            rw [if_pos (hc.1 h3)] at hp'
            refine ⟨k + 1, by omega, by omega, ?_⟩
            rw [hp']
            refine Mv.mkW ?_ ?_ (Nat.le_of_ble_eq_true rfl) <;> (repeat' (first | exact WA.nil | refine WA.cons rfl ?_ ?_ | exact WB.nil | refine WB.cons ?_ ?_ | exact WT.nil | refine WT.cons ?_ ?_ | exact WH.nil | refine WH.cons ?_ ?_ | exact WR.nil | refine WR.cons rfl ?_ ?_ | refine WO.vr ?_ | exact WO.dead | exact WO.mpS | refine WO.mpA ?_ | refine WO.arrA ?_ | exact WS.u | refine WS.c ?_ | refine WS.a ?_ | refine WS.t ?_ | exact WL.nil | refine WL.cons ?_ ?_ | exact WTL.nil | refine WTL.consC ?_ ?_ | refine WTL.consL ?_ ?_ | exact WC.nils | exact WC.nil rfl | exact WC.nilp | refine WC.fzA | exact WC.ptr rfl (Nat.le_of_ble_eq_true rfl) | exact WC.mpr rfl (Nat.le_of_ble_eq_true rfl) | refine WC.slA | refine WC.intA | refine WC.int ?_ | refine WC.boolA | refine WC.bool ?_ | refine WC.strA | refine WC.str ?_ | exact WC.imm rfl))
          · conv => whnf
            repeat' ((first | refine Need.auto ?_ | refine Have.mk (fun _h => ?_)); conv => whnf)
            have hp' := hp k
            rw [if_neg (fun q => by rw [hc.2 q] at h3; cases h3)] at hp'
            refine ⟨k + 1, by omega, by omega, ?_⟩
            rw [hp']
            refine Mv.mkW ?_ ?_ (Nat.le_of_ble_eq_true rfl) <;> (repeat' (first | exact WA.nil | refine WA.cons rfl ?_ ?_ | exact WB.nil | refine WB.cons ?_ ?_ | exact WT.nil | refine WT.cons ?_ ?_ | exact WH.nil | refine WH.cons ?_ ?_ | exact WR.nil | refine WR.cons rfl ?_ ?_ | refine WO.vr ?_ | exact WO.dead | exact WO.mpS | refine WO.mpA ?_ | refine WO.arrA ?_ | exact WS.u | refine WS.c ?_ | refine WS.a ?_ | refine WS.t ?_ | exact WL.nil | refine WL.cons ?_ ?_ | exact WTL.nil | refine WTL.consC ?_ ?_ | refine WTL.consL ?_ ?_ | exact WC.nils | exact WC.nil rfl | exact WC.nilp | refine WC.fzA | exact WC.ptr rfl (Nat.le_of_ble_eq_true rfl) | exact WC.mpr rfl (Nat.le_of_ble_eq_true rfl) | refine WC.slA | refine WC.intA | refine WC.int ?_ | refine WC.boolA | refine WC.bool ?_ | refine WC.strA | refine WC.str ?_ | exact WC.imm rfl))
        · repeat' ((first | refine Need.auto ?_ | refine Have.mk (fun _h => ?_)); conv => whnf)
          have : k = l.length := by omega
          subst this
          refine RM.immW rfl ?_; (repeat' (first | exact WA.nil | refine WA.cons rfl ?_ ?_ | exact WB.nil | refine WB.cons ?_ ?_ | exact WT.nil | refine WT.cons ?_ ?_ | exact WH.nil | refine WH.cons ?_ ?_ | exact WR.nil | refine WR.cons rfl ?_ ?_ | refine WO.vr ?_ | exact WO.dead | exact WO.mpS | refine WO.mpA ?_ | refine WO.arrA ?_ | exact WS.u | refine WS.c ?_ | refine WS.a ?_ | refine WS.t ?_ | exact WL.nil | refine WL.cons ?_ ?_ | exact WTL.nil | refine WTL.consC ?_ ?_ | refine WTL.consL ?_ ?_ | exact WC.nils | exact WC.nil rfl | exact WC.nilp | refine WC.fzA | exact WC.ptr rfl (Nat.le_of_ble_eq_true rfl) | exact WC.mpr rfl (Nat.le_of_ble_eq_true rfl) | refine WC.slA | refine WC.intA | refine WC.int ?_ | refine WC.boolA | refine WC.bool ?_ | refine WC.strA | refine WC.str ?_ | exact WC.imm rfl))
theorem point_body : HasBody Try.prog 58 := ⟨⟨Try.f58, Try.func58, rfl, by kernel_rfl⟩⟩
end Go.Proofs
end

section
open Go Go.Am
namespace Go.Proofs
def isAhead (e : Evt) (s : Int) : Bool := e.ret && decide (e.serial = s) && decide (e.err = 0)
def aheadM (l : List Evt) (s : Int) : Nat → Bool
  | 0 => false
  | k + 1 => aheadM l s k || isAhead (l.getD k default) s
theorem aheadM_iff (l : List Evt) (s : Int) : ∀ k, aheadM l s k = true ↔ ∃ i, i < k ∧ isAhead (l.getD i default) s = true
  | 0 => by simp [aheadM]
  | k + 1 => by
    rw [aheadM, Bool.or_eq_true, aheadM_iff l s k]
    constructor
    · rintro (⟨i, h1, h2⟩ | h)
      · exact ⟨i, by omega, h2⟩
      · exact ⟨k, by omega, h⟩
    · rintro ⟨i, h1, h2⟩
      by_cases c : i = k
      · subst c; exact .inr h2
      · exact .inl ⟨i, by omega, h2⟩
theorem ahead_spec (l : List Evt) (s : Int) (n : Nat) (hn : n ≤ l.length) (hn2 : n ≤ 10000000) : PSpec Try.prog 53 [.c (evC l), .c (.int .i64 s), .c (.int .i64 n)] (.c (.bool (aheadM l s n))) := by
  refine PSpec.rm ?_
  refine CSpec.of_vc hΓ Try.func53 rfl 36 0 [.tmp 6] Try.ntmps53 rfl (by rw [Try.results53]) rfl ?_
  conv => whnf
  repeat' ((first | refine Need.auto ?_ | refine Have.mk (fun _h => ?_)); conv => whnf)
  refine Lp.mkK hΓ (ι := Nat) [0, 1, 2] (fun i => [(7, .c (.int .i64 i))]) (fun i => []) (fun i => i ≤ n ∧ aheadM l s i = false) (fun i => n - i) 0 ⟨Nat.zero_le _, rfl⟩ ?_ ?_
  · refine Mv.mkW ?_ ?_ (Nat.le_of_ble_eq_true rfl) <;> (repeat' (first | exact WA.nil | refine WA.cons rfl ?_ ?_ | exact WB.nil | refine WB.cons ?_ ?_ | exact WT.nil | refine WT.cons ?_ ?_ | exact WH.nil | refine WH.cons ?_ ?_ | exact WR.nil | refine WR.cons rfl ?_ ?_ | refine WO.vr ?_ | exact WO.dead | exact WO.mpS | refine WO.mpA ?_ | refine WO.arrA ?_ | exact WS.u | refine WS.c ?_ | refine WS.a ?_ | refine WS.t ?_ | exact WL.nil | refine WL.cons ?_ ?_ | exact WTL.nil | refine WTL.consC ?_ ?_ | refine WTL.consL ?_ ?_ | exact WC.nils | exact WC.nil rfl | exact WC.nilp | refine WC.fzA | exact WC.ptr rfl (Nat.le_of_ble_eq_true rfl) | exact WC.mpr rfl (Nat.le_of_ble_eq_true rfl) | refine WC.slA | refine WC.intA | refine WC.int ?_ | refine WC.boolA | refine WC.bool ?_ | refine WC.strA | refine WC.str ?_ | exact WC.imm rfl))
  · intro k ⟨hk, h0⟩
    conv => whnf
    repeat' ((first | refine Need.auto ?_ | refine Have.mk (fun _h => ?_)); conv => whnf)
    (first | refine Br.lt (fun h1 => ?_) (fun h1 => ?_) | refine Br.le (fun h1 => ?_) (fun h1 => ?_) | refine Br.gt (fun h1 => ?_) (fun h1 => ?_) | refine Br.ge (fun h1 => ?_) (fun h1 => ?_) | refine Br.eq (fun h1 => ?_) (fun h1 => ?_) | refine Br.ne (fun h1 => ?_) (fun h1 => ?_) | refine Br.not (fun h1 => ?_) (fun h1 => ?_) | refine Br.mk (fun h1 => ?_) (fun h1 => ?_)) <;> (try simp only [Int.toNat_natCast] at h1) <;> (conv => whnf)
    · repeat' ((first | refine Need.auto ?_ | refine Have.mk (fun _h => ?_)); conv => whnf)
      have e0 : (k : Int).toNat = k := by simp
      rw [e0]
      have hc : isAhead (l.getD k default) s = (bif (bif (l.getD k default).ret then (l.getD k default).serial == s else false) then (l.getD k default).err == 0 else false) := by
        unfold isAhead
        cases (l.getD k default).ret <;> by_cases c : (l.getD k default).serial = s <;> simp [c, -List.getD_eq_getElem?_getD]
        rfl
      cases hh : isAhead (l.getD k default) s with
      | true =>
        refine Br.yes (hc.symm.trans hh) ?_
        conv => whnf
        repeat' ((first | refine Need.auto ?_ | refine Have.mk (fun _h => ?_)); conv => whnf)
        have : aheadM l s n = true := (aheadM_iff l s n).2 ⟨k, by omega, hh⟩
        rw [this]
        refine RM.immW rfl ?_; (repeat' (first | exact WA.nil | refine WA.cons rfl ?_ ?_ | exact WB.nil | refine WB.cons ?_ ?_ | exact WT.nil | refine WT.cons ?_ ?_ | exact WH.nil | refine WH.cons ?_ ?_ | exact WR.nil | refine WR.cons rfl ?_ ?_ | refine WO.vr ?_ | exact WO.dead | exact WO.mpS | refine WO.mpA ?_ | refine WO.arrA ?_ | exact WS.u | refine WS.c ?_ | refine WS.a ?_ | refine WS.t ?_ | exact WL.nil | refine WL.cons ?_ ?_ | exact WTL.nil | refine WTL.consC ?_ ?_ | refine WTL.consL ?_ ?_ | exact WC.nils | exact WC.nil rfl | exact WC.nilp | refine WC.fzA | exact WC.ptr rfl (Nat.le_of_ble_eq_true rfl) | exact WC.mpr rfl (Nat.le_of_ble_eq_true rfl) | refine WC.slA | refine WC.intA | refine WC.int ?_ | refine WC.boolA | refine WC.bool ?_ | refine WC.strA | refine WC.str ?_ | exact WC.imm rfl))
      | false =>
        refine Br.no (hc.symm.trans hh) ?_
        conv => whnf
        repeat' ((first | refine Need.auto ?_ | refine Have.mk (fun _h => ?_)); conv => whnf)
        refine ⟨k + 1, ⟨by omega, by rw [aheadM, h0, hh]; rfl⟩, by omega, ?_⟩
        refine Mv.mkW ?_ ?_ (Nat.le_of_ble_eq_true rfl) <;> (repeat' (first | exact WA.nil | refine WA.cons rfl ?_ ?_ | exact WB.nil | refine WB.cons ?_ ?_ | exact WT.nil | refine WT.cons ?_ ?_ | exact WH.nil | refine WH.cons ?_ ?_ | exact WR.nil | refine WR.cons rfl ?_ ?_ | refine WO.vr ?_ | exact WO.dead | exact WO.mpS | refine WO.mpA ?_ | refine WO.arrA ?_ | exact WS.u | refine WS.c ?_ | refine WS.a ?_ | refine WS.t ?_ | exact WL.nil | refine WL.cons ?_ ?_ | exact WTL.nil | refine WTL.consC ?_ ?_ | refine WTL.consL ?_ ?_ | exact WC.nils | exact WC.nil rfl | exact WC.nilp | refine WC.fzA | exact WC.ptr rfl (Nat.le_of_ble_eq_true rfl) | exact WC.mpr rfl (Nat.le_of_ble_eq_true rfl) | refine WC.slA | refine WC.intA | refine WC.int ?_ | refine WC.boolA | refine WC.bool ?_ | refine WC.strA | refine WC.str ?_ | exact WC.imm rfl))
    · repeat' ((first | refine Need.auto ?_ | refine Have.mk (fun _h => ?_)); conv => whnf)
      have : k = n := by omega
      subst this
      rw [h0]
      refine RM.immW rfl ?_; (repeat' (first | exact WA.nil | refine WA.cons rfl ?_ ?_ | exact WB.nil | refine WB.cons ?_ ?_ | exact WT.nil | refine WT.cons ?_ ?_ | exact WH.nil | refine WH.cons ?_ ?_ | exact WR.nil | refine WR.cons rfl ?_ ?_ | refine WO.vr ?_ | exact WO.dead | exact WO.mpS | refine WO.mpA ?_ | refine WO.arrA ?_ | exact WS.u | refine WS.c ?_ | refine WS.a ?_ | refine WS.t ?_ | exact WL.nil | refine WL.cons ?_ ?_ | exact WTL.nil | refine WTL.consC ?_ ?_ | refine WTL.consL ?_ ?_ | exact WC.nils | exact WC.nil rfl | exact WC.nilp | refine WC.fzA | exact WC.ptr rfl (Nat.le_of_ble_eq_true rfl) | exact WC.mpr rfl (Nat.le_of_ble_eq_true rfl) | refine WC.slA | refine WC.intA | refine WC.int ?_ | refine WC.boolA | refine WC.bool ?_ | refine WC.strA | refine WC.str ?_ | exact WC.imm rfl))
theorem ahead_body : HasBody Try.prog 53 := ⟨⟨Try.f53, Try.func53, rfl, by kernel_rfl⟩⟩

def innerP (l : List Evt) (s : Int) (a : Nat) : Nat → Nat
  | 0 => a
  | k + 1 => if (l.getD k default).ret = false ∧ (l.getD k default).serial = s then max (innerP l s a k) k else innerP l s a k
def outerP (l : List Evt) : Nat → Nat
  | 0 => 0
  | i + 1 => if isFlush (l.getD i default) = true then innerP l (l.getD i default).serial (outerP l i) i else outerP l i
theorem innerP_le (l : List Evt) (s : Int) (a m : Nat) (ha : a ≤ m) : ∀ k, k ≤ m → innerP l s a k ≤ m
  | 0, _ => ha
  | k + 1, h => by
    have := innerP_le l s a m ha k (by omega)
    simp only [innerP]
    split <;> omega
theorem outerP_le (l : List Evt) : ∀ k, outerP l k ≤ k
  | 0 => Nat.le_refl _
  | k + 1 => by
    have := outerP_le l k
    simp only [outerP]
    split
    · have := innerP_le l (l.getD k default).serial (outerP l k) k this k (Nat.le_refl _)
      omega
    · omega
theorem point20_spec (l : List Evt) : PSpec Try.prog 51 [.c (evC l)] (.c (.int .i64 (outerP l l.length))) := by
  refine PSpec.rm ?_
  refine CSpec.of_vc hΓ Try.func51 rfl 63 0 [.tmp 2] Try.ntmps51 rfl (by rw [Try.results51]) rfl ?_
  conv => whnf
  repeat' ((first | refine Need.auto ?_ | refine Have.mk (fun _h => ?_)); conv => whnf)
  refine Lp.mkK hΓ (ι := Nat) [0] (fun i => [(4, .c (.int .i64 i)), (3, .c (.int .i64 (outerP l i)))]) (fun i => []) (fun i => i ≤ l.length) (fun i => l.length - i) 0 (Nat.zero_le _) ?_ ?_
  · refine Mv.mkW ?_ ?_ (Nat.le_of_ble_eq_true rfl) <;> (repeat' (first | exact WA.nil | refine WA.cons rfl ?_ ?_ | exact WB.nil | refine WB.cons ?_ ?_ | exact WT.nil | refine WT.cons ?_ ?_ | exact WH.nil | refine WH.cons ?_ ?_ | exact WR.nil | refine WR.cons rfl ?_ ?_ | refine WO.vr ?_ | exact WO.dead | exact WO.mpS | refine WO.mpA ?_ | refine WO.arrA ?_ | exact WS.u | refine WS.c ?_ | refine WS.a ?_ | refine WS.t ?_ | exact WL.nil | refine WL.cons ?_ ?_ | exact WTL.nil | refine WTL.consC ?_ ?_ | refine WTL.consL ?_ ?_ | exact WC.nils | exact WC.nil rfl | exact WC.nilp | refine WC.fzA | exact WC.ptr rfl (Nat.le_of_ble_eq_true rfl) | exact WC.mpr rfl (Nat.le_of_ble_eq_true rfl) | refine WC.slA | refine WC.intA | refine WC.int ?_ | refine WC.boolA | refine WC.bool ?_ | refine WC.strA | refine WC.str ?_ | exact WC.imm rfl))
  · intro k hk
    conv => whnf
    repeat' ((first | refine Need.auto ?_ | refine Have.mk (fun _h => ?_)); conv => whnf)
    (first | refine Br.lt (fun h1 => ?_) (fun h1 => ?_) | refine Br.le (fun h1 => ?_) (fun h1 => ?_) | refine Br.gt (fun h1 => ?_) (fun h1 => ?_) | refine Br.ge (fun h1 => ?_) (fun h1 => ?_) | refine Br.eq (fun h1 => ?_) (fun h1 => ?_) | refine Br.ne (fun h1 => ?_) (fun h1 => ?_) | refine Br.not (fun h1 => ?_) (fun h1 => ?_) | refine Br.mk (fun h1 => ?_) (fun h1 => ?_)) <;> (try simp only [Int.toNat_natCast] at h1) <;> (conv => whnf)
    · repeat' ((first | refine Need.auto ?_ | refine Have.mk (fun _h => ?_)); conv => whnf)
      have e0 : (k : Int).toNat = k := by simp
      rw [e0]
      have hc : isFlush (l.getD k default) = (bif (bif (l.getD k default).ret then (l.getD k default).kind == 4 else false) then (l.getD k default).err == 0 else false) := by
        unfold isFlush
        cases (l.getD k default).ret <;> by_cases c : (l.getD k default).kind = 4 <;> simp [c, -List.getD_eq_getElem?_getD]
        rfl
      cases hh : isFlush (l.getD k default) with
      | true =>
        refine Br.yes (hc.symm.trans hh) ?_
        conv => whnf
        repeat' ((first | refine Need.auto ?_ | refine Have.mk (fun _h => ?_)); conv => whnf)
        refine Lp.mkK hΓ (ι := Nat) [0, 4] (fun i => [(5, .c (.int .i64 i)), (3, .c (.int .i64 (innerP l (l.getD k default).serial (outerP l k) i)))]) (fun i => []) (fun i => i ≤ k) (fun i => k - i) 0 (Nat.zero_le _) ?_ ?_
        · refine Mv.mkW ?_ ?_ (Nat.le_of_ble_eq_true rfl) <;> (repeat' (first | exact WA.nil | refine WA.cons rfl ?_ ?_ | exact WB.nil | refine WB.cons ?_ ?_ | exact WT.nil | refine WT.cons ?_ ?_ | exact WH.nil | refine WH.cons ?_ ?_ | exact WR.nil | refine WR.cons rfl ?_ ?_ | refine WO.vr ?_ | exact WO.dead | exact WO.mpS | refine WO.mpA ?_ | refine WO.arrA ?_ | exact WS.u | refine WS.c ?_ | refine WS.a ?_ | refine WS.t ?_ | exact WL.nil | refine WL.cons ?_ ?_ | exact WTL.nil | refine WTL.consC ?_ ?_ | refine WTL.consL ?_ ?_ | exact WC.nils | exact WC.nil rfl | exact WC.nilp | refine WC.fzA | exact WC.ptr rfl (Nat.le_of_ble_eq_true rfl) | exact WC.mpr rfl (Nat.le_of_ble_eq_true rfl) | refine WC.slA | refine WC.intA | refine WC.int ?_ | refine WC.boolA | refine WC.bool ?_ | refine WC.strA | refine WC.str ?_ | exact WC.imm rfl))
        · intro i hi
          conv => whnf
          repeat' ((first | refine Need.auto ?_ | refine Have.mk (fun _h => ?_)); conv => whnf)
          (first | refine Br.lt (fun h2 => ?_) (fun h2 => ?_) | refine Br.le (fun h2 => ?_) (fun h2 => ?_) | refine Br.gt (fun h2 => ?_) (fun h2 => ?_) | refine Br.ge (fun h2 => ?_) (fun h2 => ?_) | refine Br.eq (fun h2 => ?_) (fun h2 => ?_) | refine Br.ne (fun h2 => ?_) (fun h2 => ?_) | refine Br.not (fun h2 => ?_) (fun h2 => ?_) | refine Br.mk (fun h2 => ?_) (fun h2 => ?_)) <;> (try simp only [Int.toNat_natCast] at h2) <;> (conv => whnf)
          · repeat' ((first | refine Need.auto ?_ | refine Have.mk (fun _h => ?_)); conv => whnf)
            refine Dr.mk hΓ hMix (by kernel_rfl) ?_; conv => whnf
            repeat' ((first | refine Need.auto ?_ | refine Have.mk (fun _h => ?_)); conv => whnf)
            have e1 : (i : Int).toNat = i := by simp
            rw [e0, e1]
            have hd : (bif !(l.getD i default).ret then (l.getD i default).serial == (l.getD k default).serial else false) = decide ((l.getD i default).ret = false ∧ (l.getD i default).serial = (l.getD k default).serial) := by
              cases (l.getD i default).ret <;> simp [-List.getD_eq_getElem?_getD]
              rfl
            by_cases c : (l.getD i default).ret = false ∧ (l.getD i default).serial = (l.getD k default).serial
            · refine Br.yes (hd.trans (decide_eq_true c)) ?_
              conv => whnf
              repeat' ((first | refine Need.auto ?_ | refine Have.mk (fun _h => ?_)); conv => whnf)
              refine ⟨i + 1, by omega, by omega, ?_⟩
              have : innerP l (l.getD k default).serial (outerP l k) (i + 1) = max (innerP l (l.getD k default).serial (outerP l k) i) i := by rw [innerP, if_pos c]
              rw [this]
              refine Mv.mkW ?_ ?_ (Nat.le_of_ble_eq_true rfl) <;> (repeat' (first | exact WA.nil | refine WA.cons rfl ?_ ?_ | exact WB.nil | refine WB.cons ?_ ?_ | exact WT.nil | refine WT.cons ?_ ?_ | exact WH.nil | refine WH.cons ?_ ?_ | exact WR.nil | refine WR.cons rfl ?_ ?_ | refine WO.vr ?_ | exact WO.dead | exact WO.mpS | refine WO.mpA ?_ | refine WO.arrA ?_ | exact WS.u | refine WS.c ?_ | refine WS.a ?_ | refine WS.t ?_ | exact WL.nil | refine WL.cons ?_ ?_ | exact WTL.nil | refine WTL.consC ?_ ?_ | refine WTL.consL ?_ ?_ | exact WC.nils | exact WC.nil rfl | exact WC.nilp | refine WC.fzA | exact WC.ptr rfl (Nat.le_of_ble_eq_true rfl) | exact WC.mpr rfl (Nat.le_of_ble_eq_true rfl) | refine WC.slA | refine WC.intA | refine WC.int ?_ | refine WC.boolA | refine WC.bool ?_ | refine WC.strA | refine WC.str ?_ | exact WC.imm rfl))
            · refine Br.no (hd.trans (decide_eq_false c)) ?_
              conv => whnf
              repeat' ((first | refine Need.auto ?_ | refine Have.mk (fun _h => ?_)); conv => whnf)
              refine ⟨i + 1, by omega, by omega, ?_⟩
              have : innerP l (l.getD k default).serial (outerP l k) (i + 1) = innerP l (l.getD k default).serial (outerP l k) i := by rw [innerP, if_neg c]
              rw [this]
              refine Mv.mkW ?_ ?_ (Nat.le_of_ble_eq_true rfl) <;> (repeat' (first | exact WA.nil | refine WA.cons rfl ?_ ?_ | exact WB.nil | refine WB.cons ?_ ?_ | exact WT.nil | refine WT.cons ?_ ?_ | exact WH.nil | refine WH.cons ?_ ?_ | exact WR.nil | refine WR.cons rfl ?_ ?_ | refine WO.vr ?_ | exact WO.dead | exact WO.mpS | refine WO.mpA ?_ | refine WO.arrA ?_ | exact WS.u | refine WS.c ?_ | refine WS.a ?_ | refine WS.t ?_ | exact WL.nil | refine WL.cons ?_ ?_ | exact WTL.nil | refine WTL.consC ?_ ?_ | refine WTL.consL ?_ ?_ | exact WC.nils | exact WC.nil rfl | exact WC.nilp | refine WC.fzA | exact WC.ptr rfl (Nat.le_of_ble_eq_true rfl) | exact WC.mpr rfl (Nat.le_of_ble_eq_true rfl) | refine WC.slA | refine WC.intA | refine WC.int ?_ | refine WC.boolA | refine WC.bool ?_ | refine WC.strA | refine WC.str ?_ | exact WC.imm rfl))
          · repeat' ((first | refine Need.auto ?_ | refine Have.mk (fun _h => ?_)); conv => whnf)
            have : i = k := by omega
            subst this
            refine ⟨i + 1, by omega, by omega, ?_⟩
            have : outerP l (i + 1) = innerP l (l.getD i default).serial (outerP l i) i := by rw [outerP, if_pos hh]
            rw [this]
            refine Mv.mkW ?_ ?_ (Nat.le_of_ble_eq_true rfl) <;> (repeat' (first | exact WA.nil | refine WA.cons rfl ?_ ?_ | exact WB.nil | refine WB.cons ?_ ?_ | exact WT.nil | refine WT.cons ?_ ?_ | exact WH.nil | refine WH.cons ?_ ?_ | exact WR.nil | refine WR.cons rfl ?_ ?_ | refine WO.vr ?_ | exact WO.dead | exact WO.mpS | refine WO.mpA ?_ | refine WO.arrA ?_ | exact WS.u | refine WS.c ?_ | refine WS.a ?_ | refine WS.t ?_ | exact WL.nil | refine WL.cons ?_ ?_ | exact WTL.nil | refine WTL.consC ?_ ?_ | refine WTL.consL ?_ ?_ | exact WC.nils | exact WC.nil rfl | exact WC.nilp | refine WC.fzA | exact WC.ptr rfl (Nat.le_of_ble_eq_true rfl) | exact WC.mpr rfl (Nat.le_of_ble_eq_true rfl) | refine WC.slA | refine WC.intA | refine WC.int ?_ | refine WC.boolA | refine WC.bool ?_ | refine WC.strA | refine WC.str ?_ | exact WC.imm rfl))
      | false =>
        refine Br.no (hc.symm.trans hh) ?_
        conv => whnf
        repeat' ((first | refine Need.auto ?_ | refine Have.mk (fun _h => ?_)); conv => whnf)
        refine ⟨k + 1, by omega, by omega, ?_⟩
        have : outerP l (k + 1) = outerP l k := by rw [outerP, if_neg (by rw [hh]; simp)]
        rw [this]
        refine Mv.mkW ?_ ?_ (Nat.le_of_ble_eq_true rfl) <;> (repeat' (first | exact WA.nil | refine WA.cons rfl ?_ ?_ | exact WB.nil | refine WB.cons ?_ ?_ | exact WT.nil | refine WT.cons ?_ ?_ | exact WH.nil | refine WH.cons ?_ ?_ | exact WR.nil | refine WR.cons rfl ?_ ?_ | refine WO.vr ?_ | exact WO.dead | exact WO.mpS | refine WO.mpA ?_ | refine WO.arrA ?_ | exact WS.u | refine WS.c ?_ | refine WS.a ?_ | refine WS.t ?_ | exact WL.nil | refine WL.cons ?_ ?_ | exact WTL.nil | refine WTL.consC ?_ ?_ | refine WTL.consL ?_ ?_ | exact WC.nils | exact WC.nil rfl | exact WC.nilp | refine WC.fzA | exact WC.ptr rfl (Nat.le_of_ble_eq_true rfl) | exact WC.mpr rfl (Nat.le_of_ble_eq_true rfl) | refine WC.slA | refine WC.intA | refine WC.int ?_ | refine WC.boolA | refine WC.bool ?_ | refine WC.strA | refine WC.str ?_ | exact WC.imm rfl))
    · repeat' ((first | refine Need.auto ?_ | refine Have.mk (fun _h => ?_)); conv => whnf)
      have : k = l.length := by omega
      subst this
      refine RM.immW rfl ?_; (repeat' (first | exact WA.nil | refine WA.cons rfl ?_ ?_ | exact WB.nil | refine WB.cons ?_ ?_ | exact WT.nil | refine WT.cons ?_ ?_ | exact WH.nil | refine WH.cons ?_ ?_ | exact WR.nil | refine WR.cons rfl ?_ ?_ | refine WO.vr ?_ | exact WO.dead | exact WO.mpS | refine WO.mpA ?_ | refine WO.arrA ?_ | exact WS.u | refine WS.c ?_ | refine WS.a ?_ | refine WS.t ?_ | exact WL.nil | refine WL.cons ?_ ?_ | exact WTL.nil | refine WTL.consC ?_ ?_ | refine WTL.consL ?_ ?_ | exact WC.nils | exact WC.nil rfl | exact WC.nilp | refine WC.fzA | exact WC.ptr rfl (Nat.le_of_ble_eq_true rfl) | exact WC.mpr rfl (Nat.le_of_ble_eq_true rfl) | refine WC.slA | refine WC.intA | refine WC.int ?_ | refine WC.boolA | refine WC.bool ?_ | refine WC.strA | refine WC.str ?_ | exact WC.imm rfl))
theorem point20_body : HasBody Try.prog 51 := ⟨⟨Try.f51, Try.func51, rfl, by kernel_rfl⟩⟩
def sameTo (a b : List ByteArray) : Nat → Bool
  | 0 => true
  | k + 1 => sameTo a b k && decide (a.getD k ByteArray.empty = b.getD k ByteArray.empty)
theorem same17_spec (a b : List ByteArray) : PSpec Try.prog 49 [.c (strsC a), .c (strsC b)] (.c (.bool (decide (a = b)))) := by
  have key : a.length = b.length → (a = b ↔ ∀ i, i < a.length → a.getD i ByteArray.empty = b.getD i ByteArray.empty) := by
    intro hl
    constructor
    · rintro rfl; simp
    · intro h
      refine List.ext_getElem hl fun i h1 h2 => ?_
      have := h i h1
      simpa [List.getD, h1, h2] using this
  refine PSpec.rm ?_
  refine CSpec.of_vc hΓ Try.func49 rfl 26 0 [.tmp 4] Try.ntmps49 rfl (by rw [Try.results49]) rfl ?_
  conv => whnf
  repeat' ((first | refine Need.auto ?_ | refine Have.mk (fun _h => ?_)); conv => whnf)
  (first | refine Br.lt (fun h0 => ?_) (fun h0 => ?_) | refine Br.le (fun h0 => ?_) (fun h0 => ?_) | refine Br.gt (fun h0 => ?_) (fun h0 => ?_) | refine Br.ge (fun h0 => ?_) (fun h0 => ?_) | refine Br.eq (fun h0 => ?_) (fun h0 => ?_) | refine Br.ne (fun h0 => ?_) (fun h0 => ?_) | refine Br.not (fun h0 => ?_) (fun h0 => ?_) | refine Br.mk (fun h0 => ?_) (fun h0 => ?_)) <;> (try simp only [Int.toNat_natCast] at h0) <;> (conv => whnf)
  · repeat' ((first | refine Need.auto ?_ | refine Have.mk (fun _h => ?_)); conv => whnf)
    rw [decide_eq_false (fun e => h0 (by rw [e]))]
    refine RM.immW rfl ?_; (repeat' (first | exact WA.nil | refine WA.cons rfl ?_ ?_ | exact WB.nil | refine WB.cons ?_ ?_ | exact WT.nil | refine WT.cons ?_ ?_ | exact WH.nil | refine WH.cons ?_ ?_ | exact WR.nil | refine WR.cons rfl ?_ ?_ | refine WO.vr ?_ | exact WO.dead | exact WO.mpS | refine WO.mpA ?_ | refine WO.arrA ?_ | exact WS.u | refine WS.c ?_ | refine WS.a ?_ | refine WS.t ?_ | exact WL.nil | refine WL.cons ?_ ?_ | exact WTL.nil | refine WTL.consC ?_ ?_ | refine WTL.consL ?_ ?_ | exact WC.nils | exact WC.nil rfl | exact WC.nilp | refine WC.fzA | exact WC.ptr rfl (Nat.le_of_ble_eq_true rfl) | exact WC.mpr rfl (Nat.le_of_ble_eq_true rfl) | refine WC.slA | refine WC.intA | refine WC.int ?_ | refine WC.boolA | refine WC.bool ?_ | refine WC.strA | refine WC.str ?_ | exact WC.imm rfl))
  · repeat' ((first | refine Need.auto ?_ | refine Have.mk (fun _h => ?_)); conv => whnf)
    refine Lp.mkK hΓ (ι := Nat) [0, 1] (fun i => [(5, .c (.int .i64 i))]) (fun i => []) (fun i => i ≤ a.length ∧ ∀ j, j < i → a.getD j ByteArray.empty = b.getD j ByteArray.empty) (fun i => a.length - i) 0 ⟨Nat.zero_le _, fun j hj => absurd hj (by omega)⟩ ?_ ?_
    · refine Mv.mkW ?_ ?_ (Nat.le_of_ble_eq_true rfl) <;> (repeat' (first | exact WA.nil | refine WA.cons rfl ?_ ?_ | exact WB.nil | refine WB.cons ?_ ?_ | exact WT.nil | refine WT.cons ?_ ?_ | exact WH.nil | refine WH.cons ?_ ?_ | exact WR.nil | refine WR.cons rfl ?_ ?_ | refine WO.vr ?_ | exact WO.dead | exact WO.mpS | refine WO.mpA ?_ | refine WO.arrA ?_ | exact WS.u | refine WS.c ?_ | refine WS.a ?_ | refine WS.t ?_ | exact WL.nil | refine WL.cons ?_ ?_ | exact WTL.nil | refine WTL.consC ?_ ?_ | refine WTL.consL ?_ ?_ | exact WC.nils | exact WC.nil rfl | exact WC.nilp | refine WC.fzA | exact WC.ptr rfl (Nat.le_of_ble_eq_true rfl) | exact WC.mpr rfl (Nat.le_of_ble_eq_true rfl) | refine WC.slA | refine WC.intA | refine WC.int ?_ | refine WC.boolA | refine WC.bool ?_ | refine WC.strA | refine WC.str ?_ | exact WC.imm rfl))
    · intro k ⟨hk, hs⟩
      conv => whnf
      repeat' ((first | refine Need.auto ?_ | refine Have.mk (fun _h => ?_)); conv => whnf)
      (first | refine Br.lt (fun h1 => ?_) (fun h1 => ?_) | refine Br.le (fun h1 => ?_) (fun h1 => ?_) | refine Br.gt (fun h1 => ?_) (fun h1 => ?_) | refine Br.ge (fun h1 => ?_) (fun h1 => ?_) | refine Br.eq (fun h1 => ?_) (fun h1 => ?_) | refine Br.ne (fun h1 => ?_) (fun h1 => ?_) | refine Br.not (fun h1 => ?_) (fun h1 => ?_) | refine Br.mk (fun h1 => ?_) (fun h1 => ?_)) <;> (try simp only [Int.toNat_natCast] at h1) <;> (conv => whnf)
      · repeat' ((first | refine Need.auto ?_ | refine Have.mk (fun _h => ?_)); conv => whnf)
        refine Dr.mk hΓ hMix (by kernel_rfl) ?_; conv => whnf
        repeat' ((first | refine Need.auto ?_ | refine Have.mk (fun _h => ?_)); conv => whnf)
        have e0 : (k : Int).toNat = k := by simp
        rw [e0]
        (first | refine Br.lt (fun h2 => ?_) (fun h2 => ?_) | refine Br.le (fun h2 => ?_) (fun h2 => ?_) | refine Br.gt (fun h2 => ?_) (fun h2 => ?_) | refine Br.ge (fun h2 => ?_) (fun h2 => ?_) | refine Br.eq (fun h2 => ?_) (fun h2 => ?_) | refine Br.ne (fun h2 => ?_) (fun h2 => ?_) | refine Br.not (fun h2 => ?_) (fun h2 => ?_) | (refine Br.mk (fun h2 => ?_) (fun h2 => ?_) <;> simp [-List.length_eq_zero_iff, -List.getD_eq_getElem?_getD] at h2)) <;> (try simp only [Int.toNat_natCast] at h2) <;> (conv => whnf)
        · repeat' ((first | refine Need.auto ?_ | refine Have.mk (fun _h => ?_)); conv => whnf)
          rw [decide_eq_false (fun e => of_decide_eq_false h2 (by rw [e]))]
          refine RM.immW rfl ?_; (repeat' (first | exact WA.nil | refine WA.cons rfl ?_ ?_ | exact WB.nil | refine WB.cons ?_ ?_ | exact WT.nil | refine WT.cons ?_ ?_ | exact WH.nil | refine WH.cons ?_ ?_ | exact WR.nil | refine WR.cons rfl ?_ ?_ | refine WO.vr ?_ | exact WO.dead | exact WO.mpS | refine WO.mpA ?_ | refine WO.arrA ?_ | exact WS.u | refine WS.c ?_ | refine WS.a ?_ | refine WS.t ?_ | exact WL.nil | refine WL.cons ?_ ?_ | exact WTL.nil | refine WTL.consC ?_ ?_ | refine WTL.consL ?_ ?_ | exact WC.nils | exact WC.nil rfl | exact WC.nilp | refine WC.fzA | exact WC.ptr rfl (Nat.le_of_ble_eq_true rfl) | exact WC.mpr rfl (Nat.le_of_ble_eq_true rfl) | refine WC.slA | refine WC.intA | refine WC.int ?_ | refine WC.boolA | refine WC.bool ?_ | refine WC.strA | refine WC.str ?_ | exact WC.imm rfl))
        · repeat' ((first | refine Need.auto ?_ | refine Have.mk (fun _h => ?_)); conv => whnf)
          refine ⟨k + 1, ⟨by omega, fun j hj => ?_⟩, by omega, ?_⟩
          · by_cases c : j = k
            · subst c; exact of_decide_eq_true h2
            · exact hs j (by omega)
          refine Mv.mkW ?_ ?_ (Nat.le_of_ble_eq_true rfl) <;> (repeat' (first | exact WA.nil | refine WA.cons rfl ?_ ?_ | exact WB.nil | refine WB.cons ?_ ?_ | exact WT.nil | refine WT.cons ?_ ?_ | exact WH.nil | refine WH.cons ?_ ?_ | exact WR.nil | refine WR.cons rfl ?_ ?_ | refine WO.vr ?_ | exact WO.dead | exact WO.mpS | refine WO.mpA ?_ | refine WO.arrA ?_ | exact WS.u | refine WS.c ?_ | refine WS.a ?_ | refine WS.t ?_ | exact WL.nil | refine WL.cons ?_ ?_ | exact WTL.nil | refine WTL.consC ?_ ?_ | refine WTL.consL ?_ ?_ | exact WC.nils | exact WC.nil rfl | exact WC.nilp | refine WC.fzA | exact WC.ptr rfl (Nat.le_of_ble_eq_true rfl) | exact WC.mpr rfl (Nat.le_of_ble_eq_true rfl) | refine WC.slA | refine WC.intA | refine WC.int ?_ | refine WC.boolA | refine WC.bool ?_ | refine WC.strA | refine WC.str ?_ | exact WC.imm rfl))
      · repeat' ((first | refine Need.auto ?_ | refine Have.mk (fun _h => ?_)); conv => whnf)
        have : k = a.length := by omega
        subst this
        rw [decide_eq_true ((key (by omega)).2 hs)]
        refine RM.immW rfl ?_; (repeat' (first | exact WA.nil | refine WA.cons rfl ?_ ?_ | exact WB.nil | refine WB.cons ?_ ?_ | exact WT.nil | refine WT.cons ?_ ?_ | exact WH.nil | refine WH.cons ?_ ?_ | exact WR.nil | refine WR.cons rfl ?_ ?_ | refine WO.vr ?_ | exact WO.dead | exact WO.mpS | refine WO.mpA ?_ | refine WO.arrA ?_ | exact WS.u | refine WS.c ?_ | refine WS.a ?_ | refine WS.t ?_ | exact WL.nil | refine WL.cons ?_ ?_ | exact WTL.nil | refine WTL.consC ?_ ?_ | refine WTL.consL ?_ ?_ | exact WC.nils | exact WC.nil rfl | exact WC.nilp | refine WC.fzA | exact WC.ptr rfl (Nat.le_of_ble_eq_true rfl) | exact WC.mpr rfl (Nat.le_of_ble_eq_true rfl) | refine WC.slA | refine WC.intA | refine WC.int ?_ | refine WC.boolA | refine WC.bool ?_ | refine WC.strA | refine WC.str ?_ | exact WC.imm rfl))
theorem same17_body : HasBody Try.prog 49 := ⟨⟨Try.f49, Try.func49, rfl, by kernel_rfl⟩⟩
end Go.Proofs
end
