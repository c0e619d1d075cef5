/- Part of the proofs of laws of this seat: contracts and plain lemmas; no condition is added to a statement. -/
import Derived.Test.YtmpoogflpmaijaaGreatHistB
set_option linter.unusedSimpArgs false
set_option linter.unusedVariables false
section
open Go Go.Am
namespace Go.Proofs
/-- Events by their numbers. -/
def getE (es : List Evt) (n : Int) : Evt := (es.find? fun e => decide (e.serial = n)).getD default
def hasE (es : List Evt) (n : Int) : Bool := decide (n ∈ es.map Evt.serial)
def keyE (es : List Evt) : List Key := es.map fun e => .c (.i .i64 e.serial)
def zEvt : List Z := [Z.b, Z.i .i64, Z.i .i64, Z.i .i64, Z.i .i64, Z.s, Z.i .i64, Z.s]
def mapE (es : List Evt) : O := .mp (.c (some .i64)) zEvt true (keyE es) (fun k j => Evt.cell (getE es (keyI k)) j)
theorem memK_E {es : List Evt} {n : Int} : memK (keyE es) (.c (.i .i64 n)) = hasE es n := by
  unfold memK hasE keyE
  congr 1
  simp only [List.mem_map, Key.c.injEq, KC.i.injEq, true_and, eq_iff_iff]
theorem updK_E {es : List Evt} {e : Evt} (h : hasE es e.serial = false) : updK (keyE es) (.c (.i .i64 e.serial)) = keyE (es ++ [e]) := by
  unfold updK
  rw [memK_E, h]
  simp [keyE]
theorem getE_not {es : List Evt} {n : Int} (h : hasE es n = false) : getE es n = default := by
  unfold getE
  have : es.find? (fun e => decide (e.serial = n)) = none := by
    rw [List.find?_eq_none]
    intro e he
    simp only [hasE, decide_eq_false_iff_not, List.mem_map, not_exists, not_and] at h
    simpa using h e he
  rw [this]; rfl
theorem getE_new {es : List Evt} {e : Evt} (h : hasE es e.serial = false) (x : Int) : getE (es ++ [e]) x = if x = e.serial then e else getE es x := by
  unfold getE
  rw [List.find?_append]
  by_cases c : x = e.serial
  · subst c
    have : es.find? (fun f => decide (f.serial = e.serial)) = none := by
      rw [List.find?_eq_none]
      intro f hf
      simp only [hasE, decide_eq_false_iff_not, List.mem_map, not_exists, not_and] at h
      simpa using h f hf
    simp [this]
  · have : List.find? (fun f => decide (f.serial = x)) [e] = none := by simp; exact fun q => c q.symm
    simp [this, c]
theorem updV_E {es : List Evt} {e : Evt} {x : Int} {j : Nat} (h : hasE es e.serial = false) {cs : List C} (hc : ∀ j, lget cs j = e.cell j) :
    updV (fun k (j : Nat) => Evt.cell (getE es (keyI k)) j) (.c (.i .i64 e.serial)) (lget cs) (.c (.i .i64 x)) j = Evt.cell (getE (es ++ [e]) x) j := by
  rw [getE_new h]
  simp only [updV, Key.c.injEq, KC.i.injEq, true_and]
  by_cases c : x = e.serial
  · rw [if_pos c, if_pos c, hc]
  · rw [if_neg c, if_neg c]; rfl
theorem cells_lget (e : Evt) : ∀ j, lget e.cells j = e.cell j
  | 0 => rfl
  | 1 => rfl
  | 2 => rfl
  | 3 => rfl
  | 4 => rfl
  | 5 => rfl
  | 6 => rfl
  | 7 => rfl
  | _ + 8 => rfl
theorem WO.mapE_new {ρ : Nat → Nat} {n : Nat} {es : List Evt} {e : Evt} {cs : List C} (h : hasE es e.serial = false) (hc : ∀ j, lget cs j = e.cell j) :
    WO ρ n (.mp (.c (some .i64)) zEvt true (updK (keyE es) (.c (.i .i64 e.serial))) (updV (fun k (j : Nat) => Evt.cell (getE es (keyI k)) j) (.c (.i .i64 e.serial)) (lget cs))) (mapE (es ++ [e])) :=
  WO.mp rfl rfl rfl (updK_E h) fun k j hk _ => by
    obtain ⟨m, rfl⟩ := key_i hk
    exact leF.of_eq (updV_E h hc)
theorem begunTo_serials (l : List Evt) : ∀ k, k ≤ l.length → (begunTo l k).map Evt.serial = (placesM l false k).map Prod.fst
  | 0, _ => rfl
  | k + 1, h => by
    have ih := begunTo_serials l k (by omega)
    by_cases hr : (l.getD k default).ret = false ∧ (placesM l false k).has (l.getD k default).serial = false
    · rw [begunTo_yes (by omega) hr.1 hr.2, placesM, if_pos ⟨hr.2, hr.1⟩]
      simp [ih]
    · have : (l.getD k default).ret = true ∨ (placesM l false k).has (l.getD k default).serial = true := by
        cases h1 : (l.getD k default).ret with
        | true => exact .inl rfl
        | false =>
          cases h2 : (placesM l false k).has (l.getD k default).serial with
          | true => exact .inr rfl
          | false => exact absurd ⟨h1, h2⟩ hr
      rw [begunTo_no (by omega) this, placesM, if_neg (fun c => hr ⟨c.2, c.1⟩), ih]
theorem places_nodup (l : List Evt) (r : Bool) : ∀ k, ((placesM l r k).map Prod.fst).Nodup
  | 0 => by simp [placesM]
  | k + 1 => by
    have ih := places_nodup l r k
    simp only [placesM]
    split
    · rename_i h
      rw [List.map_append, List.nodup_append]
      refine ⟨ih, by simp, ?_⟩
      intro a ha b hb
      simp only [List.map_cons, List.map_nil, List.mem_singleton] at hb
      subst hb
      have := h.1
      simp only [MapI.has, decide_eq_false_iff_not] at this
      exact fun e => this (e ▸ ha)
    · exact ih
theorem opOf_serial (l : List Evt) (e : Evt) : (opOf l e).serial = e.serial := by
  unfold opOf; split <;> rfl
theorem operations_serials (l : List Evt) : (operationsM l).map Evt.serial = (placesF l false).map Prod.fst := by
  unfold operationsM
  rw [List.map_map, show placesF l false = placesM l false l.length from rfl, ← begunTo_serials l l.length (Nat.le_refl _)]
  refine List.map_congr_left fun e _ => opOf_serial l e
theorem operations_nodup (l : List Evt) : ((operationsM l).map Evt.serial).Nodup := by
  rw [operations_serials]; exact places_nodup l false _
theorem hasE_take {es : List Evt} {k : Nat} {p : Evt → Bool} (h : (es.map Evt.serial).Nodup) (hk : k < es.length) : hasE ((es.take k).filter p) (es.getD k default).serial = false := by
  have e : es.getD k default = es[k] := by simp [List.getD, hk]
  rw [e]
  simp only [hasE, decide_eq_false_iff_not, List.mem_map, List.mem_filter, not_exists, not_and, and_imp]
  intro f hf _ hs
  obtain ⟨i, hi, rfl⟩ := List.getElem_of_mem hf
  rw [List.getElem_take] at hs
  have hi' : i < k := by
    rw [List.length_take] at hi; omega
  unfold List.Nodup at h
  rw [List.pairwise_iff_getElem] at h
  exact h i k (by simp; omega) (by simp; omega) hi' (by simpa using hs)
theorem take_filter_succ {es : List Evt} {k : Nat} {p : Evt → Bool} (hk : k < es.length) : (es.take (k + 1)).filter p = if p (es.getD k default) = true then (es.take k).filter p ++ [es.getD k default] else (es.take k).filter p := by
  have e : es.getD k default = es[k] := by simp [List.getD, hk]
  rw [e, List.take_succ_eq_append_getElem hk, List.filter_append]
  by_cases c : p es[k] = true
  · rw [if_pos c]; simp [c]
  · rw [if_neg c]; simp [c]
def canE (e : Evt) : Bool := !e.ret || decide (e.err = 0)
def mustE (e : Evt) : Bool := e.ret && decide (e.err = 0)
def leftM (l : List Evt) : Nat := ((operationsM l).filter mustE).length
def nilCheckM (bs : List ByteArray) (l : List Evt) : Int := if sizesM bs l ≠ 0 then sizesM bs l else if 0 < leftM l then 17 else 0
theorem operations_len (l : List Evt) : (operationsM l).length = (begunM l).length := by unfold operationsM; rw [List.length_map]
theorem lcheck_nil_spec (bs : List ByteArray) (l : List Evt) (g : Nat → Nat → C) (hl : l.length ≤ 10000000) : PSpec Tryz.prog 14 [.c (strsC bs), .c (evC l), .c (.isl 1 0 g false)] (.c (.int .i64 (nilCheckM bs l))) := by
  refine PSpec.rm ?_
  refine ov hΓ Tryz.func14 100 0 [.tmp 6] Tryz.ntmps14 Tryz.results14 ?_
  ((conv=>whnf);(repeat' ((first|refine Nd ?_|refine Hv fun _h=>?_);conv=>whnf)))
  refine CallN.pureA lbase_body (lbase_spec bs l ) ?_
  ((conv=>whnf);(repeat' ((first|refine Nd ?_|refine Hv fun _h=>?_);conv=>whnf)))
  refine Br.of (fun h0=>?_) (fun h0=>?_)<;>(try simp only [Int.toNat_natCast] at h0)<;>(conv=>whnf)
  · ((conv=>whnf);(repeat' ((first|refine Nd ?_|refine Hv fun _h=>?_);conv=>whnf)))
    have : nilCheckM bs l = sizesM bs l := by unfold nilCheckM; rw [if_pos h0]
    rw [this]
    exact RM.i0
  · ((conv=>whnf);(repeat' ((first|refine Nd ?_|refine Hv fun _h=>?_);conv=>whnf)))
    refine CallN.autoQ [] operations_body (operations_spec l hl) ?_; conv=>whnf
    ((conv=>whnf);(repeat' ((first|refine Nd ?_|refine Hv fun _h=>?_);conv=>whnf)))
    have hlen := operations_len l
    have hbl : (begunM l).length ≤ l.length := begunTo_len l l.length
    rw [← hlen] at hbl ⊢
    have hnd := operations_nodup l
    generalize ho : operationsM l = ops at *
    refine Lp.mkK hΓ (ι := Nat) [0, 1, 2, 8, 30, 31] (fun i => [(32, .c (.int .i64 i)), (9, .c (.int .i64 ((ops.take i).filter mustE).length))]) (fun i => [mapE ((ops.take i).filter canE), .arr 52 8 ops.length (evG ops)]) (fun i => i ≤ ops.length) (fun i => ops.length - i) 0 (Nat.zero_le _) ?_ ?_
    · refine Mv.mkW ?_ ?_ leN <;> (first|exact wb0|refine wb1 ?_|refine wb2 ?_ ?_|refine wb3 ?_ ?_ ?_|refine wb4 ?_ ?_ ?_ ?_)
      · intro x j _ hj
        refine leF.of_eq ?_
        have e : getE ((ops.take 0).filter canE) (keyI x) = default := getE_not (by simp [hasE])
        rw [e]
        match j, hj with
        | 0, _ => rfl
        | 1, _ => rfl
        | 2, _ => rfl
        | 3, _ => rfl
        | 4, _ => rfl
        | 5, _ => rfl
        | 6, _ => rfl
        | 7, _ => rfl
      all_goals (intro i _ j _; exact WC.eq (ev_re _ _ _) (evCell_imm _ _))
    · intro k hk
      ((conv=>whnf);(repeat' ((first|refine Nd ?_|refine Hv fun _h=>?_);conv=>whnf)))
      refine Br.of (fun h1=>?_) (fun h1=>?_)<;>(try simp only [Int.toNat_natCast] at h1)<;>(conv=>whnf)
      · ((conv=>whnf);(repeat' ((first|refine Nd ?_|refine Hv fun _h=>?_);conv=>whnf)))
        have e0 : (k : Int).toNat = k := by simp
        rw [e0]
        refine Frc.mk (.a (ops.getD k default).cells) ?_ ?_
        · simp [gets, evG, rowG, Evt.cell, Evt.cells]
        ((conv=>whnf);(repeat' ((first|refine Nd ?_|refine Hv fun _h=>?_);conv=>whnf)))
        refine CallN.pureA counts_body (counts_spec (ops.getD k default) ) ?_
        ((conv=>whnf);(repeat' ((first|refine Nd ?_|refine Hv fun _h=>?_);conv=>whnf)))
        have hk' : k < ops.length := by omega
        have e1 := take_filter_succ (p := canE) hk'
        have e2 := take_filter_succ (p := mustE) hk'
        have hml : ((ops.take k).filter mustE).length ≤ k := Nat.le_trans (List.length_filter_le _ _) (by rw [List.length_take]; omega)
        cases hc : canE (ops.getD k default) with
        | true =>
          rw [if_pos hc] at e1
          have hn := hasE_take (p := canE) hnd hk'
          refine Br.yes hc ?_
          ((conv=>whnf);(repeat' ((first|refine Nd ?_|refine Hv fun _h=>?_);conv=>whnf)))
          cases hm : mustE (ops.getD k default) with
          | true =>
            refine Br.yes hm ?_
            ((conv=>whnf);(repeat' ((first|refine Nd ?_|refine Hv fun _h=>?_);conv=>whnf)))
            rw [if_pos hm] at e2
            refine ⟨k + 1, by omega, by omega, ?_⟩
            rw [e1, e2]
            refine Mv.mkW ?_ ?_ leN <;> (first|exact wb0|refine wb1 ?_|refine wb2 ?_ ?_|refine wb3 ?_ ?_ ?_|refine wb4 ?_ ?_ ?_ ?_)
            all_goals first
              | exact WO.mapE_new hn (cells_lget _)
              | exact WO.mpS
              | (intro i _ j _; exact WC.imm (evCell_imm _ _))
              | (rw [List.length_append]; simp; rw [wrap_id _ (by omega) (by omega)])
          | false =>
            refine Br.no hm ?_
            ((conv=>whnf);(repeat' ((first|refine Nd ?_|refine Hv fun _h=>?_);conv=>whnf)))
            rw [if_neg (by rw [hm]; simp)] at e2
            refine ⟨k + 1, by omega, by omega, ?_⟩
            rw [e1, e2]
            refine Mv.mkW ?_ ?_ leN <;> (first|exact wb0|refine wb1 ?_|refine wb2 ?_ ?_|refine wb3 ?_ ?_ ?_|refine wb4 ?_ ?_ ?_ ?_)
            all_goals first
              | exact WO.mapE_new hn (cells_lget _)
              | exact WO.mpS
              | (intro i _ j _; exact WC.imm (evCell_imm _ _))
              | (rw [List.length_append]; simp; rw [wrap_id _ (by omega) (by omega)])
        | false =>
          rw [if_neg (by rw [hc]; simp)] at e1
          refine Br.no hc ?_
          ((conv=>whnf);(repeat' ((first|refine Nd ?_|refine Hv fun _h=>?_);conv=>whnf)))
          cases hm : mustE (ops.getD k default) with
          | true =>
            refine Br.yes hm ?_
            ((conv=>whnf);(repeat' ((first|refine Nd ?_|refine Hv fun _h=>?_);conv=>whnf)))
            rw [if_pos hm] at e2
            refine ⟨k + 1, by omega, by omega, ?_⟩
            rw [e1, e2]
            refine Mv.mkW ?_ ?_ leN <;> (first|exact wb0|refine wb1 ?_|refine wb2 ?_ ?_|refine wb3 ?_ ?_ ?_|refine wb4 ?_ ?_ ?_ ?_)
            all_goals first
              | exact WO.mapE_new hn (cells_lget _)
              | exact WO.mpS
              | (intro i _ j _; exact WC.imm (evCell_imm _ _))
              | (rw [List.length_append]; simp; rw [wrap_id _ (by omega) (by omega)])
          | false =>
            refine Br.no hm ?_
            ((conv=>whnf);(repeat' ((first|refine Nd ?_|refine Hv fun _h=>?_);conv=>whnf)))
            rw [if_neg (by rw [hm]; simp)] at e2
            refine ⟨k + 1, by omega, by omega, ?_⟩
            rw [e1, e2]
            refine Mv.mkW ?_ ?_ leN <;> (first|exact wb0|refine wb1 ?_|refine wb2 ?_ ?_|refine wb3 ?_ ?_ ?_|refine wb4 ?_ ?_ ?_ ?_)
            all_goals first
              | exact WO.mapE_new hn (cells_lget _)
              | exact WO.mpS
              | (intro i _ j _; exact WC.imm (evCell_imm _ _))
              | (rw [List.length_append]; simp; rw [wrap_id _ (by omega) (by omega)])
      · ((conv=>whnf);(repeat' ((first|refine Nd ?_|refine Hv fun _h=>?_);conv=>whnf)))
        have : k = ops.length := by omega
        subst this
        refine Lp.mkK hΓ (ι := Unit) [9, 53, 52] (fun i => []) (fun i => []) (fun i => True) (fun i => 0) () trivial ?_ ?_
        · exact Mv.k0
        · intro _ _
          ((conv=>whnf);(repeat' ((first|refine Nd ?_|refine Hv fun _h=>?_);conv=>whnf)))
          refine Br.no rfl ?_
          ((conv=>whnf);(repeat' ((first|refine Nd ?_|refine Hv fun _h=>?_);conv=>whnf)))
          rw [List.take_length]
          refine Br.of (fun h3=>?_) (fun h3=>?_)<;>(try simp only [Int.toNat_natCast] at h3)<;>(conv=>whnf)
          · ((conv=>whnf);(repeat' ((first|refine Nd ?_|refine Hv fun _h=>?_);conv=>whnf)))
            have : nilCheckM bs l = 17 := by unfold nilCheckM leftM; rw [if_neg (by omega), ho, if_pos (by omega)]
            rw [this]
            exact RM.i0
          · ((conv=>whnf);(repeat' ((first|refine Nd ?_|refine Hv fun _h=>?_);conv=>whnf)))
            have : nilCheckM bs l = 0 := by unfold nilCheckM leftM; rw [if_neg (by omega), ho, if_neg (by omega)]
            rw [this]
            exact RM.i0
theorem lcheck_nil_body : HasBody Tryz.prog 14 := hB Tryz.func14
end Go.Proofs
end

section
open Go Go.Am
namespace Go.Proofs
theorem bytesLess_lt : ∀ (x y : List UInt8), Op.bytesLess x y = decide (x < y)
  | [], [] => by simp [Op.bytesLess]
  | _ :: _, [] => by simp [Op.bytesLess]
  | [], _ :: _ => by simp [Op.bytesLess]
  | a :: x, b :: y => by
    rw [Op.bytesLess, bytesLess_lt x y, Bool.eq_iff_iff]
    simp [List.cons_lt_cons_iff]
theorem toListD (b : ByteArray) : b.toList = b.data.toList := by
  rw [ByteArray.toList_eq]
theorem strLt_eq (a b : ByteArray) : strLt a b = decide (a.data.toList < b.data.toList) := by
  unfold strLt
  rw [bytesLess_lt, toListD, toListD]
theorem bytes_ext {a b : ByteArray} (h : a.data.toList = b.data.toList) : a = b := by
  cases a; cases b
  simp only [ByteArray.mk.injEq]
  exact Array.toList_inj.1 h
theorem strLt_irrefl (a : ByteArray) : strLt a a = false := by
  rw [strLt_eq]
  simp [List.lt_irrefl]
theorem strLt_trans {a b c : ByteArray} (h : strLt a b = true) (k : strLt b c = true) : strLt a c = true := by
  rw [strLt_eq, decide_eq_true_eq] at *
  exact List.lt_trans h k
theorem strLt_tri {a b : ByteArray} (h : strLt a b = false) (k : a ≠ b) : strLt b a = true := by
  rw [strLt_eq] at *
  simp only [decide_eq_false_iff_not, decide_eq_true_eq] at *
  have h1 : b.data.toList ≤ a.data.toList := List.not_lt.1 h
  rcases Decidable.em (b.data.toList < a.data.toList) with c | c
  · exact c
  · exact absurd (bytes_ext (List.le_antisymm (List.not_lt.1 c) h1)) k
theorem strLt_asymm {a b : ByteArray} (h : strLt a b = true) : strLt b a = false := by
  cases c : strLt b a with
  | false => rfl
  | true =>
    have := strLt_trans h c
    rw [strLt_irrefl] at this
    cases this
/-- A list that ascends. -/
def asc (l : List ByteArray) : Prop := l.Pairwise fun a b => strLt a b = true
theorem asc_ext : ∀ {a b : List ByteArray}, asc a → asc b → (∀ x, x ∈ a ↔ x ∈ b) → a = b
  | [], [], _, _, _ => rfl
  | [], y :: b, _, _, h => by have := (h y).2 (by simp); simp at this
  | x :: a, [], _, _, h => by have := (h x).1 (by simp); simp at this
  | x :: a, y :: b, ha, hb, h => by
    simp only [asc, List.pairwise_cons] at ha hb
    have e : x = y := by
      rcases List.mem_cons.1 ((h x).1 (by simp)) with c | c
      · exact c
      · rcases List.mem_cons.1 ((h y).2 (by simp)) with d | d
        · exact d.symm
        · have h1 := hb.1 x c
          have h2 := ha.1 y d
          rw [strLt_asymm h1] at h2
          cases h2
    subst e
    congr 1
    refine asc_ext ha.2 hb.2 fun z => ?_
    have hx : ∀ {l : List ByteArray}, (∀ w ∈ l, strLt x w = true) → x ∉ l := fun hl hm => by
      have := hl x hm
      rw [strLt_irrefl] at this
      cases this
    constructor
    · intro hz
      rcases List.mem_cons.1 ((h z).1 (List.mem_cons_of_mem _ hz)) with c | c
      · subst c; exact absurd hz (hx ha.1)
      · exact c
    · intro hz
      rcases List.mem_cons.1 ((h z).2 (List.mem_cons_of_mem _ hz)) with c | c
      · subst c; exact absurd hz (hx hb.1)
      · exact c
/-- Where a text goes in an ascending list. -/
def scanM (l : List ByteArray) (v : ByteArray) : Nat → Option Nat
  | 0 => some 0
  | k + 1 => if strLt (l.getD k ByteArray.empty) v = true then some (k + 1) else if l.getD k ByteArray.empty = v then none else scanM l v k
def putM (l : List ByteArray) (v : ByteArray) : List ByteArray := match scanM l v l.length with
  | none => l
  | some k => l.take k ++ v :: l.drop k
theorem scanM_none {l : List ByteArray} {v : ByteArray} : ∀ k, k ≤ l.length → scanM l v k = none → v ∈ l
  | 0, _, h => by simp [scanM] at h
  | k + 1, hk, h => by
    simp only [scanM] at h
    split at h
    · cases h
    · split at h
      · rename_i e
        have : l.getD k ByteArray.empty = l[k] := by simp [List.getD, (by omega : k < l.length)]
        rw [this] at e
        subst e
        exact List.getElem_mem _
      · exact scanM_none k (by omega) h
theorem scanM_some {l : List ByteArray} {v : ByteArray} (h : asc l) : ∀ k n, k ≤ l.length → scanM l v k = some n → n ≤ k ∧ (∀ x ∈ l.take n, strLt x v = true) ∧ ∀ i, n ≤ i → i < k → strLt v (l.getD i ByteArray.empty) = true
  | 0, n, _, e => by
    simp only [scanM, Option.some.injEq] at e
    subst e
    exact ⟨Nat.le_refl _, by simp, fun i _ h => by omega⟩
  | k + 1, n, hk, e => by
    have hg : ∀ i, i < l.length → l.getD i ByteArray.empty = l.getD i default := fun i _ => rfl
    have ek : l.getD k ByteArray.empty = l[k] := by simp [List.getD, (by omega : k < l.length)]
    simp only [scanM] at e
    split at e
    · rename_i hlt
      cases e
      refine ⟨Nat.le_refl _, fun x hx => ?_, fun i h1 h2 => by omega⟩
      rw [ek] at hlt
      rw [List.take_succ_eq_append_getElem (by omega)] at hx
      rcases List.mem_append.1 hx with c | c
      · obtain ⟨j, hj, rfl⟩ := List.getElem_of_mem c
        rw [List.length_take] at hj
        rw [List.getElem_take]
        unfold asc at h
        rw [List.pairwise_iff_getElem] at h
        exact strLt_trans (h j k (by omega) (by omega) (by omega)) hlt
      · rw [List.mem_singleton] at c
        subst c
        exact hlt
    · rename_i hlt
      split at e
      · cases e
      · rename_i hne
        obtain ⟨h1, h2, h3⟩ := scanM_some h k n (by omega) e
        refine ⟨by omega, h2, fun i h4 h5 => ?_⟩
        by_cases c : i = k
        · subst c
          exact strLt_tri (by simpa using hlt) hne
        · exact h3 i h4 (by omega)
theorem putM_asc {l : List ByteArray} {v : ByteArray} (h : asc l) : asc (putM l v) ∧ ∀ x, x ∈ putM l v ↔ x ∈ l ∨ x = v := by
  unfold putM
  cases e : scanM l v l.length with
  | none =>
    have := scanM_none _ (Nat.le_refl _) e
    exact ⟨h, fun x => ⟨fun hx => .inl hx, fun hx => hx.elim id fun q => q ▸ this⟩⟩
  | some k =>
    obtain ⟨h1, h2, h3⟩ := scanM_some h _ _ (Nat.le_refl _) e
    have h4 : ∀ x ∈ l.drop k, strLt v x = true := by
      intro x hx
      obtain ⟨j, hj, rfl⟩ := List.getElem_of_mem hx
      rw [List.length_drop] at hj
      have := h3 (k + j) (by omega) (by omega)
      rw [List.getElem_drop]
      simpa [List.getD, (by omega : k + j < l.length)] using this
    refine ⟨?_, fun x => ?_⟩
    · unfold asc at h ⊢
      rw [List.pairwise_append, List.pairwise_cons]
      refine ⟨h.sublist (List.take_sublist k l), ⟨h4, h.sublist (List.drop_sublist k l)⟩, fun a ha b hb => ?_⟩
      rcases List.mem_cons.1 hb with c | c
      · subst c; exact h2 a ha
      · exact strLt_trans (h2 a ha) (h4 b c)
    · simp only [List.mem_append, List.mem_cons]
      have : x ∈ l ↔ x ∈ l.take k ∨ x ∈ l.drop k := by rw [← List.mem_append, List.take_append_drop]
      rw [this]
      constructor
      · rintro (q | q | q)
        · exact .inl (.inl q)
        · exact .inr q
        · exact .inl (.inr q)
      · rintro ((q | q) | q)
        · exact .inl q
        · exact .inr (.inr q)
        · exact .inr (.inl q)
def putAll (l : List ByteArray) : List ByteArray := l.foldl putM []
theorem putAll_snoc (l : List ByteArray) (v : ByteArray) : putAll (l ++ [v]) = putM (putAll l) v := by simp [putAll, List.foldl_append]
theorem foldl_put : ∀ (l acc : List ByteArray), asc acc → asc (l.foldl putM acc) ∧ ∀ x, x ∈ l.foldl putM acc ↔ x ∈ acc ∨ x ∈ l
  | [], acc, h => ⟨h, by simp⟩
  | v :: l, acc, h => by
    obtain ⟨h1, h2⟩ := foldl_put l (putM acc v) (putM_asc h).1
    refine ⟨h1, fun x => ?_⟩
    rw [List.foldl_cons, h2, (putM_asc h).2, List.mem_cons, or_assoc]
theorem putAll_asc (l : List ByteArray) : asc (putAll l) := (foldl_put l [] List.Pairwise.nil).1
theorem mem_putAll {l : List ByteArray} {x : ByteArray} : x ∈ putAll l ↔ x ∈ l := by
  have := (foldl_put l [] List.Pairwise.nil).2 x
  simpa [putAll] using this
theorem putAll_eq {a b : List ByteArray} (h : ∀ x, x ∈ a ↔ x ∈ b) : putAll a = putAll b :=
  asc_ext (putAll_asc a) (putAll_asc b) fun x => by rw [mem_putAll, mem_putAll, h]
theorem putM_len (l : List ByteArray) (v : ByteArray) : (putM l v).length ≤ l.length + 1 := by
  unfold putM
  split
  · omega
  · simp; omega
theorem putAll_len (l : List ByteArray) : (putAll l).length ≤ l.length := by
  have : ∀ (l acc : List ByteArray), (l.foldl putM acc).length ≤ acc.length + l.length := by
    intro l
    induction l with
    | nil => intro acc; simp
    | cons v l ih =>
      intro acc
      have := ih (putM acc v)
      have := putM_len acc v
      simp only [List.foldl_cons, List.length_cons]
      omega
  simpa [putAll] using this l []
end Go.Proofs
end
