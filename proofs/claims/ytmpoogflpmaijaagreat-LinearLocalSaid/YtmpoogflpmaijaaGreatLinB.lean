/- Part of the proofs of laws of this seat: contracts and plain lemmas; no condition is added to a statement. -/
import Derived.Test.YtmpoogflpmaijaaGreatLinA
set_option linter.unusedSimpArgs false
set_option linter.unusedVariables false
section
open Go Go.Am
namespace Go.Proofs
/-! ### orders -/
def stepOk (bs : List ByteArray) (x : Evt) : Bool := !x.ret || (decide (appE bs.length x.kind x.block x.data = x.err) && decide (appD bs x.kind x.block x.data = x.rdata))
def stepB (bs : List ByteArray) (x : Evt) : List ByteArray := appB bs x.kind x.block x.data
def stAt (ops : List Evt) (bs : List ByteArray) (order : List Int) : Nat → List ByteArray
  | 0 => bs
  | k + 1 => stepB (stAt ops bs order k) (getE ops (order.getD k default))
def remE (ops : List Evt) (p : List Int) : List Evt := (ops.filter canE).filter fun e => decide (e.serial ∉ p)
def allK (p : Nat → Bool) : Nat → Bool
  | 0 => true
  | k + 1 => allK p k && p k
theorem allK_iff (p : Nat → Bool) : ∀ n, allK p n = true ↔ ∀ i, i < n → p i = true
  | 0 => by simp [allK]
  | k + 1 => by
    rw [allK, Bool.and_eq_true, allK_iff p k]
    constructor
    · rintro ⟨h1, h2⟩ i hi
      by_cases c : i = k
      · subst c; exact h2
      · exact h1 i (by omega)
    · intro h
      exact ⟨fun i hi => h i (by omega), h k (by omega)⟩
theorem allK_false {p : Nat → Bool} {k n : Nat} (h : p k = false) (hk : k < n) : allK p n = false := by
  rw [← Bool.not_eq_true, allK_iff]
  intro h'
  rw [h' k hk] at h; cases h
def laterB (l : List Evt) (order : List Int) (s : Int) (k : Nat) : Bool := (order.drop k).any fun t => beforeM l t s
theorem getD_at {α : Type} [Inhabited α] {l : List α} {j : Nat} (h : j < l.length) : l.getD j default = l[j] := by simp [List.getD, h]
theorem laterB_true {l : List Evt} {order : List Int} {s : Int} {k j : Nat} (hj : j < (order.drop k).length) (h : beforeM l ((order.drop k).getD j default) s = true) : laterB l order s k = true := by
  unfold laterB
  rw [List.any_eq_true]
  exact ⟨_, List.getElem_mem hj, by rw [← getD_at hj]; exact h⟩
theorem laterB_false {l : List Evt} {order : List Int} {s : Int} {k : Nat} (h : ∀ j, j < (order.drop k).length → beforeM l ((order.drop k).getD j default) s = false) : laterB l order s k = false := by
  unfold laterB
  rw [← Bool.not_eq_true, List.any_eq_true]
  rintro ⟨x, hx, hb⟩
  obtain ⟨j, hj, rfl⟩ := List.getElem_of_mem hx
  have := h j hj
  rw [getD_at hj, hb] at this
  cases this
def goodP (l ops : List Evt) (bs : List ByteArray) (order : List Int) (k : Nat) : Bool :=
  hasE (remE ops (order.take k)) (order.getD k default) && !laterB l order (order.getD k default) (k + 1) && stepOk (stAt ops bs order k) (getE ops (order.getD k default))
def lcheckM (bs : List ByteArray) (l : List Evt) (order : List Int) : Int :=
  if sizesM bs l ≠ 0 then sizesM bs l else if allK (goodP l (operationsM l) bs order) order.length = true ∧ ((remE (operationsM l) order).filter mustE).length = 0 then 0 else 17
theorem appB_len (bs : List ByteArray) (k b : Int) (d : ByteArray) : (appB bs k b d).length = bs.length := by
  unfold appB
  (repeat' split) <;> simp
theorem stAt_len (ops : List Evt) (bs : List ByteArray) (order : List Int) : ∀ k, (stAt ops bs order k).length = bs.length
  | 0 => rfl
  | k + 1 => by rw [stAt, stepB, appB_len, stAt_len ops bs order k]
theorem getE_mem {es : List Evt} {n : Int} (h : hasE es n = true) : getE es n ∈ es ∧ (getE es n).serial = n := by
  unfold getE
  cases hf : es.find? fun e => decide (e.serial = n) with
  | none =>
    rw [List.find?_eq_none] at hf
    simp only [hasE, decide_eq_true_eq, List.mem_map] at h
    obtain ⟨e, h1, h2⟩ := h
    exact absurd (decide_eq_true h2) (hf e h1)
  | some e =>
    have h1 := List.mem_of_find?_eq_some hf
    have h2 := List.find?_some hf
    exact ⟨h1, of_decide_eq_true h2⟩
theorem serial_inj {es : List Evt} (hn : (es.map Evt.serial).Nodup) {a b : Evt} (ha : a ∈ es) (hb : b ∈ es) (h : a.serial = b.serial) : a = b := by
  obtain ⟨i, hi, rfl⟩ := List.getElem_of_mem ha
  obtain ⟨j, hj, rfl⟩ := List.getElem_of_mem hb
  have := (List.getElem?_inj (l := es.map Evt.serial) (by simpa using hi) hn (j := j)).1 (by simp [hi, hj, h])
  subst this; rfl
theorem getE_of {es : List Evt} (hn : (es.map Evt.serial).Nodup) {e : Evt} (he : e ∈ es) : getE es e.serial = e := by
  have h : hasE es e.serial = true := by simp only [hasE, decide_eq_true_eq]; exact List.mem_map_of_mem he
  obtain ⟨h1, h2⟩ := getE_mem h
  exact serial_inj hn h1 he h2
theorem hasE_iff {es : List Evt} {n : Int} : hasE es n = true ↔ ∃ e ∈ es, e.serial = n := by simp [hasE]
theorem mem_remE {ops : List Evt} {p : List Int} {e : Evt} : e ∈ remE ops p ↔ e ∈ ops ∧ canE e = true ∧ e.serial ∉ p := by
  simp only [remE, List.mem_filter, decide_eq_true_eq, and_assoc]
theorem getE_remE {ops : List Evt} (hn : (ops.map Evt.serial).Nodup) {p : List Int} {n : Int} (h : hasE (remE ops p) n = true) : getE (remE ops p) n = getE ops n := by
  obtain ⟨h1, h2⟩ := getE_mem h
  have := getE_of hn (mem_remE.1 h1).1
  rw [h2] at this
  exact this.symm
theorem getD_snoc_take {α : Type} [Inhabited α] {l : List α} {k : Nat} (hk : k < l.length) : l.take (k + 1) = l.take k ++ [l.getD k default] := by
  rw [List.take_succ_eq_append_getElem hk]
  simp [List.getD, hk]
theorem remE_succ {ops : List Evt} {order : List Int} {k : Nat} (hk : k < order.length) : remE ops (order.take (k + 1)) = (remE ops (order.take k)).filter fun e => decide (e.serial ≠ order.getD k default) := by
  rw [getD_snoc_take hk]
  unfold remE
  rw [List.filter_filter, List.filter_filter, List.filter_filter]
  refine List.filter_congr fun e _ => ?_
  simp only [List.mem_append, List.mem_singleton, not_or]
  by_cases c1 : e.serial ∈ order.take k <;> by_cases c2 : e.serial = order.getD k default <;> simp [c1, c2, -List.getD_eq_getElem?_getD]
theorem keyE_del {es : List Evt} {n : Int} : delK (keyE es) (.c (.i .i64 n)) = keyE (es.filter fun e => decide (e.serial ≠ n)) := by
  unfold delK keyE
  rw [List.filter_map]
  congr 1
  refine List.filter_congr fun e _ => ?_
  simp [Function.comp]
theorem getE_del {es : List Evt} {n x : Int} : getE (es.filter fun e => decide (e.serial ≠ n)) x = if x = n then default else getE es x := by
  by_cases c : x = n
  · subst c
    rw [if_pos rfl]
    refine getE_not ?_
    simp only [hasE, decide_eq_false_iff_not, List.mem_map, List.mem_filter, decide_eq_true_eq, not_exists, not_and, and_imp]
    exact fun e _ h1 h2 => h1 h2
  · rw [if_neg c]
    unfold getE
    rw [List.find?_filter]
    congr 2
    funext e
    by_cases c2 : e.serial = x
    · simp [c2, c]
    · simp [c2]
theorem WO.mapE_del {ρ : Nat → Nat} {n : Nat} {es : List Evt} {s : Int} {te : TI} (hz : te.zero = zEvt) :
    WO ρ n (.mp (.c (some .i64)) zEvt true (delK (keyE es) (.c (.i .i64 s))) (delV te (fun k (j : Nat) => Evt.cell (getE es (keyI k)) j) (.c (.i .i64 s)))) (mapE (es.filter fun e => decide (e.serial ≠ s))) :=
  WO.mp rfl rfl rfl keyE_del fun k j hk hj => by
    obtain ⟨m, rfl⟩ := key_i hk
    refine leF.of_eq ?_
    simp only [delV, Key.c.injEq, KC.i.injEq, true_and, keyI_i]
    rw [getE_del]
    by_cases c : m = s
    · rw [if_pos c, if_pos c]
      have : zeroL te = (default : Evt).cells := by unfold zeroL; rw [hz]; rfl
      rw [this, cells_lget]
    · rw [if_neg c, if_neg c]
theorem must_can (ops : List Evt) : (ops.filter canE).filter mustE = ops.filter mustE := by
  rw [List.filter_filter]
  refine List.filter_congr fun e _ => ?_
  unfold mustE canE
  cases e.ret <;> cases decide (e.err = 0) <;> rfl
theorem rem_must {ops : List Evt} (hn : (ops.map Evt.serial).Nodup) {p : List Int} {n : Int} (h : hasE (remE ops p) n = true) :
    (((remE ops p).filter fun e => decide (e.serial ≠ n)).filter mustE).length + (if (getE ops n).ret = true then 1 else 0) = ((remE ops p).filter mustE).length := by
  have hnr : ((remE ops p).map Evt.serial).Nodup := by
    refine List.Nodup.sublist ?_ hn
    exact ((List.filter_sublist.trans List.filter_sublist).map _)
  have hg := getE_remE hn h
  obtain ⟨h1, h2⟩ := getE_mem h
  have hcan : canE (getE ops n) = true := by rw [← hg]; exact (mem_remE.1 h1).2.1
  have hmr : mustE (getE ops n) = (getE ops n).ret := by
    unfold canE at hcan
    unfold mustE
    cases hr : (getE ops n).ret with
    | false => rfl
    | true => rw [hr] at hcan; simpa using hcan
  rw [hg] at h1 h2
  generalize getE ops n = x at h1 h2 hmr
  generalize remE ops p = es at h1 hnr
  induction es with
  | nil => simp at h1
  | cons e r ih =>
    simp only [List.map_cons, List.nodup_cons] at hnr
    rcases List.mem_cons.1 h1 with rfl | h1'
    · have hr : r.filter (fun e => decide (e.serial ≠ n)) = r := by
        refine List.filter_eq_self.2 fun a ha => ?_
        rw [decide_eq_true_eq]
        exact fun q => hnr.1 (List.mem_map.2 ⟨a, ha, by rw [q, h2]⟩)
      rw [List.filter_cons_of_neg (by simp [h2]), hr]
      cases hx : x.ret with
      | true => rw [List.filter_cons_of_pos (by rw [hmr, hx])]; simp
      | false => rw [List.filter_cons_of_neg (by rw [hmr, hx]; simp)]; simp
    · have hne : e.serial ≠ n := fun q => hnr.1 (List.mem_map.2 ⟨x, h1', by rw [h2, q]⟩)
      rw [List.filter_cons_of_pos (by simpa using hne)]
      have := ih h1' hnr.2
      by_cases cm : mustE e = true
      · rw [List.filter_cons_of_pos cm, List.filter_cons_of_pos cm]
        simp only [List.length_cons]; omega
      · rw [List.filter_cons_of_neg cm, List.filter_cons_of_neg cm]; exact this
end Go.Proofs
end

section
open Go Go.Am
namespace Go.Proofs
def hasI (l : List Int) (n : Int) : Bool := decide (n ∈ l)
def mustIn (ops : List Evt) (order : List Int) (i : Nat) : Bool := !mustE (ops.getD i default) || hasI order (ops.getD i default).serial
def refGood (l ops : List Evt) (bs : List ByteArray) (order : List Int) (k : Nat) : Bool :=
  hasE ops (order.getD k default) && !hasI (order.take k) (order.getD k default) && canE (getE ops (order.getD k default)) && allK (fun j => !beforeM l (order.getD k default) (order.getD j default)) k && stepOk (stAt ops bs order k) (getE ops (order.getD k default))
def rcheckM (bs : List ByteArray) (l : List Evt) (order : List Int) : Int :=
  if sizesM bs l ≠ 0 then sizesM bs l else if allK (mustIn (operationsM l) order) (operationsM l).length = true ∧ allK (refGood l (operationsM l) bs order) order.length = true then 0 else 17
theorem rem_has {ops : List Evt} (hn : (ops.map Evt.serial).Nodup) {p : List Int} {s : Int} : hasE (remE ops p) s = (hasE ops s && !hasI p s && canE (getE ops s)) := by
  rw [Bool.eq_iff_iff, Bool.and_eq_true, Bool.and_eq_true]
  constructor
  · intro h
    have hg := getE_remE hn h
    obtain ⟨h1, h2⟩ := getE_mem h
    obtain ⟨m1, m2, m3⟩ := mem_remE.1 h1
    rw [hg] at m1 m2 m3 h2
    exact ⟨⟨hasE_iff.2 ⟨_, m1, h2⟩, by rw [h2] at m3; simp [hasI, m3]⟩, m2⟩
  · rintro ⟨⟨h1, h2⟩, h3⟩
    obtain ⟨m1, m2⟩ := getE_mem h1
    refine hasE_iff.2 ⟨getE ops s, mem_remE.2 ⟨m1, h3, ?_⟩, m2⟩
    rw [m2]; simpa [hasI] using h2
theorem check_eq (bs : List ByteArray) (l : List Evt) (order : List Int) : lcheckM bs l order = rcheckM bs l order := by
  unfold lcheckM rcheckM
  by_cases h0 : sizesM bs l ≠ 0
  · rw [if_pos h0, if_pos h0]
  rw [if_neg h0, if_neg h0]
  have hn := operations_nodup l
  generalize operationsM l = ops at hn
  have key : (allK (goodP l ops bs order) order.length = true ∧ ((remE ops order).filter mustE).length = 0) ↔ (allK (mustIn ops order) ops.length = true ∧ allK (refGood l ops bs order) order.length = true) := by
    have e1 : ((remE ops order).filter mustE).length = 0 ↔ allK (mustIn ops order) ops.length = true := by
      rw [allK_iff, List.length_eq_zero_iff, List.filter_eq_nil_iff]
      constructor
      · intro h i hi
        unfold mustIn
        rw [getD_at hi]
        cases hm : mustE ops[i] with
        | false => rfl
        | true =>
          by_cases c : ops[i].serial ∈ order
          · simp [hasI, c]
          · have hcan : canE ops[i] = true := by
              unfold mustE at hm
              unfold canE
              simp only [Bool.and_eq_true] at hm
              rw [hm.1, hm.2]; rfl
            exact absurd hm (h _ (mem_remE.2 ⟨List.getElem_mem hi, hcan, c⟩))
      · intro h e he hm
        obtain ⟨m1, m2, m3⟩ := mem_remE.1 he
        obtain ⟨i, hi, rfl⟩ := List.getElem_of_mem m1
        have := h i hi
        unfold mustIn at this
        rw [getD_at hi, hm] at this
        simp [hasI, m3] at this
    have e2 : allK (goodP l ops bs order) order.length = true ↔ allK (refGood l ops bs order) order.length = true := by
      rw [allK_iff, allK_iff]
      constructor
      · intro h k hk
        have hk1 := h k hk
        unfold goodP at hk1
        rw [rem_has hn] at hk1
        unfold refGood
        simp only [Bool.and_eq_true] at hk1 ⊢
        refine ⟨⟨hk1.1.1, ?_⟩, hk1.2⟩
        rw [allK_iff]
        intro j hj
        have hj1 := h j (by omega)
        unfold goodP at hj1
        simp only [Bool.and_eq_true, Bool.not_eq_true'] at hj1
        cases hb : beforeM l (order.getD k default) (order.getD j default) with
        | false => rfl
        | true =>
          have hd : k - (j + 1) < (order.drop (j + 1)).length := by simp; omega
          have : laterB l order (order.getD j default) (j + 1) = true := laterB_true (j := k - (j + 1)) hd (by
            have e : (order.drop (j + 1)).getD (k - (j + 1)) default = order.getD k default := by
              simp only [List.getD, List.getElem?_drop]
              rw [show j + 1 + (k - (j + 1)) = k by omega]
            rw [e]; exact hb)
          rw [hj1.1.2] at this; cases this
      · intro h k hk
        have hk1 := h k hk
        unfold refGood at hk1
        unfold goodP
        rw [rem_has hn]
        simp only [Bool.and_eq_true, Bool.not_eq_true'] at hk1 ⊢
        refine ⟨⟨hk1.1.1, ?_⟩, hk1.2⟩
        refine laterB_false fun j hj => ?_
        have hd : (order.drop (k + 1)).getD j default = order.getD (k + 1 + j) default := by
          simp only [List.getD, List.getElem?_drop]
        rw [hd]
        have hj' : k + 1 + j < order.length := by simp at hj; omega
        have hj1 := h (k + 1 + j) hj'
        unfold refGood at hj1
        simp only [Bool.and_eq_true] at hj1
        have := (allK_iff _ _).1 hj1.1.2 k (by omega)
        simpa using this
    rw [e1, e2]
    exact And.comm
  by_cases c : allK (goodP l ops bs order) order.length = true ∧ ((remE ops order).filter mustE).length = 0
  · rw [if_pos c, if_pos (key.1 c)]
  · rw [if_neg c, if_neg (fun q => c (key.2 q))]
end Go.Proofs
end

section
open Go Go.Am
namespace Go.Proofs
set_option maxRecDepth 20000
set_option maxHeartbeats 1000000
theorem lcheck_spec (bs : List ByteArray) (l : List Evt) (order : List Int) (hl : l.length ≤ 10000000) (hb : bs.length ≤ 1000000) (ho : order.length ≤ 1000000) : PSpec Tryz.prog 14 [.c (strsC bs), .c (evC l), .c (intsC order)] (.c (.int .i64 (lcheckM bs l order))) := by
  refine PSpec.rm ?_
  refine ov hΓ Tryz.func14 100 0 [.tmp 6] Tryz.ntmps14 Tryz.results14 ?_
  ((conv=>whnf);(repeat' ((first|refine Nd ?_|refine Hv fun _h=>?_);conv=>whnf)))
  refine CallN.pureA lbase_body (lbase_spec bs l ) ?_
  ((conv=>whnf);(repeat' ((first|refine Nd ?_|refine Hv fun _h=>?_);conv=>whnf)))
  refine Br.of (fun h0=>?_) (fun h0=>?_)<;>(try simp only [Int.toNat_natCast] at h0)<;>(conv=>whnf)
  · ((conv=>whnf);(repeat' ((first|refine Nd ?_|refine Hv fun _h=>?_);conv=>whnf)))
    have : lcheckM bs l order = sizesM bs l := by unfold lcheckM; rw [if_pos h0]
    rw [this]
    exact RM.i0
  · ((conv=>whnf);(repeat' ((first|refine Nd ?_|refine Hv fun _h=>?_);conv=>whnf)))
    refine CallN.autoQ [] operations_body (operations_spec l hl) ?_; conv=>whnf
    ((conv=>whnf);(repeat' ((first|refine Nd ?_|refine Hv fun _h=>?_);conv=>whnf)))
    have hlen := operations_len l
    have hbl : (begunM l).length ≤ l.length := begunTo_len l l.length
    rw [← hlen] at hbl ⊢
    have hnd := operations_nodup l
    generalize hops : operationsM l = ops at *
    refine Lp.mkK hΓ (ι := Nat) [0, 1, 2, 8, 30, 31] (fun i => [(32, .c (.int .i64 i)), (9, .c (.int .i64 ((ops.take i).filter mustE).length))]) (fun i => [mapE ((ops.take i).filter canE), .arr 52 8 ops.length (evG ops)]) (fun i => i ≤ ops.length) (fun i => ops.length - i) 0 (Nat.zero_le _) ?_ ?_
    · refine Mv.mkW ?_ ?_ leN <;> (first|exact wb0|refine wb1 ?_|refine wb2 ?_ ?_|refine wb3 ?_ ?_ ?_|refine wb4 ?_ ?_ ?_ ?_)
      · intro x j _ hj
        refine leF.of_eq ?_
        have e : getE ((ops.take 0).filter canE) (keyI x) = default := getE_not (by simp [hasE])
        rw [e]
        match j, hj with
        | 0, _ => rfl
        | 1, _ => rfl
        | 2, _ => rfl
        | 3, _ => rfl
        | 4, _ => rfl
        | 5, _ => rfl
        | 6, _ => rfl
        | 7, _ => rfl
      all_goals (intro i _ j _; exact WC.eq (ev_re _ _ _) (evCell_imm _ _))
    · intro k hk
      ((conv=>whnf);(repeat' ((first|refine Nd ?_|refine Hv fun _h=>?_);conv=>whnf)))
      refine Br.of (fun h1=>?_) (fun h1=>?_)<;>(try simp only [Int.toNat_natCast] at h1)<;>(conv=>whnf)
      · ((conv=>whnf);(repeat' ((first|refine Nd ?_|refine Hv fun _h=>?_);conv=>whnf)))
        have e0 : (k : Int).toNat = k := by simp
        rw [e0]
        refine Frc.mk (.a (ops.getD k default).cells) ?_ ?_
        · simp [gets, evG, rowG, Evt.cell, Evt.cells]
        ((conv=>whnf);(repeat' ((first|refine Nd ?_|refine Hv fun _h=>?_);conv=>whnf)))
        refine CallN.pureA counts_body (counts_spec (ops.getD k default) ) ?_
        ((conv=>whnf);(repeat' ((first|refine Nd ?_|refine Hv fun _h=>?_);conv=>whnf)))
        have hk' : k < ops.length := by omega
        have e1 := take_filter_succ (p := canE) hk'
        have e2 := take_filter_succ (p := mustE) hk'
        have hml : ((ops.take k).filter mustE).length ≤ k := Nat.le_trans (List.length_filter_le _ _) (by rw [List.length_take]; omega)
        cases hc : canE (ops.getD k default) with
        | true =>
          rw [if_pos hc] at e1
          have hn := hasE_take (p := canE) hnd hk'
          refine Br.yes hc ?_
          ((conv=>whnf);(repeat' ((first|refine Nd ?_|refine Hv fun _h=>?_);conv=>whnf)))
          cases hm : mustE (ops.getD k default) with
          | true =>
            refine Br.yes hm ?_
            ((conv=>whnf);(repeat' ((first|refine Nd ?_|refine Hv fun _h=>?_);conv=>whnf)))
            rw [if_pos hm] at e2
            refine ⟨k + 1, by omega, by omega, ?_⟩
            rw [e1, e2]
            refine Mv.mkW ?_ ?_ leN <;> (first|exact wb0|refine wb1 ?_|refine wb2 ?_ ?_|refine wb3 ?_ ?_ ?_|refine wb4 ?_ ?_ ?_ ?_)
            all_goals first
              | exact WO.mapE_new hn (cells_lget _)
              | exact WO.mpS
              | (intro i _ j _; exact WC.imm (evCell_imm _ _))
              | (rw [List.length_append]; simp; rw [wrap_id _ (by omega) (by omega)])
          | false =>
            refine Br.no hm ?_
            ((conv=>whnf);(repeat' ((first|refine Nd ?_|refine Hv fun _h=>?_);conv=>whnf)))
            rw [if_neg (by rw [hm]; simp)] at e2
            refine ⟨k + 1, by omega, by omega, ?_⟩
            rw [e1, e2]
            refine Mv.mkW ?_ ?_ leN <;> (first|exact wb0|refine wb1 ?_|refine wb2 ?_ ?_|refine wb3 ?_ ?_ ?_|refine wb4 ?_ ?_ ?_ ?_)
            all_goals first
              | exact WO.mapE_new hn (cells_lget _)
              | exact WO.mpS
              | (intro i _ j _; exact WC.imm (evCell_imm _ _))
              | (rw [List.length_append]; simp; rw [wrap_id _ (by omega) (by omega)])
        | false =>
          rw [if_neg (by rw [hc]; simp)] at e1
          refine Br.no hc ?_
          ((conv=>whnf);(repeat' ((first|refine Nd ?_|refine Hv fun _h=>?_);conv=>whnf)))
          cases hm : mustE (ops.getD k default) with
          | true =>
            refine Br.yes hm ?_
            ((conv=>whnf);(repeat' ((first|refine Nd ?_|refine Hv fun _h=>?_);conv=>whnf)))
            rw [if_pos hm] at e2
            refine ⟨k + 1, by omega, by omega, ?_⟩
            rw [e1, e2]
            refine Mv.mkW ?_ ?_ leN <;> (first|exact wb0|refine wb1 ?_|refine wb2 ?_ ?_|refine wb3 ?_ ?_ ?_|refine wb4 ?_ ?_ ?_ ?_)
            all_goals first
              | exact WO.mapE_new hn (cells_lget _)
              | exact WO.mpS
              | (intro i _ j _; exact WC.imm (evCell_imm _ _))
              | (rw [List.length_append]; simp; rw [wrap_id _ (by omega) (by omega)])
          | false =>
            refine Br.no hm ?_
            ((conv=>whnf);(repeat' ((first|refine Nd ?_|refine Hv fun _h=>?_);conv=>whnf)))
            rw [if_neg (by rw [hm]; simp)] at e2
            refine ⟨k + 1, by omega, by omega, ?_⟩
            rw [e1, e2]
            refine Mv.mkW ?_ ?_ leN <;> (first|exact wb0|refine wb1 ?_|refine wb2 ?_ ?_|refine wb3 ?_ ?_ ?_|refine wb4 ?_ ?_ ?_ ?_)
            all_goals first
              | exact WO.mapE_new hn (cells_lget _)
              | exact WO.mpS
              | (intro i _ j _; exact WC.imm (evCell_imm _ _))
              | (rw [List.length_append]; simp; rw [wrap_id _ (by omega) (by omega)])
      · ((conv=>whnf);(repeat' ((first|refine Nd ?_|refine Hv fun _h=>?_);conv=>whnf)))
        have : k = ops.length := by omega
        subst this
        rw [List.take_length]
        have hno : ∀ i, i < order.length → goodP l ops bs order i = false → lcheckM bs l order = 17 := fun i hi hg => by
          unfold lcheckM
          rw [if_neg (by omega), hops, if_neg (fun q => by rw [allK_false hg hi] at q; cases q.1)]
        refine Lp.mkK hΓ (ι := Nat) [1, 2, 8, 51, 52] (fun i => [(53, .c (.int .i64 i)), (9, .c (.int .i64 ((remE ops (order.take i)).filter mustE).length)), (14, .c (strsC (stAt ops bs order i)))]) (fun i => [mapE (remE ops (order.take i))]) (fun i => i ≤ order.length ∧ allK (goodP l ops bs order) i = true) (fun i => order.length - i) 0 ⟨Nat.zero_le _, rfl⟩ ?_ ?_
        · rw [show remE ops (order.take 0) = ops.filter canE by simp [remE], must_can]
          exact Mv.k0
        · rintro k ⟨hk, hgood⟩
          ((conv=>whnf);(repeat' ((first|refine Nd ?_|refine Hv fun _h=>?_);conv=>whnf)))
          refine Br.of (fun h5=>?_) (fun h5=>?_)<;>(try simp only [Int.toNat_natCast] at h5)<;>(conv=>whnf)
          · ((conv=>whnf);(repeat' ((first|refine Nd ?_|refine Hv fun _h=>?_);conv=>whnf)))
            have e0 : (k : Int).toNat = k := by simp
            have hk' : k < order.length := by omega
            rw [e0, memK_E]
            have hes := remE_succ (ops := ops) hk'
            have hlen := stAt_len ops bs order k
            have hgk : goodP l ops bs order k = (hasE (remE ops (order.take k)) (order.getD k default) && !laterB l order (order.getD k default) (k + 1) && stepOk (stAt ops bs order k) (getE ops (order.getD k default))) := rfl
            have hml : ((remE ops (order.take k)).filter mustE).length ≤ ops.length := Nat.le_trans (List.length_filter_le _ _) (Nat.le_trans (List.length_filter_le _ _) (List.length_filter_le _ _))
            generalize hs : order.getD k default = s at *
            cases hh : hasE (remE ops (order.take k)) s with
            | false =>
              refine Br.yes rfl ?_
              ((conv=>whnf);(repeat' ((first|refine Nd ?_|refine Hv fun _h=>?_);conv=>whnf)))
              rw [hno k hk' (by rw [hgk, hh]; rfl)]
              exact RM.i0
            | true =>
              have hrm := rem_must hnd hh
              have hge := getE_remE hnd hh
              refine Br.no rfl ?_
              ((conv=>whnf);(repeat' ((first|refine Nd ?_|refine Hv fun _h=>?_);conv=>whnf)))
              have w1 := wrap_id (↑k + 1) (by omega) (by omega)
              rw [w1]
              ((conv=>whnf);(repeat' ((first|refine Nd ?_|refine Hv fun _h=>?_);conv=>whnf)))
              have hge' : getE (remE ops (order.take k)) (keyI (Key.c (KC.i IntKind.i64 s))) = getE ops s := hge
              rw [hge']
              generalize hx : getE ops s = x at *
              have hdl : (order.drop (k + 1)).length = order.length - (k + 1) := by simp
              refine Lp.mkK hΓ (ι := Nat) [1, 2, 8, 9, 14, 16, 17, 51, 52, 53] (fun j => [(73, .c (.int .i64 j)), (71, .c (intsC (order.drop (k + 1)))), (72, .c (.int .i64 (order.drop (k + 1)).length))]) (fun _ => [mapE (remE ops (order.take (k + 1))), .vr x.cells]) (fun j => j ≤ (order.drop (k + 1)).length ∧ ∀ i, i < j → beforeM l ((order.drop (k + 1)).getD i default) s = false) (fun j => (order.drop (k + 1)).length - j) 0 ⟨Nat.zero_le _, fun j hj => absurd hj (Nat.not_lt_zero _)⟩ ?_ ?_
              · rw [hes]
                have e2 : ((k : Int) + 1).toNat = k + 1 := by omega
                rw [e2]
                refine Mv.k2 ?_ ?_
                · exact WO.mapE_del rfl
                · refine WC.isl (by rw [hdl]) (fun i hi j hj => ?_) (fun q => q)
                  simp [intsG, rowG, intC, List.getD, List.getElem?_drop]
              · rintro j ⟨hj, hbf⟩
                ((conv=>whnf);(repeat' ((first|refine Nd ?_|refine Hv fun _h=>?_);conv=>whnf)))
                refine Br.of (fun h6=>?_) (fun h6=>?_)<;>(try simp only [Int.toNat_natCast] at h6)<;>(conv=>whnf)
                · ((conv=>whnf);(repeat' ((first|refine Nd ?_|refine Hv fun _h=>?_);conv=>whnf)))
                  have e1 : (j : Int).toNat = j := by simp
                  rw [e1]
                  refine CallN.pureA before_body (before_spec l ((order.drop (k + 1)).getD j default) s ) ?_
                  ((conv=>whnf);(repeat' ((first|refine Nd ?_|refine Hv fun _h=>?_);conv=>whnf)))
                  cases hb2 : beforeM l ((order.drop (k + 1)).getD j default) s with
                  | true =>
                    refine Br.yes rfl ?_
                    ((conv=>whnf);(repeat' ((first|refine Nd ?_|refine Hv fun _h=>?_);conv=>whnf)))
                    rw [hno k hk' (by rw [hgk, laterB_true (by omega) hb2]; simp)]
                    exact RM.i0
                  | false =>
                    refine Br.no rfl ?_
                    ((conv=>whnf);(repeat' ((first|refine Nd ?_|refine Hv fun _h=>?_);conv=>whnf)))
                    refine ⟨j + 1, ⟨by omega, fun i hi => ?_⟩, by omega, ?_⟩
                    · by_cases c : i = j
                      · subst c; exact hb2
                      · exact hbf i (by omega)
                    exact Mv.k0
                · ((conv=>whnf);(repeat' ((first|refine Nd ?_|refine Hv fun _h=>?_);conv=>whnf)))
                  have hjj : j = (order.drop (k + 1)).length := by omega
                  subst hjj
                  have hlb := laterB_false hbf
                  refine CallN.pureA apply_body (apply_spec (stAt ops bs order k) x.kind x.block x.data (by omega) ) ?_
                  ((conv=>whnf);(repeat' ((first|refine Nd ?_|refine Hv fun _h=>?_);conv=>whnf)))
                  have hst : stAt ops bs order (k + 1) = appB (stAt ops bs order k) x.kind x.block x.data := by
                    rw [stAt, hs, hx]; rfl
                  have hso : stepOk (stAt ops bs order k) x = (!x.ret || (decide (appE (stAt ops bs order k).length x.kind x.block x.data = x.err) && decide (appD (stAt ops bs order k) x.kind x.block x.data = x.rdata))) := rfl
                  refine Br.of (fun h7=>?_) (fun h7=>?_)<;>(try simp only [Int.toNat_natCast] at h7)<;>(conv=>whnf)
                  · ((conv=>whnf);(repeat' ((first|refine Nd ?_|refine Hv fun _h=>?_);conv=>whnf)))
                    have hl1 : ((remE ops (order.take (k + 1))).filter mustE).length + 1 = ((remE ops (order.take k)).filter mustE).length := by
                      rw [hes, ← hrm, if_pos h7]
                    have w2 := wrap_id (↑((remE ops (order.take k)).filter mustE).length - 1) (by omega) (by omega)
                    cases hc : (decide (appE (stAt ops bs order k).length x.kind x.block x.data = x.err) && decide (appD (stAt ops bs order k) x.kind x.block x.data = x.rdata)) with
                    | false =>
                      refine Br.yes (by rw [Bool.and_true, hc]; rfl) ?_
                      ((conv=>whnf);(repeat' ((first|refine Nd ?_|refine Hv fun _h=>?_);conv=>whnf)))
                      rw [hno k hk' (by rw [hgk, hso, hc, h7]; simp)]
                      exact RM.i0
                    | true =>
                      refine Br.no (by rw [Bool.and_true, hc]; rfl) ?_
                      ((conv=>whnf);(repeat' ((first|refine Nd ?_|refine Hv fun _h=>?_);conv=>whnf)))
                      refine ⟨k + 1, ⟨by omega, ?_⟩, by omega, ?_⟩
                      · rw [allK, hgood, hgk, hh, hlb, hso, hc]; simp
                      · rw [hst, show (((remE ops (order.take (k + 1))).filter mustE).length : Int) = IntKind.i64.wrap (((remE ops (order.take k)).filter mustE).length - 1) by rw [w2]; omega]
                        exact Mv.k0
                  · ((conv=>whnf);(repeat' ((first|refine Nd ?_|refine Hv fun _h=>?_);conv=>whnf)))
                    have hl1 : ((remE ops (order.take (k + 1))).filter mustE).length = ((remE ops (order.take k)).filter mustE).length := by
                      rw [hes, ← hrm, if_neg (by rw [h7]; simp)]; rfl
                    refine ⟨k + 1, ⟨by omega, ?_⟩, by omega, ?_⟩
                    · rw [allK, hgood, hgk, hh, hlb, hso, h7]; rfl
                    · rw [hst, hl1]
                      exact Mv.k0
          · ((conv=>whnf);(repeat' ((first|refine Nd ?_|refine Hv fun _h=>?_);conv=>whnf)))
            have hkk : k = order.length := by omega
            subst hkk
            rw [List.take_length]
            refine Br.of (fun h5=>?_) (fun h5=>?_)<;>(try simp only [Int.toNat_natCast] at h5)<;>(conv=>whnf)
            · ((conv=>whnf);(repeat' ((first|refine Nd ?_|refine Hv fun _h=>?_);conv=>whnf)))
              have : lcheckM bs l order = 17 := by
                unfold lcheckM
                rw [if_neg (by omega), hops, if_neg (by omega)]
              rw [this]
              exact RM.i0
            · ((conv=>whnf);(repeat' ((first|refine Nd ?_|refine Hv fun _h=>?_);conv=>whnf)))
              have : lcheckM bs l order = 0 := by
                unfold lcheckM
                rw [if_neg (by omega), hops, if_pos ⟨hgood, by omega⟩]
              rw [this]
              exact RM.i0
theorem lcheck_body : HasBody Tryz.prog 14 := hB Tryz.func14
end Go.Proofs
end

section
open Go Go.Am
namespace Go.Proofs
set_option maxRecDepth 20000
set_option maxHeartbeats 2000000
theorem has_spec (l : List Int) (n : Int) : PSpec Tryz.prog 39 [.c (intsC l), .c (.int .i64 n)] (.c (.bool (hasI l n))) := by
  refine PSpec.rm ?_
  refine ov hΓ Tryz.func39 18 0 [.tmp 4] Tryz.ntmps39 Tryz.results39 ?_
  ((conv=>whnf);(repeat' ((first|refine Nd ?_|refine Hv fun _h=>?_);conv=>whnf)))
  refine Lp.mkK hΓ (ι := Nat) [0, 1] (fun i => [(5, .c (.int .i64 i))]) (fun i => []) (fun i => i ≤ l.length ∧ ∀ j, j < i → l.getD j default ≠ n) (fun i => l.length - i) 0 ⟨Nat.zero_le _, fun j hj => absurd hj (Nat.not_lt_zero _)⟩ ?_ ?_
  · exact Mv.k0
  · intro k ⟨hk, h0⟩
    ((conv=>whnf);(repeat' ((first|refine Nd ?_|refine Hv fun _h=>?_);conv=>whnf)))
    refine Br.of (fun h1=>?_) (fun h1=>?_)<;>(try simp only [Int.toNat_natCast] at h1)<;>(conv=>whnf)
    · ((conv=>whnf);(repeat' ((first|refine Nd ?_|refine Hv fun _h=>?_);conv=>whnf)))
      have e0 : (k : Int).toNat = k := by simp
      rw [e0]
      have hk' : k < l.length := by omega
      refine Br.of (fun h2=>?_) (fun h2=>?_)<;>(try simp only [Int.toNat_natCast] at h2)<;>(conv=>whnf)
      · ((conv=>whnf);(repeat' ((first|refine Nd ?_|refine Hv fun _h=>?_);conv=>whnf)))
        have : hasI l n = true := by
          unfold hasI
          have : l[k] = n := by rw [← getD_at hk']; exact h2
          exact decide_eq_true (this ▸ List.getElem_mem hk')
        rw [this]
        exact RM.i0
      · ((conv=>whnf);(repeat' ((first|refine Nd ?_|refine Hv fun _h=>?_);conv=>whnf)))
        refine ⟨k + 1, ⟨by omega, fun j hj => ?_⟩, by omega, ?_⟩
        · by_cases c : j = k
          · subst c; exact h2
          · exact h0 j (by omega)
        exact Mv.k0
    · ((conv=>whnf);(repeat' ((first|refine Nd ?_|refine Hv fun _h=>?_);conv=>whnf)))
      have : hasI l n = false := by
        unfold hasI
        refine decide_eq_false fun hm => ?_
        obtain ⟨j, hj, e⟩ := List.getElem_of_mem hm
        exact h0 j (by omega) (by rw [getD_at hj]; exact e)
      rw [this]
      exact RM.i0
theorem has_body : HasBody Tryz.prog 39 := hB Tryz.func39
theorem operation_spec (ops : List Evt) (n : Int) : PSpec Tryz.prog 40 [.c (evC ops), .c (.int .i64 n)] (.t [.inr (getE ops n).cells, .inl (.bool (hasE ops n))]) := by
  refine PSpec.rm ?_
  refine ov hΓ Tryz.func40 25 0 [.cell 4 52, .tmp 5] Tryz.ntmps40 Tryz.results40 ?_
  ((conv=>whnf);(repeat' ((first|refine Nd ?_|refine Hv fun _h=>?_);conv=>whnf)))
  refine Lp.mkK hΓ (ι := Nat) [0, 1, 4] (fun i => [(6, .c (.int .i64 i))]) (fun i => [.vr (default : Evt).cells]) (fun i => i ≤ ops.length ∧ ∀ j, j < i → (ops.getD j default).serial ≠ n) (fun i => ops.length - i) 0 ⟨Nat.zero_le _, fun j hj => absurd hj (Nat.not_lt_zero _)⟩ ?_ ?_
  · exact Mv.k0
  · intro k ⟨hk, h0⟩
    ((conv=>whnf);(repeat' ((first|refine Nd ?_|refine Hv fun _h=>?_);conv=>whnf)))
    refine Br.of (fun h1=>?_) (fun h1=>?_)<;>(try simp only [Int.toNat_natCast] at h1)<;>(conv=>whnf)
    · ((conv=>whnf);(repeat' ((first|refine Nd ?_|refine Hv fun _h=>?_);conv=>whnf)))
      have e0 : (k : Int).toNat = k := by simp
      rw [e0]
      have hk' : k < ops.length := by omega
      refine Br.of (fun h2=>?_) (fun h2=>?_)<;>(try simp only [Int.toNat_natCast] at h2)<;>(conv=>whnf)
      · ((conv=>whnf);(repeat' ((first|refine Nd ?_|refine Hv fun _h=>?_);conv=>whnf)))
        have hh : hasE ops n = true := hasE_iff.2 ⟨ops[k], List.getElem_mem hk', by rw [← getD_at hk']; exact h2⟩
        have hg : getE ops n = ops.getD k default := by
          unfold getE
          rw [List.find?_eq_some_iff_getElem.2 ⟨by rw [getD_at hk'] at h2 ⊢; exact decide_eq_true h2, k, hk', (getD_at hk').symm, fun j hj => by
            have := h0 j hj
            rw [getD_at (by omega)] at this
            simpa using this⟩]
          rfl
        rw [hh, hg, e0]
        exact RM.i0
      · ((conv=>whnf);(repeat' ((first|refine Nd ?_|refine Hv fun _h=>?_);conv=>whnf)))
        refine ⟨k + 1, ⟨by omega, fun j hj => ?_⟩, by omega, ?_⟩
        · by_cases c : j = k
          · subst c; exact h2
          · exact h0 j (by omega)
        exact Mv.k0
    · ((conv=>whnf);(repeat' ((first|refine Nd ?_|refine Hv fun _h=>?_);conv=>whnf)))
      have hh : hasE ops n = false := by
        rw [← Bool.not_eq_true, hasE_iff]
        rintro ⟨e, he, hs⟩
        obtain ⟨j, hj, rfl⟩ := List.getElem_of_mem he
        exact h0 j (by omega) (by rw [getD_at hj]; exact hs)
      rw [hh, getE_not hh]
      exact RM.i0
theorem operation_body : HasBody Tryz.prog 40 := hB Tryz.func40
theorem WC.intsT {ρ : Nat → Nat} {n : Nat} {l : List Int} {k : Nat} {t : Bool} (h : k ≤ l.length) : WC ρ n (.isl 1 k (intsG .i64 l) t) (intsC (l.take k)) := by
  refine WC.isl (by rw [List.length_take]; omega) (fun i hi j hj => ?_) (fun q => by cases q)
  simp [intsG, rowG, intC, List.getD, List.getElem?_take, hi]
theorem rcheck_spec (bs : List ByteArray) (l : List Evt) (order : List Int) (hl : l.length ≤ 10000000) (hb : bs.length ≤ 1000000) (ho : order.length ≤ 1000000) : PSpec Tryz.prog 12 [.c (strsC bs), .c (evC l), .c (intsC order)] (.c (.int .i64 (rcheckM bs l order))) := by
  refine PSpec.rm ?_
  refine ov hΓ Tryz.func12 122 0 [.tmp 6] Tryz.ntmps12 Tryz.results12 ?_
  ((conv=>whnf);(repeat' ((first|refine Nd ?_|refine Hv fun _h=>?_);conv=>whnf)))
  refine CallN.pureA sizes_body (sizes_spec bs l ) ?_
  ((conv=>whnf);(repeat' ((first|refine Nd ?_|refine Hv fun _h=>?_);conv=>whnf)))
  refine Br.of (fun h0=>?_) (fun h0=>?_)<;>(try simp only [Int.toNat_natCast] at h0)<;>(conv=>whnf)
  · ((conv=>whnf);(repeat' ((first|refine Nd ?_|refine Hv fun _h=>?_);conv=>whnf)))
    have : rcheckM bs l order = sizesM bs l := by unfold rcheckM; rw [if_pos h0]
    rw [this]
    exact RM.i0
  · ((conv=>whnf);(repeat' ((first|refine Nd ?_|refine Hv fun _h=>?_);conv=>whnf)))
    refine CallN.pureA operations18_body (operations18_spec l hl ) ?_
    ((conv=>whnf);(repeat' ((first|refine Nd ?_|refine Hv fun _h=>?_);conv=>whnf)))
    have hnd := operations_nodup l
    have hlen := operations_len l
    have hbl : (begunM l).length ≤ l.length := begunTo_len l l.length
    rw [← hlen] at hbl
    generalize hops : operationsM l = ops at *
    have no : ¬ (allK (mustIn ops order) ops.length = true ∧ allK (refGood l ops bs order) order.length = true) → rcheckM bs l order = 17 := fun h => by
      unfold rcheckM
      rw [if_neg (by omega), hops, if_neg h]
    refine Lp.mkK hΓ (ι := Nat) [0, 1, 2, 8] (fun i => [(9, .c (.int .i64 i))]) (fun i => []) (fun i => i ≤ ops.length ∧ allK (mustIn ops order) i = true) (fun i => ops.length - i) 0 ⟨Nat.zero_le _, rfl⟩ ?_ ?_
    · exact Mv.k0
    · rintro k ⟨hk, hg⟩
      ((conv=>whnf);(repeat' ((first|refine Nd ?_|refine Hv fun _h=>?_);conv=>whnf)))
      refine Br.of (fun h1=>?_) (fun h1=>?_)<;>(try simp only [Int.toNat_natCast] at h1)<;>(conv=>whnf)
      · ((conv=>whnf);(repeat' ((first|refine Nd ?_|refine Hv fun _h=>?_);conv=>whnf)))
        have e0 : (k : Int).toNat = k := by simp
        rw [e0]
        refine CallG.auto has_body (fun _ => has_spec order (ops.getD k default).serial ) ?_
        ((conv=>whnf);(repeat' ((first|refine Nd ?_|refine Hv fun _h=>?_);conv=>whnf)))
        have hk' : k < ops.length := by omega
        have hm : mustIn ops order k = !(bif bif (ops.getD k default).ret then (ops.getD k default).err == 0 else false then !hasI order (ops.getD k default).serial else false) := by
          unfold mustIn mustE
          generalize ops.getD k default = x
          cases x.ret <;> cases hasI order x.serial <;> by_cases c : x.err = 0 <;> simp [c]
        cases hc : (bif bif (ops.getD k default).ret then (ops.getD k default).err == 0 else false then !hasI order (ops.getD k default).serial else false) with
        | true =>
          refine Br.yes rfl ?_
          ((conv=>whnf);(repeat' ((first|refine Nd ?_|refine Hv fun _h=>?_);conv=>whnf)))
          rw [no (fun q => by rw [allK_false (by rw [hm, hc]; rfl) hk'] at q; cases q.1)]
          exact RM.i0
        | false =>
          refine Br.no rfl ?_
          ((conv=>whnf);(repeat' ((first|refine Nd ?_|refine Hv fun _h=>?_);conv=>whnf)))
          refine ⟨k + 1, ⟨by omega, by rw [allK, hg, hm, hc]; rfl⟩, by omega, ?_⟩
          exact Mv.k0
      · ((conv=>whnf);(repeat' ((first|refine Nd ?_|refine Hv fun _h=>?_);conv=>whnf)))
        have hkk : k = ops.length := by omega
        subst hkk
        have no2 : ∀ i, i < order.length → refGood l ops bs order i = false → rcheckM bs l order = 17 := fun i hi h => no (fun q => by rw [allK_false h hi] at q; cases q.2)
        refine Lp.mkK hΓ (ι := Nat) [1, 2, 8] (fun i => [(10, .c (.int .i64 i)), (0, .c (strsC (stAt ops bs order i)))]) (fun i => []) (fun i => i ≤ order.length ∧ allK (refGood l ops bs order) i = true) (fun i => order.length - i) 0 ⟨Nat.zero_le _, rfl⟩ ?_ ?_
        · exact Mv.k0
        · rintro k ⟨hk, hgood⟩
          ((conv=>whnf);(repeat' ((first|refine Nd ?_|refine Hv fun _h=>?_);conv=>whnf)))
          refine Br.of (fun h5=>?_) (fun h5=>?_)<;>(try simp only [Int.toNat_natCast] at h5)<;>(conv=>whnf)
          · ((conv=>whnf);(repeat' ((first|refine Nd ?_|refine Hv fun _h=>?_);conv=>whnf)))
            have e0 : (k : Int).toNat = k := by simp
            have hk' : k < order.length := by omega
            rw [e0]
            have hlen2 := stAt_len ops bs order k
            have hgk : refGood l ops bs order k = (hasE ops (order.getD k default) && !hasI (order.take k) (order.getD k default) && canE (getE ops (order.getD k default)) && allK (fun j => !beforeM l (order.getD k default) (order.getD j default)) k && stepOk (stAt ops bs order k) (getE ops (order.getD k default))) := rfl
            have hst : stAt ops bs order (k + 1) = stepB (stAt ops bs order k) (getE ops (order.getD k default)) := rfl
            refine CallN.pureA operation_body (operation_spec ops (order.getD k default) ) ?_
            ((conv=>whnf);(repeat' ((first|refine Nd ?_|refine Hv fun _h=>?_);conv=>whnf)))
            refine Dr.mk hΓ hMix (by kernel_rfl) ?_; conv=>whnf
            ((conv=>whnf);(repeat' ((first|refine Nd ?_|refine Hv fun _h=>?_);conv=>whnf)))
            rw [e0]
            refine CallP.autoG has_body (fun _ => has_spec (order.take k) (order.getD k default)) ?_ (ha := WA.cons rfl (WS.c (WC.intsT hk)) (WA.cons rfl (WS.imm rfl) WA.nil))
            ((conv=>whnf);(repeat' ((first|refine Nd ?_|refine Hv fun _h=>?_);conv=>whnf)))
            generalize hs : order.getD k default = s at *
            generalize hx : getE ops s = x at *
            have hA : (bif bif !hasE ops s then true else hasI (order.take k) s then true else bif x.ret then x.err != 0 else false) = !(hasE ops s && !hasI (order.take k) s && canE x) := by
              unfold canE
              cases hasE ops s <;> cases hasI (order.take k) s <;> cases x.ret <;> by_cases c : x.err = 0 <;> simp [c]
            cases hc : (hasE ops s && !hasI (order.take k) s && canE x) with
            | false =>
              refine Br.yes (by rw [hA, hc]; rfl) ?_
              ((conv=>whnf);(repeat' ((first|refine Nd ?_|refine Hv fun _h=>?_);conv=>whnf)))
              rw [no2 k hk' (by rw [hgk, hc]; rfl)]
              exact RM.i0
            | true =>
              refine Br.no (by rw [hA, hc]; rfl) ?_
              ((conv=>whnf);(repeat' ((first|refine Nd ?_|refine Hv fun _h=>?_);conv=>whnf)))
              refine Lp.mkK hΓ (ι := Nat) [0, 1, 2, 8, 10, 11] (fun j => [(13, .c (.int .i64 j))]) (fun _ => [.vr x.cells]) (fun j => j ≤ k ∧ allK (fun j => !beforeM l s (order.getD j default)) j = true) (fun j => k - j) 0 ⟨Nat.zero_le _, rfl⟩ ?_ ?_
              · exact Mv.k0
              · rintro j ⟨hj, hbf⟩
                ((conv=>whnf);(repeat' ((first|refine Nd ?_|refine Hv fun _h=>?_);conv=>whnf)))
                refine Br.of (fun h6=>?_) (fun h6=>?_)<;>(try simp only [Int.toNat_natCast] at h6)<;>(conv=>whnf)
                · ((conv=>whnf);(repeat' ((first|refine Nd ?_|refine Hv fun _h=>?_);conv=>whnf)))
                  refine Dr.mk hΓ hMix (by kernel_rfl) ?_; conv=>whnf
                  ((conv=>whnf);(repeat' ((first|refine Nd ?_|refine Hv fun _h=>?_);conv=>whnf)))
                  have e1 : order.getD (j : Int).toNat default = order.getD j default := by rw [Int.toNat_natCast]
                  have e3 : order.getD (k : Int).toNat default = s := by rw [e0]; exact hs
                  refine CallP.auto before18_body (before18_spec l s (order.getD j default) ) ?_
                  ((conv=>whnf);(repeat' ((first|refine Nd ?_|refine Hv fun _h=>?_);conv=>whnf)))
                  cases hb2 : beforeM l s (order.getD j default) with
                  | true =>
                    refine Br.yes rfl ?_
                    ((conv=>whnf);(repeat' ((first|refine Nd ?_|refine Hv fun _h=>?_);conv=>whnf)))
                    have ha : allK (fun j => !beforeM l s (order.getD j default)) k = false := allK_false (k := j) (by show (!beforeM l s (order.getD j default)) = false; rw [hb2]; rfl) (by omega)
                    rw [no2 k hk' (by rw [hgk, ha]; simp)]
                    exact RM.i0
                  | false =>
                    refine Br.no rfl ?_
                    ((conv=>whnf);(repeat' ((first|refine Nd ?_|refine Hv fun _h=>?_);conv=>whnf)))
                    refine ⟨j + 1, ⟨by omega, by rw [allK, hbf]; show (true && !beforeM l s (order.getD j default)) = true; rw [hb2]; rfl⟩, by omega, ?_⟩
                    exact Mv.k0
                · ((conv=>whnf);(repeat' ((first|refine Nd ?_|refine Hv fun _h=>?_);conv=>whnf)))
                  have hjj : j = k := by omega
                  subst hjj
                  refine CallN.pureA apply17_body (apply17_spec (stAt ops bs order j) x.kind x.block x.data (by omega) ) ?_
                  ((conv=>whnf);(repeat' ((first|refine Nd ?_|refine Hv fun _h=>?_);conv=>whnf)))
                  have hso : stepOk (stAt ops bs order j) x = !(bif x.ret then (decide (appE (stAt ops bs order j).length x.kind x.block x.data = x.err) && (decide (appD (stAt ops bs order j) x.kind x.block x.data = x.rdata) && true)) == false else false) := by
                    unfold stepOk
                    rw [Bool.and_true]
                    cases x.ret <;> simp
                  cases hd : (bif x.ret then (decide (appE (stAt ops bs order j).length x.kind x.block x.data = x.err) && (decide (appD (stAt ops bs order j) x.kind x.block x.data = x.rdata) && true)) == false else false) with
                  | true =>
                    refine Br.yes rfl ?_
                    ((conv=>whnf);(repeat' ((first|refine Nd ?_|refine Hv fun _h=>?_);conv=>whnf)))
                    rw [no2 j hk' (by rw [hgk, hso, hd]; simp)]
                    exact RM.i0
                  | false =>
                    refine Br.no rfl ?_
                    ((conv=>whnf);(repeat' ((first|refine Nd ?_|refine Hv fun _h=>?_);conv=>whnf)))
                    refine ⟨j + 1, ⟨by omega, by rw [allK, hgood, hgk, hc, hbf, hso, hd]; rfl⟩, by omega, ?_⟩
                    rw [hst]
                    exact Mv.k0
          · ((conv=>whnf);(repeat' ((first|refine Nd ?_|refine Hv fun _h=>?_);conv=>whnf)))
            have hkk : k = order.length := by omega
            subst hkk
            have : rcheckM bs l order = 0 := by
              unfold rcheckM
              rw [if_neg (by omega), hops, if_pos ⟨hg, hgood⟩]
            rw [this]
            exact RM.i0
theorem rcheck_body : HasBody Tryz.prog 12 := hB Tryz.func12
end Go.Proofs
end
