/- Part of the proofs of laws of this seat: contracts and plain lemmas; no condition is added to a statement. -/
import Derived.Test.YtbahpfnjjkoboaaDurCX
import Derived.Test.YtbahpfnjjkoboaaLawX
set_option linter.unusedSimpArgs false
set_option linter.unusedVariables false
section
open Go Go.Am
namespace Go.Proofs
theorem ev_app_lt {l : List Evt} {y : Evt} {i : Nat} (h : i < l.length) : ev (l ++ [y]) i = ev l i := by
  simp [ev, List.getD, List.getElem?_append, h]
theorem ev_app_eq {l : List Evt} {y : Evt} : ev (l ++ [y]) l.length = y := by
  simp [ev, List.getD]
theorem len_snoc {l : List Evt} {y : Evt} : (l ++ [y]).length = l.length + 1 := by simp
/-- A further event. -/
theorem Right.snoc {l : List Evt} {y : Evt} (h : Right l) (hq : 0 ≤ y.queue ∧ y.queue < 4 ∧ 0 ≤ y.serial)
    (hi : y.ret = false → (∀ i, i < l.length → (ev l i).ret = false → (ev l i).serial ≠ y.serial) ∧ y.err = 0 ∧ y.rdata = ByteArray.empty)
    (hr : y.ret = true → (∀ i, i < l.length → (ev l i).ret = true → (ev l i).serial ≠ y.serial) ∧ fitsM y.kind y.err y.rdata = true ∧
      ∃ i, i < l.length ∧ (ev l i).ret = false ∧ (ev l i).serial = y.serial ∧ (ev l i).queue = y.queue ∧ (ev l i).kind = y.kind ∧ (ev l i).block = y.block ∧ (ev l i).data = y.data) : Right (l ++ [y]) := by
  refine ⟨fun i j hij hj h1 h2 => ?_, fun i j hij hj h1 h2 => ?_, fun j hj h1 => ?_, fun i hi' h1 => ?_, fun i hi' => ?_⟩
  · rw [len_snoc] at hj
    change (ev _ i).ret = false at h1
    change (ev _ j).ret = false at h2
    change (ev _ i).serial ≠ (ev _ j).serial
    rw [ev_app_lt (by omega)] at h1 ⊢
    by_cases c : j < l.length
    · rw [ev_app_lt c] at h2 ⊢
      exact h.inv i j hij c h1 h2
    · have : j = l.length := by omega
      subst this
      rw [ev_app_eq] at h2 ⊢
      exact (hi h2).1 i hij h1
  · rw [len_snoc] at hj
    change (ev _ i).ret = true at h1
    change (ev _ j).ret = true at h2
    change (ev _ i).serial ≠ (ev _ j).serial
    rw [ev_app_lt (by omega)] at h1 ⊢
    by_cases c : j < l.length
    · rw [ev_app_lt c] at h2 ⊢
      exact h.rets i j hij c h1 h2
    · have : j = l.length := by omega
      subst this
      rw [ev_app_eq] at h2 ⊢
      exact (hr h2).1 i hij h1
  · rw [len_snoc] at hj
    change (ev _ j).ret = true at h1
    by_cases c : j < l.length
    · rw [ev_app_lt c] at h1
      obtain ⟨i, i1, i2⟩ := h.open_ j c h1
      refine ⟨i, i1, ?_⟩
      change (ev _ i).ret = false ∧ (ev _ i).serial = (ev _ j).serial ∧ (ev _ i).queue = (ev _ j).queue ∧ (ev _ i).kind = (ev _ j).kind ∧ (ev _ i).block = (ev _ j).block ∧ (ev _ i).data = (ev _ j).data ∧ fitsM (ev _ j).kind (ev _ j).err (ev _ j).rdata = true
      rw [ev_app_lt (by omega), ev_app_lt c]
      exact i2
    · have : j = l.length := by omega
      subst this
      rw [ev_app_eq] at h1
      obtain ⟨-, h2, i, i1, i2, i3, i4, i5, i6, i7⟩ := hr h1
      refine ⟨i, i1, ?_⟩
      change (ev _ i).ret = false ∧ (ev _ i).serial = (ev _ l.length).serial ∧ (ev _ i).queue = (ev _ l.length).queue ∧ (ev _ i).kind = (ev _ l.length).kind ∧ (ev _ i).block = (ev _ l.length).block ∧ (ev _ i).data = (ev _ l.length).data ∧ fitsM (ev _ l.length).kind (ev _ l.length).err (ev _ l.length).rdata = true
      rw [ev_app_lt (by omega), ev_app_eq]
      exact ⟨i2, i3, i4, i5, i6, i7, h2⟩
  · rw [len_snoc] at hi'
    change (ev _ i).ret = false at h1
    change (ev _ i).err = 0 ∧ (ev _ i).rdata = ByteArray.empty
    by_cases c : i < l.length
    · rw [ev_app_lt c] at h1 ⊢
      exact h.plain i c h1
    · have : i = l.length := by omega
      subst this
      rw [ev_app_eq] at h1 ⊢
      exact (hi h1).2
  · rw [len_snoc] at hi'
    change 0 ≤ (ev _ i).queue ∧ (ev _ i).queue < 4 ∧ 0 ≤ (ev _ i).serial
    by_cases c : i < l.length
    · rw [ev_app_lt c]; exact h.range i c
    · have : i = l.length := by omega
      subst this
      rw [ev_app_eq]; exact hq
theorem Right.nil : Right [] := ⟨fun i j _ hj => absurd hj (Nat.not_lt_zero _), fun i j _ hj => absurd hj (Nat.not_lt_zero _), fun j hj => absurd hj (Nat.not_lt_zero _), fun i hi => absurd hi (Nat.not_lt_zero _), fun i hi => absurd hi (Nat.not_lt_zero _)⟩
theorem sizes_ok {bs : List ByteArray} {l : List Evt} (h1 : 1 ≤ bs.length) (h2 : bs.length ≤ 128) (h3 : l.length ≤ 400) (h : Right l) (hb : ∀ b ∈ bs, b.size = 16) : sizesM bs l = 0 := by
  have hc : checkM bs.length l = 0 := by
    unfold checkM
    rw [if_neg (by omega), if_neg (by omega), if_pos h.to]
  refine sizesM_3 hc ?_
  rw [List.all_eq_true]
  intro b hbm
  unfold sz16
  rw [hb b hbm]; rfl
/-- What is allowed, by the places of the invocations. -/
theorem mem_allowed {bs : List ByteArray} {l : List Evt} {b : Int} (hz : sizesM bs l = 0) (h0 : 0 ≤ b) (h1 : b < bs.length) (h : Right l) {v : ByteArray} :
    v ∈ allowedR bs l b ↔ (settledM l b (pointM l) = [] ∧ v = bs.getD b.toNat ByteArray.empty) ∨ ∃ m, m < l.length ∧ (ev l m).ret = false ∧ liveE (opOf l (ev l m)) b = true ∧ covM l (settledM l b (pointM l)) (ev l m).serial = false ∧ v = valueM (ev l m) := by
  rw [← allowed_eq]
  unfold allowedD
  rw [if_neg (by omega), mem_putAll, mem_outD]
  have hv : ∀ e, valueM (opOf l e) = valueM e := fun e => by
    obtain ⟨-, q1, -, q2⟩ := opOf_keep l e
    unfold valueM
    rw [q1, q2]
  have key : (∃ i, i < (operationsM l).length ∧ liveE ((operationsM l).getD i default) b = true ∧ covM l (settledM l b (pointM l)) ((operationsM l).getD i default).serial = false ∧ v = valueM ((operationsM l).getD i default)) ↔
      ∃ m, m < l.length ∧ (ev l m).ret = false ∧ liveE (opOf l (ev l m)) b = true ∧ covM l (settledM l b (pointM l)) (ev l m).serial = false ∧ v = valueM (ev l m) := by
    constructor
    · rintro ⟨i, i1, i2, i3, i4⟩
      obtain ⟨m, m1, m2, m3⟩ := (mem_ops h).1 (ev_mem i1)
      unfold ev at m3
      rw [m3] at i2 i3 i4
      rw [(opOf_keep l _).1] at i3
      rw [hv] at i4
      exact ⟨m, m1, m2, i2, i3, i4⟩
    · rintro ⟨m, m1, m2, m3, m4, m5⟩
      obtain ⟨i, i1, i2⟩ := mem_ev ((mem_ops h).2 ⟨m, m1, m2, rfl⟩)
      unfold ev at i2
      refine ⟨i, i1, by rw [i2]; exact m3, by rw [i2, (opOf_keep l _).1]; exact m4, by rw [i2, hv]; exact m5⟩
  rw [key]
  unfold initD
  by_cases hs : settledM l b (pointM l) = []
  · rw [if_pos hs, List.mem_singleton]
    simp only [hs, true_and]
  · rw [if_neg hs]
    simp only [hs, false_and, List.not_mem_nil]
theorem exists_max {P : Nat → Prop} : ∀ n, (∃ m, m < n ∧ P m) → ∃ m, m < n ∧ P m ∧ ∀ k, k < n → P k → k ≤ m
  | 0, h => by obtain ⟨m, hm, _⟩ := h; omega
  | n + 1, h => by
    by_cases c : P n
    · exact ⟨n, by omega, c, fun k hk _ => by omega⟩
    · obtain ⟨m, m1, m2⟩ := h
      have hne : m ≠ n := fun e => c (e ▸ m2)
      obtain ⟨m', q1, q2, q3⟩ := exists_max n ⟨m, by omega, m2⟩
      refine ⟨m', by omega, q2, fun k hk hp => ?_⟩
      have : k ≠ n := fun e => c (e ▸ hp)
      exact q3 k (by omega) hp
theorem live_settled {l : List Evt} (h : Right l) {b : Int} {n m : Nat} (hn : n ≤ l.length) (hm : m < l.length) (hr : (ev l m).ret = false) (hs : (ev l m).serial ∈ settledM l b n) : liveE (opOf l (ev l m)) b = true := by
  obtain ⟨c1, c2⟩ := (settled_op h hn hm hr).1 hs
  rw [liveE_iff, changes_op]
  refine ⟨c1, fun _ => ?_⟩
  obtain ⟨i, i1, i2, i3, i4⟩ := ahead_iff.1 c2
  rw [opOf_ret h (by omega) i2 i3]
  exact i4
theorem allowed_some {bs : List ByteArray} {l : List Evt} {b : Int} (hz : sizesM bs l = 0) (h0 : 0 ≤ b) (h1 : b < bs.length) (h : Right l) : allowedR bs l b ≠ [] := by
  have hn : pointM l ≤ l.length := pointTo_le l l.length
  have : ∃ v, v ∈ allowedR bs l b := by
    by_cases hs : settledM l b (pointM l) = []
    · exact ⟨_, (mem_allowed hz h0 h1 h).2 (.inl ⟨hs, rfl⟩)⟩
    · obtain ⟨s, hs'⟩ := List.exists_mem_of_ne_nil _ hs
      obtain ⟨m0, q1, q2, q3⟩ := settled_inv h hn hs'
      obtain ⟨m, m1, ⟨m2, m3⟩, m4⟩ := exists_max (P := fun m => (ev l m).ret = false ∧ (ev l m).serial ∈ settledM l b (pointM l)) l.length ⟨m0, by omega, q2, q3 ▸ hs'⟩
      refine ⟨_, (mem_allowed hz h0 h1 h).2 (.inr ⟨m, m1, m2, live_settled h hn m1 m2 m3, ?_, rfl⟩)⟩
      unfold covM
      rw [← Bool.not_eq_true, List.any_eq_true]
      rintro ⟨s', t1, t2⟩
      obtain ⟨i, j, i1, j1, hij, i2, i3, j2, j3⟩ := (before_iff h).1 t2
      have hmi := (h.cmd i1 m1 i2 m2 i3.symm).1
      have := m4 j j1 ⟨j2, by rw [j3]; exact t1⟩
      omega
  intro e
  obtain ⟨v, hv⟩ := this
  rw [e] at hv
  simp at hv
/-- A further event that is no answer to a flush changes neither the point nor what is settled. -/
theorem point_snoc {l : List Evt} {y : Evt} (h : Right l) (h' : Right (l ++ [y])) (hk : ¬ isFlush y = true) : pointM (l ++ [y]) = pointM l := by
  refine IsMax.uniq (pointTo_max h' _ (Nat.le_refl _)) ?_
  obtain ⟨h1, h2⟩ := pointTo_max h l.length (Nat.le_refl _)
  have key : ∀ m, (m < (l ++ [y]).length ∧ PtQ (l ++ [y]) m) ↔ (m < l.length ∧ PtQ l m) := by
    intro m
    constructor
    · rintro ⟨q0, q1, q2, i, i1, i2, i3, i4⟩
      rw [len_snoc] at q0 i2
      by_cases c : i < l.length
      · rw [ev_app_lt c] at i3 i4
        rw [ev_app_lt (by omega)] at q2 i4
        exact ⟨by omega, by omega, q2, i, i1, c, i3, i4⟩
      · have : i = l.length := by omega
        subst this
        rw [ev_app_eq] at i3
        exact absurd i3 hk
    · rintro ⟨q0, q1, q2, i, i1, i2, i3, i4⟩
      refine ⟨by rw [len_snoc]; omega, by rw [len_snoc]; omega, by rw [ev_app_lt q0]; exact q2, i, i1, by rw [len_snoc]; omega, by rw [ev_app_lt i2]; exact i3, by rw [ev_app_lt i2, ev_app_lt q0]; exact i4⟩
  refine ⟨?_, fun m hm => h2 m ((key m).1 hm)⟩
  rcases h1 with c | c
  · exact .inl c
  · exact .inr ((key _).2 c)
theorem settled_snoc {l : List Evt} {y : Evt} {b : Int} {n : Nat} (hn : n ≤ l.length) : settledM (l ++ [y]) b n = settledM l b n := by
  unfold settledM
  rw [List.take_append_of_le_length hn]
theorem cov_snoc {l : List Evt} {y : Evt} (h : Right l) (h' : Right (l ++ [y])) {b : Int} {n : Nat} (hn : n ≤ l.length) {s : Int} : covM (l ++ [y]) (settledM l b n) s = true → covM l (settledM l b n) s = true := by
  unfold covM
  simp only [List.any_eq_true]
  rintro ⟨t, t1, t2⟩
  refine ⟨t, t1, ?_⟩
  obtain ⟨i, j, i1, j1, hij, i2, i3, j2, j3⟩ := (before_iff h').1 t2
  rw [len_snoc] at i1 j1
  obtain ⟨m, m1, m2, m3⟩ := settled_inv h hn t1
  have hj : j = m := by
    refine h'.same (by rw [len_snoc]; omega) (by rw [len_snoc]; omega) j2 (by rw [ev_app_lt (by omega)]; exact m2) ?_
    rw [j3, ev_app_lt (by omega : m < l.length), m3]
  subst hj
  rw [ev_app_lt (by omega)] at i2 i3 j2 j3
  exact (before_iff h).2 ⟨i, j, by omega, by omega, hij, i2, i3, j2, j3⟩
theorem live_snoc {l : List Evt} {y : Evt} (h : Right l) (h' : Right (l ++ [y])) {b : Int} {m : Nat} (hm : m < l.length) (hr : (ev l m).ret = false) (hy : y.ret = true → y.err = 0) (hl : liveE (opOf l (ev l m)) b = true) : liveE (opOf (l ++ [y]) (ev l m)) b = true := by
  rw [liveE_iff, changes_op] at hl ⊢
  refine ⟨hl.1, fun hret => ?_⟩
  by_cases hx : ∃ i, i < l.length ∧ (ev l i).ret = true ∧ (ev l i).serial = (ev l m).serial
  · obtain ⟨i, i1, i2, i3⟩ := hx
    have e1 := opOf_ret h i1 i2 i3
    have e2 := opOf_ret h' (i := i) (e := ev l m) (by rw [len_snoc]; omega) (by rw [ev_app_lt i1]; exact i2) (by rw [ev_app_lt i1]; exact i3)
    rw [ev_app_lt i1] at e2
    rw [e1] at hl
    rw [e2]
    exact hl.2 rfl
  · by_cases hx2 : y.ret = true ∧ y.serial = (ev l m).serial
    · have e2 := opOf_ret h' (i := l.length) (e := ev l m) (by rw [len_snoc]; omega) (by rw [ev_app_eq]; exact hx2.1) (by rw [ev_app_eq]; exact hx2.2)
      rw [ev_app_eq] at e2
      rw [e2]
      exact hy hx2.1
    · have e2 := opOf_open (l := l ++ [y]) (e := ev l m) fun i i1 i2 i3 => by
        rw [len_snoc] at i1
        by_cases c : i < l.length
        · rw [ev_app_lt c] at i2 i3
          exact hx ⟨i, c, i2, i3⟩
        · have : i = l.length := by omega
          subst this
          rw [ev_app_eq] at i2 i3
          exact hx2 ⟨i2, i3⟩
      rw [e2, hr] at hret
      cases hret
theorem allowed_grow {bs : List ByteArray} {l : List Evt} {y : Evt} {b : Int} (hz : sizesM bs l = 0) (hz' : sizesM bs (l ++ [y]) = 0) (h0 : 0 ≤ b) (h1 : b < bs.length) (h : Right l) (h' : Right (l ++ [y])) (hk : y.kind ≠ 4) (hy : y.ret = true → y.err = 0) {v : ByteArray}
    (hv : v ∈ allowedR bs l b) : v ∈ allowedR bs (l ++ [y]) b := by
  have hn : pointM l ≤ l.length := pointTo_le l l.length
  have hp := point_snoc h h' (fun q => hk (isFlush_iff.1 q).1)
  rw [mem_allowed hz' h0 h1 h', hp, settled_snoc hn]
  rcases (mem_allowed hz h0 h1 h).1 hv with c | ⟨m, m1, m2, m3, m4, m5⟩
  · exact .inl c
  · refine .inr ⟨m, by rw [len_snoc]; omega, by rw [ev_app_lt m1]; exact m2, by rw [ev_app_lt m1]; exact live_snoc h h' m1 m2 hy m3, ?_, by rw [ev_app_lt m1]; exact m5⟩
    rw [ev_app_lt m1, ← Bool.not_eq_true]
    intro q
    rw [cov_snoc h h' hn q] at m4
    cases m4
end Go.Proofs
end

section
open Go Go.Am
namespace Go.Proofs
/-- What holds of the history that is being made. -/
structure MadeInv (s : MadeS) (i : Nat) : Prop where
  right : Right s.out
  small : ∀ m, m < s.out.length → (ev s.out m).serial < i
  inv : ∀ e ∈ s.opn, e.ret = false ∧ (∃ m, m < s.out.length ∧ ev s.out m = e) ∧ ∀ m, m < s.out.length → (ev s.out m).ret = true → (ev s.out m).serial ≠ e.serial
  nd : (s.opn.map Evt.serial).Nodup
  kinds : ∀ m, m < s.out.length → 2 ≤ (ev s.out m).kind ∧ (ev s.out m).kind ≤ 4
  plain : ∀ e ∈ s.opn, e.rdata = ByteArray.empty ∧ e.err = 0
theorem cut_sub {l : List Evt} {k : Nat} {e : Evt} (h : e ∈ l.take k ++ l.drop (k + 1)) : e ∈ l := by
  rcases List.mem_append.1 h with c | c
  · exact List.mem_of_mem_take c
  · exact List.mem_of_mem_drop c
theorem cut_sublist (l : List Evt) (k : Nat) : (l.take k ++ l.drop (k + 1)).Sublist l := by
  have h1 : (l.drop (k + 1)).Sublist (l.drop k) := by
    have : l.drop (k + 1) = (l.drop k).drop 1 := by rw [List.drop_drop]
    rw [this]
    exact List.drop_sublist 1 _
  have := List.Sublist.append (List.Sublist.refl (l.take k)) h1
  rwa [List.take_append_drop] at this
theorem cut_ne {l : List Evt} {k : Nat} (hk : k < l.length) (hnd : (l.map Evt.serial).Nodup) {e : Evt} (h : e ∈ l.take k ++ l.drop (k + 1)) : e.serial ≠ (l.getD k default).serial := by
  have ek : l.getD k default = l[k] := by simp [List.getD, hk]
  rw [ek]
  unfold List.Nodup at hnd
  rw [List.pairwise_iff_getElem] at hnd
  rcases List.mem_append.1 h with c | c
  · obtain ⟨j, hj, rfl⟩ := List.getElem_of_mem c
    rw [List.length_take] at hj
    rw [List.getElem_take]
    have := hnd j k (by simp; omega) (by simp; omega) (by omega)
    simpa using this
  · obtain ⟨j, hj, rfl⟩ := List.getElem_of_mem c
    rw [List.length_drop] at hj
    rw [List.getElem_drop]
    have := hnd k (k + 1 + j) (by simp; omega) (by simp; omega) (by omega)
    exact fun q => this (by simpa using q.symm)
theorem madeX_eq (d : DiceM) (e : Evt) : (madeX d e).ret = true ∧ (madeX d e).queue = e.queue ∧ (madeX d e).serial = e.serial ∧ (madeX d e).kind = e.kind ∧ (madeX d e).block = e.block ∧ (madeX d e).data = e.data ∧ (madeX d e).rdata = e.rdata ∧ ((madeX d e).err = 7 ∨ (madeX d e).err = e.err) := by
  unfold madeX
  split
  · exact ⟨rfl, rfl, rfl, rfl, rfl, rfl, rfl, .inl rfl⟩
  · exact ⟨rfl, rfl, rfl, rfl, rfl, rfl, rfl, .inr rfl⟩
theorem madeInv_A {s : MadeS} {i : Nat} (h : MadeInv s i) (hop : 0 < s.opn.length) (hl : s.opn.length ≤ 1000) : MadeInv (madeA s) (i + 1) := by
  have hkr := DiceM.next_range s.d.step (n := s.opn.length) (by omega) (by omega)
  have hlt : (s.d.step.next s.opn.length).toNat < s.opn.length := by omega
  generalize hk : (s.d.step.next s.opn.length).toNat = k at hlt
  have hA : madeA s = ⟨s.d.step.step.step, s.out ++ [madeX s.d.step.step (s.opn.getD k default)], s.opn.take k ++ s.opn.drop (k + 1)⟩ := by
    unfold madeA; rw [hk]
  rw [hA]
  have hem : s.opn.getD k default ∈ s.opn := by
    have : s.opn.getD k default = s.opn[k] := by simp [List.getD, hlt]
    rw [this]; exact List.getElem_mem hlt
  have hne := fun {e} => cut_ne (e := e) hlt h.nd
  generalize s.opn.getD k default = e at *
  obtain ⟨x1, x2, x3, x4, x5, x6, x7, x8⟩ := madeX_eq s.d.step.step e
  generalize madeX s.d.step.step e = x at *
  obtain ⟨e1, ⟨m, m1, m2⟩, e3⟩ := h.inv e hem
  obtain ⟨e4, e5⟩ := h.plain e hem
  have hkd := h.kinds m m1
  rw [m2] at hkd
  have hrg := h.right.range m m1
  change 0 ≤ (ev s.out m).queue ∧ (ev s.out m).queue < 4 ∧ 0 ≤ (ev s.out m).serial at hrg
  rw [m2] at hrg
  refine ⟨h.right.snoc (by rw [x2, x3]; exact hrg) (fun q => by rw [x1] at q; cases q) (fun _ => ⟨fun j hj hjr => by rw [x3]; exact e3 j hj hjr, ?_, m, m1, by rw [m2]; exact e1, by rw [m2, x3], by rw [m2, x2], by rw [m2, x4], by rw [m2, x5], by rw [m2, x6]⟩), fun j hj => ?_, fun f hf => ?_, ?_, fun j hj => ?_, fun f hf => h.plain f (cut_sub hf)⟩
  · rw [x4, x7, e4]
    unfold fitsM
    rcases x8 with c | c
    · rw [c, if_neg (by decide), if_pos (by decide)]; simp
    · rw [c, e5, if_pos rfl, if_neg (by omega)]; simp
  · change j < (s.out ++ [x]).length at hj
    show (ev (s.out ++ [x]) j).serial < _
    rw [len_snoc] at hj
    by_cases c : j < s.out.length
    · rw [ev_app_lt c]
      have := h.small j c
      omega
    · have : j = s.out.length := by omega
      subst this
      rw [ev_app_eq, x3]
      have := h.small m m1
      rw [m2] at this
      omega
  · obtain ⟨f1, ⟨mf, f2, f3⟩, f4⟩ := h.inv f (cut_sub hf)
    refine ⟨f1, ⟨mf, by show mf < (s.out ++ [x]).length; rw [len_snoc]; omega, by show ev (s.out ++ [x]) mf = f; rw [ev_app_lt f2]; exact f3⟩, fun j hj hjr => ?_⟩
    change j < (s.out ++ [x]).length at hj
    change (ev (s.out ++ [x]) j).ret = true at hjr
    show (ev (s.out ++ [x]) j).serial ≠ _
    rw [len_snoc] at hj
    by_cases c : j < s.out.length
    · rw [ev_app_lt c] at hjr ⊢
      exact f4 j c hjr
    · have : j = s.out.length := by omega
      subst this
      rw [ev_app_eq, x3]
      exact fun q => hne hf q.symm
  · exact h.nd.sublist ((cut_sublist s.opn k).map _)
  · change j < (s.out ++ [x]).length at hj
    show 2 ≤ (ev (s.out ++ [x]) j).kind ∧ (ev (s.out ++ [x]) j).kind ≤ 4
    rw [len_snoc] at hj
    by_cases c : j < s.out.length
    · rw [ev_app_lt c]; exact h.kinds j c
    · have : j = s.out.length := by omega
      subst this
      rw [ev_app_eq, x4]; exact hkd
theorem madeInv_B {s : MadeS} {i : Nat} (h : MadeInv s i) (d : DiceM) : MadeInv (madeB s d i) (i + 1) := by
  have q1 := DiceM.next_range d (n := 3) (by omega) (by omega)
  have q2 := DiceM.next_range d.step (n := 3) (by omega) (by omega)
  have hk : 2 ≤ madeK d ∧ madeK d ≤ 4 := by unfold madeK; omega
  have n1 : (madeN d i).ret = false := rfl
  have n2 : (madeN d i).queue = d.next 3 := rfl
  have n3 : (madeN d i).serial = i := rfl
  have n4 : (madeN d i).kind = madeK d := rfl
  have n5 : (madeN d i).err = 0 := rfl
  have n6 : (madeN d i).rdata = ByteArray.empty := rfl
  have hB : madeB s d i = ⟨if madeK d = 2 then d.step.step.step.step else d.step.step.step, s.out ++ [madeN d i], s.opn ++ [madeN d i]⟩ := rfl
  rw [hB]
  generalize madeN d i = x at *
  have new : ∀ m, m < s.out.length → (ev s.out m).serial ≠ x.serial := fun m hm => by
    have := h.small m hm
    rw [n3]; omega
  refine ⟨h.right.snoc (by rw [n2, n3]; omega) (fun _ => ⟨fun j hj _ => new j hj, n5, n6⟩) (fun q => by rw [n1] at q; cases q), fun j hj => ?_, fun f hf => ?_, ?_, fun j hj => ?_, fun f hf => ?_⟩
  · change j < (s.out ++ [x]).length at hj
    show (ev (s.out ++ [x]) j).serial < _
    rw [len_snoc] at hj
    by_cases c : j < s.out.length
    · rw [ev_app_lt c]
      have := h.small j c
      omega
    · have : j = s.out.length := by omega
      subst this
      rw [ev_app_eq, n3]; omega
  · rcases List.mem_append.1 hf with c | c
    · obtain ⟨f1, ⟨mf, f2, f3⟩, f4⟩ := h.inv f c
      refine ⟨f1, ⟨mf, by show mf < (s.out ++ [x]).length; rw [len_snoc]; omega, by show ev (s.out ++ [x]) mf = f; rw [ev_app_lt f2]; exact f3⟩, fun j hj hjr => ?_⟩
      change j < (s.out ++ [x]).length at hj
      change (ev (s.out ++ [x]) j).ret = true at hjr
      show (ev (s.out ++ [x]) j).serial ≠ _
      rw [len_snoc] at hj
      by_cases c : j < s.out.length
      · rw [ev_app_lt c] at hjr ⊢
        exact f4 j c hjr
      · have : j = s.out.length := by omega
        subst this
        rw [ev_app_eq, n1] at hjr
        cases hjr
    · rw [List.mem_singleton] at c
      subst c
      refine ⟨n1, ⟨s.out.length, by show _ < (s.out ++ [_]).length; rw [len_snoc]; omega, ev_app_eq⟩, fun j hj hjr => ?_⟩
      change j < (s.out ++ [_]).length at hj
      change (ev (s.out ++ [_]) j).ret = true at hjr
      show (ev (s.out ++ [_]) j).serial ≠ _
      rw [len_snoc] at hj
      by_cases c : j < s.out.length
      · rw [ev_app_lt c] at hjr ⊢
        exact new j c
      · have : j = s.out.length := by omega
        subst this
        rw [ev_app_eq, n1] at hjr
        cases hjr
  · show ((s.opn ++ [x]).map Evt.serial).Nodup
    rw [List.map_append, List.nodup_append]
    refine ⟨h.nd, by simp, fun a ha b hb => ?_⟩
    simp only [List.map_cons, List.map_nil, List.mem_singleton] at hb
    subst hb
    obtain ⟨f, hf, rfl⟩ := List.mem_map.1 ha
    obtain ⟨-, ⟨mf, f2, f3⟩, -⟩ := h.inv f hf
    have := new mf f2
    rw [f3] at this
    exact this
  · change j < (s.out ++ [x]).length at hj
    show 2 ≤ (ev (s.out ++ [x]) j).kind ∧ (ev (s.out ++ [x]) j).kind ≤ 4
    rw [len_snoc] at hj
    by_cases c : j < s.out.length
    · rw [ev_app_lt c]; exact h.kinds j c
    · have : j = s.out.length := by omega
      subst this
      rw [ev_app_eq, n4]; exact hk
  · rcases List.mem_append.1 hf with c | c
    · exact h.plain f c
    · rw [List.mem_singleton] at c
      subst c
      exact ⟨n6, n5⟩
theorem madeInv_I (l : List Int) : ∀ i, i ≤ 1000 → MadeInv (madeI l i) i
  | 0, _ => ⟨Right.nil, fun m hm => absurd hm (Nat.not_lt_zero _), fun e he => by simp [madeI] at he, List.nodup_nil, fun m hm => absurd hm (Nat.not_lt_zero _), fun e he => by simp [madeI] at he⟩
  | i + 1, hi => by
    have ih := madeInv_I l i (by omega)
    have hlen := madeI_len l i
    simp only [madeI]
    split
    · unfold madeStep
      split
      · split
        · exact madeInv_A ih (by assumption) (by omega)
        · exact madeInv_B ih _
      · exact madeInv_B ih _
    · exact ⟨ih.right, fun m hm => by have := ih.small m hm; omega, ih.inv, ih.nd, ih.kinds, ih.plain⟩
theorem made_right (l : List Int) : Right (madeM l) := (madeInv_I l 50 (by omega)).right
theorem made_small (l : List Int) {m : Nat} (hm : m < (madeM l).length) : (ev (madeM l) m).serial < 50 := (madeInv_I l 50 (by omega)).small m hm
theorem made_len (l : List Int) : (madeM l).length ≤ 50 := (madeI_len l 50).1
end Go.Proofs
end

section
open Go Go.Am
namespace Go.Proofs
def growX (n v : Int) : Evt := ⟨false, 1, 1000, 2, IntKind.i64.wrap (n.tmod 3), valueS (IntKind.i64.wrap v), 0, ByteArray.empty⟩
def growM (h : List Evt) (n v : Int) : List Evt := h ++ [growX n v]
def growD (h : List Evt) (n v : Int) : List Evt := growM h n v ++ [retE (growX n v)]
theorem ev_app2 {l : List Evt} {x : Evt} {g0 : Nat → Nat → C} {t : List C} {i j : Nat} (hi : i < 0 + l.length + 1) (hj : j < 8) :
    appG (appG g0 0 (evG l)) (0 + l.length) (flatG 8 (C.bool x.ret :: C.int .i64 x.queue :: C.int .i64 x.serial :: C.int .i64 x.kind :: C.int .i64 x.block :: C.str x.data :: C.int .i64 x.err :: C.str x.rdata :: t)) i j = evG (l ++ [x]) i j := by
  rw [Nat.zero_add] at hi ⊢
  have := ev_snoc (x := x) (t := t) (n := l.length) rfl hi hj
  rw [← this]
  simp only [appG]
  split
  · simp
  · rfl
theorem zeros_size (n : Nat) : ∀ b ∈ zerosM n, b.size = 16 := fun b hb => by
  rw [(List.mem_replicate.1 hb).2]; rfl
theorem within_iff {a b : List ByteArray} : withinM a b = true ↔ ∀ x ∈ a, x ∈ b := by
  unfold withinM
  rw [List.all_eq_true]
  exact ⟨fun h x hx => memB_iff.1 (h x hx), fun h x hx => memB_iff.2 (h x hx)⟩
theorem grow_law {h : List Evt} {n v : Int} (hn : 0 ≤ n ∧ n ≤ 255) (hR : Right h) (hsm : ∀ m, m < h.length → (ev h m).serial < 50) (hml : h.length ≤ 50) :
    (∀ i : Nat, i < 3 → allowedR (zerosM 3) h i ≠ [] ∧ withinM (allowedR (zerosM 3) h i) (allowedR (zerosM 3) (growM h n v) i) = true ∧ withinM (allowedR (zerosM 3) h i) (allowedR (zerosM 3) (growD h n v) i) = true) ∧
    withinM [(growX n v).data] (allowedR (zerosM 3) (growD h n v) (growX n v).block) = true := by
  have hb : 0 ≤ (growX n v).block ∧ (growX n v).block < 3 := by
    have h1 := Int.tmod_nonneg (a := n) 3 hn.1
    have h2 := Int.tmod_lt_of_pos n (show (0 : Int) < 3 by decide)
    show 0 ≤ IntKind.i64.wrap (n.tmod 3) ∧ IntKind.i64.wrap (n.tmod 3) < 3
    rw [wrap_id _ (by omega) (by omega)]
    exact ⟨h1, h2⟩
  have x1 : (growX n v).ret = false := rfl
  have x2 : (growX n v).queue = 1 := rfl
  have x3 : (growX n v).serial = 1000 := rfl
  have x4 : (growX n v).kind = 2 := rfl
  have x5 : (growX n v).err = 0 := rfl
  have x6 : (growX n v).rdata = ByteArray.empty := rfl
  unfold growD growM
  generalize growX n v = x at *
  have y1 : (retE x).ret = true := rfl
  have hM : Right (h ++ [x]) := hR.snoc (by omega) (fun _ => ⟨fun i hi _ => by have := hsm i hi; omega, x5, x6⟩) (fun q => by rw [x1] at q; cases q)
  have new : ∀ i, i < (h ++ [x]).length → (ev (h ++ [x]) i).ret = true → (ev (h ++ [x]) i).serial ≠ (retE x).serial := by
    intro i hi hr
    rw [len_snoc] at hi
    show _ ≠ x.serial
    by_cases c : i < h.length
    · rw [ev_app_lt c]
      have := hsm i c; omega
    · have : i = h.length := by omega
      subst this
      rw [ev_app_eq, x1] at hr
      cases hr
  have hD : Right (h ++ [x] ++ [retE x]) := by
    refine hM.snoc ?_ (fun q => by rw [y1] at q; cases q) (fun _ => ⟨new, ?_, h.length, ?_, ?_, ?_, ?_, ?_, ?_, ?_⟩)
    · show 0 ≤ x.queue ∧ x.queue < 4 ∧ 0 ≤ x.serial
      omega
    · show fitsM x.kind x.err x.rdata = true
      rw [x4, x5, x6]; decide
    · rw [len_snoc]; omega
    · rw [ev_app_eq]; exact x1
    all_goals rw [ev_app_eq]; rfl
  have hz3 : (zerosM 3).length = 3 := rfl
  have z0 : sizesM (zerosM 3) h = 0 := sizes_ok (by omega) (by omega) (by omega) hR (zeros_size 3)
  have z1 : sizesM (zerosM 3) (h ++ [x]) = 0 := sizes_ok (by omega) (by omega) (by rw [len_snoc]; omega) hM (zeros_size 3)
  have z2 : sizesM (zerosM 3) (h ++ [x] ++ [retE x]) = 0 := sizes_ok (by omega) (by omega) (by rw [len_snoc, len_snoc]; omega) hD (zeros_size 3)
  refine ⟨fun i hi => ?_, ?_⟩
  · have q1 : ∀ w ∈ allowedR (zerosM 3) h i, w ∈ allowedR (zerosM 3) (h ++ [x]) i := fun w hw => allowed_grow z0 z1 (by omega) (by omega) hR hM (by omega) (fun q => by rw [x1] at q; cases q) hw
    have q2 : ∀ w ∈ allowedR (zerosM 3) (h ++ [x]) i, w ∈ allowedR (zerosM 3) (h ++ [x] ++ [retE x]) i := fun w hw => allowed_grow z1 z2 (by omega) (by omega) hM hD (by show x.kind ≠ 4; omega) (fun _ => x5) hw
    exact ⟨allowed_some z0 (by omega) (by omega) hR, within_iff.2 q1, within_iff.2 fun w hw => q2 w (q1 w hw)⟩
  · rw [within_iff]
    intro w hw
    rw [List.mem_singleton] at hw
    subst hw
    have hp := point_snoc hM hD (fun q => by have := (isFlush_iff.1 q).1; change x.kind = 4 at this; omega)
    have hn : pointM (h ++ [x]) ≤ (h ++ [x]).length := pointTo_le _ _
    have ex : ev (h ++ [x] ++ [retE x]) h.length = x := by rw [ev_app_lt (by rw [len_snoc]; omega), ev_app_eq]
    have ey : ev (h ++ [x] ++ [retE x]) (h ++ [x]).length = retE x := ev_app_eq
    refine (mem_allowed z2 hb.1 (by omega) hD).2 (.inr ⟨h.length, by rw [len_snoc, len_snoc]; omega, by rw [ex]; exact x1, ?_, ?_, ?_⟩)
    · rw [ex, opOf_ret hD (i := (h ++ [x]).length) (by rw [len_snoc (y := retE x)]; omega) (by rw [ey]; exact y1) (by rw [ey]; rfl), ey, liveE_iff]
      refine ⟨?_, fun _ => x5⟩
      show changesE _ _ = true
      unfold changesE
      simp [x4]
    · rw [ex, ← Bool.not_eq_true]
      unfold covM
      rw [List.any_eq_true]
      rintro ⟨t, t1, t2⟩
      obtain ⟨i, j, i1, j1, hij, i2, i3, j2, j3⟩ := (before_iff hD).1 t2
      have hc := hD.cmd i1 (m := h.length) (by rw [len_snoc, len_snoc]; omega) i2 (by rw [ex]; exact x1) (by rw [ex]; exact i3.symm)
      rw [len_snoc, len_snoc] at i1 j1
      have hj : j = h.length + 1 := by omega
      rw [hj, show h.length + 1 = (h ++ [x]).length by rw [len_snoc], ey] at j2
      cases j2
    · rw [ex]
      unfold valueM
      rw [if_neg (by omega)]
set_option maxHeartbeats 2000000 in
theorem durableGrows_spec (l : List Int) (n v : Int) (hn : 0 ≤ n ∧ n ≤ 255) (hv : 0 ≤ v ∧ v ≤ 255) : PSpec Try.prog 8 [.c (intsC l), .c (.int .u8 n), .c (.int .u8 v)] (.c (.bool true)) := by
  refine PSpec.rm ?_
  refine CSpec.of_vc hΓ Try.func8 rfl 85 0 [.tmp 6] Try.ntmps8 rfl (by rw [Try.results8]) rfl ?_
  conv => whnf
  repeat' ((first | refine Need.auto ?_ | refine Have.mk (fun _h => ?_)); conv => whnf)
  refine CallN.pureA light_body (light_spec l ) ?_
  conv => whnf
  repeat' ((first | refine Need.auto ?_ | refine Have.mk (fun _h => ?_)); conv => whnf)
  by_cases hl : l.length ≤ 300
  · refine Br.no (by rw [decide_eq_true hl]; rfl) ?_
    conv => whnf
    repeat' ((first | refine Need.auto ?_ | refine Have.mk (fun _h => ?_)); conv => whnf)
    refine CallN.pureA made_body (made_spec l (by omega) ) ?_
    conv => whnf
    repeat' ((first | refine Need.auto ?_ | refine Have.mk (fun _h => ?_)); conv => whnf)
    have hn3 : PSpec Try.prog 15 [.c (.int .i64 3)] (.c (strsC (zerosM 3))) := new17_spec 3 (by decide) (by decide)
    refine CallN.pureA new17_body hn3 ?_
    conv => whnf
    repeat' ((first | refine Need.auto ?_ | refine Have.mk (fun _h => ?_)); conv => whnf)
    refine CallN.pureA value_body (value_spec (IntKind.i64.wrap v) ) ?_
    conv => whnf
    repeat' ((first | refine Need.auto ?_ | refine Have.mk (fun _h => ?_)); conv => whnf)
    have hml := made_len l
    have hR := made_right l
    have hsm : ∀ m, m < (madeM l).length → (ev (madeM l) m).serial < 50 := fun m hm => made_small l hm
    generalize madeM l = h at *
    have hgl : (growM h n v).length = h.length + 1 := by unfold growM; rw [len_snoc]
    have hgl2 : (growM h n v).length = 0 + h.length + 1 := by omega
    have hdl : (growD h n v).length = h.length + 2 := by unfold growD; rw [len_snoc, hgl]
    have hdl2 : (growD h n v).length = 0 + (growM h n v).length + 1 := by omega
    refine Dr.mkE hΓ hMix [4294967296] [(3, 2), (4, 2)] (by kernel_rfl) ?_; conv => whnf
    repeat' ((first | refine Need.auto ?_ | refine Have.mk (fun _h => ?_)); conv => whnf)
    refine Dr.mvK [7, 8, 9] [(10, .c (evC (growM h n v)))] [.vr (growX n v).cells, .dead] ((Mv.fz 1 rfl (Nat.zero_le _) ?_).trans (Mv.mkW ?_ ?_ (Nat.le_of_ble_eq_true rfl))) ?_
    · intro i hi j hj
      exact (congrArg C.imm (ev_app2 (x := growX n v) hi hj)).trans (evCell_imm _ _)
    · (repeat' (first | exact WA.nil | refine WA.cons rfl ?_ ?_ | exact WB.nil | refine WB.cons ?_ ?_ | exact WT.nil | refine WT.cons ?_ ?_ | exact WH.nil | refine WH.cons ?_ ?_ | exact WR.nil | refine WR.cons rfl ?_ ?_ | refine WO.vr ?_ | exact WO.dead | exact WO.mpS | refine WO.mpA ?_ | refine WO.arrA ?_ | exact WS.u | refine WS.c ?_ | refine WS.a ?_ | refine WS.t ?_ | exact WL.nil | refine WL.cons ?_ ?_ | exact WTL.nil | refine WTL.consC ?_ ?_ | refine WTL.consL ?_ ?_ | exact WC.nils | exact WC.nil rfl | exact WC.nilp | refine WC.fzA | exact WC.ptr rfl (Nat.le_of_ble_eq_true rfl) | exact WC.mpr rfl (Nat.le_of_ble_eq_true rfl) | refine WC.slA | refine WC.intA | refine WC.int ?_ | refine WC.boolA | refine WC.bool ?_ | refine WC.strA | refine WC.str ?_ | exact WC.imm rfl))
    · (repeat' (first | exact WA.nil | refine WA.cons rfl ?_ ?_ | exact WB.nil | refine WB.cons ?_ ?_ | exact WT.nil | refine WT.cons ?_ ?_ | exact WH.nil | refine WH.cons ?_ ?_ | exact WR.nil | refine WR.cons rfl ?_ ?_ | refine WO.vr ?_ | exact WO.dead | exact WO.mpS | refine WO.mpA ?_ | refine WO.arrA ?_ | exact WS.u | refine WS.c ?_ | refine WS.a ?_ | refine WS.t ?_ | exact WL.nil | refine WL.cons ?_ ?_ | exact WTL.nil | refine WTL.consC ?_ ?_ | refine WTL.consL ?_ ?_ | exact WC.nils | exact WC.nil rfl | exact WC.nilp | refine WC.fzA | exact WC.ptr rfl (Nat.le_of_ble_eq_true rfl) | exact WC.mpr rfl (Nat.le_of_ble_eq_true rfl) | refine WC.slA | refine WC.intA | refine WC.int ?_ | refine WC.boolA | refine WC.bool ?_ | refine WC.strA | refine WC.str ?_ | exact WC.imm rfl))
      exact WC.fz rfl hgl2.symm (fun i hi j hj => leF.of_eq (ev_app2 (x := growX n v) hi hj)) (fun q => by cases q)
    refine Dr.mkE hΓ hMix [4294967296] [(3, 2)] (by kernel_rfl) ?_; conv => whnf
    repeat' ((first | refine Need.auto ?_ | refine Have.mk (fun _h => ?_)); conv => whnf)
    refine CallP.auto returnedE_body (returnedE_spec (growX n v) ) ?_
    conv => whnf
    repeat' ((first | refine Need.auto ?_ | refine Have.mk (fun _h => ?_)); conv => whnf)
    have hlaw := grow_law hn hR hsm hml (n := n) (v := v)
    refine Lp.mkK hΓ (ι := Nat) [7, 8, 9, 10] (fun i => [(12, .c (.int .i64 i)), (11, .c (evC (growD h n v)))]) (fun i => [.vr (growX n v).cells]) (fun i => i ≤ 3) (fun i => 3 - i) 0 (Nat.zero_le _) ((Mv.fz 2 rfl (Nat.zero_le _) ?_).trans (Mv.mkW ?_ ?_ (Nat.le_of_ble_eq_true rfl))) ?_
    · intro i hi j hj
      exact (congrArg C.imm (ev_app2 (x := retE (growX n v)) hi hj)).trans (evCell_imm _ _)
    · (repeat' (first | exact WA.nil | refine WA.cons rfl ?_ ?_ | exact WB.nil | refine WB.cons ?_ ?_ | exact WT.nil | refine WT.cons ?_ ?_ | exact WH.nil | refine WH.cons ?_ ?_ | exact WR.nil | refine WR.cons rfl ?_ ?_ | refine WO.vr ?_ | exact WO.dead | exact WO.mpS | refine WO.mpA ?_ | refine WO.arrA ?_ | exact WS.u | refine WS.c ?_ | refine WS.a ?_ | refine WS.t ?_ | exact WL.nil | refine WL.cons ?_ ?_ | exact WTL.nil | refine WTL.consC ?_ ?_ | refine WTL.consL ?_ ?_ | exact WC.nils | exact WC.nil rfl | exact WC.nilp | refine WC.fzA | exact WC.ptr rfl (Nat.le_of_ble_eq_true rfl) | exact WC.mpr rfl (Nat.le_of_ble_eq_true rfl) | refine WC.slA | refine WC.intA | refine WC.int ?_ | refine WC.boolA | refine WC.bool ?_ | refine WC.strA | refine WC.str ?_ | exact WC.imm rfl))
    · (repeat' (first | exact WA.nil | refine WA.cons rfl ?_ ?_ | exact WB.nil | refine WB.cons ?_ ?_ | exact WT.nil | refine WT.cons ?_ ?_ | exact WH.nil | refine WH.cons ?_ ?_ | exact WR.nil | refine WR.cons rfl ?_ ?_ | refine WO.vr ?_ | exact WO.dead | exact WO.mpS | refine WO.mpA ?_ | refine WO.arrA ?_ | exact WS.u | refine WS.c ?_ | refine WS.a ?_ | refine WS.t ?_ | exact WL.nil | refine WL.cons ?_ ?_ | exact WTL.nil | refine WTL.consC ?_ ?_ | refine WTL.consL ?_ ?_ | exact WC.nils | exact WC.nil rfl | exact WC.nilp | refine WC.fzA | exact WC.ptr rfl (Nat.le_of_ble_eq_true rfl) | exact WC.mpr rfl (Nat.le_of_ble_eq_true rfl) | refine WC.slA | refine WC.intA | refine WC.int ?_ | refine WC.boolA | refine WC.bool ?_ | refine WC.strA | refine WC.str ?_ | exact WC.imm rfl))
      exact WC.fz rfl hdl2.symm (fun i hi j hj => leF.of_eq (ev_app2 (x := retE (growX n v)) hi hj)) (fun q => by cases q)
    · intro i hi
      conv => whnf
      repeat' ((first | refine Need.auto ?_ | refine Have.mk (fun _h => ?_)); conv => whnf)
      (first | refine Br.lt (fun h3 => ?_) (fun h3 => ?_) | refine Br.le (fun h3 => ?_) (fun h3 => ?_) | refine Br.gt (fun h3 => ?_) (fun h3 => ?_) | refine Br.ge (fun h3 => ?_) (fun h3 => ?_) | refine Br.eq (fun h3 => ?_) (fun h3 => ?_) | refine Br.ne (fun h3 => ?_) (fun h3 => ?_) | refine Br.not (fun h3 => ?_) (fun h3 => ?_) | refine Br.mk (fun h3 => ?_) (fun h3 => ?_)) <;> (try simp only [Int.toNat_natCast] at h3) <;> (conv => whnf)
      · repeat' ((first | refine Need.auto ?_ | refine Have.mk (fun _h => ?_)); conv => whnf)
        obtain ⟨l1, l2, l3⟩ := hlaw.1 i (by omega)
        refine CallN.pureA allowed_body (allowed_spec (zerosM 3) h i (by omega) ) ?_
        conv => whnf
        repeat' ((first | refine Need.auto ?_ | refine Have.mk (fun _h => ?_)); conv => whnf)
        rw [allowed_eq]
        refine CallG.auto allowed_body (fun _ => allowed_spec (zerosM 3) (growM h n v) i (by omega) ) ?_
        conv => whnf
        repeat' ((first | refine Need.auto ?_ | refine Have.mk (fun _h => ?_)); conv => whnf)
        rw [allowed_eq]
        refine CallG.auto within_body (fun _ => within_spec (allowedR (zerosM 3) h i) (allowedR (zerosM 3) (growM h n v) i) ) ?_
        conv => whnf
        repeat' ((first | refine Need.auto ?_ | refine Have.mk (fun _h => ?_)); conv => whnf)
        refine CallG.auto allowed_body (fun _ => allowed_spec (zerosM 3) (growD h n v) i (by omega) ) ?_
        conv => whnf
        repeat' ((first | refine Need.auto ?_ | refine Have.mk (fun _h => ?_)); conv => whnf)
        rw [allowed_eq]
        refine CallG.auto within_body (fun _ => within_spec (allowedR (zerosM 3) h i) (allowedR (zerosM 3) (growD h n v) i) ) ?_
        conv => whnf
        repeat' ((first | refine Need.auto ?_ | refine Have.mk (fun _h => ?_)); conv => whnf)
        refine Br.no ?_ ?_
        · rw [l2, l3]
          have : ((allowedR (zerosM 3) h i).length : Int) ≠ 0 := fun q => l1 (List.length_eq_zero_iff.1 (by omega))
          simpa using this
        conv => whnf
        repeat' ((first | refine Need.auto ?_ | refine Have.mk (fun _h => ?_)); conv => whnf)
        refine ⟨i + 1, by omega, by omega, ?_⟩
        refine Mv.mkW ?_ ?_ (Nat.le_of_ble_eq_true rfl) <;> (repeat' (first | exact WA.nil | refine WA.cons rfl ?_ ?_ | exact WB.nil | refine WB.cons ?_ ?_ | exact WT.nil | refine WT.cons ?_ ?_ | exact WH.nil | refine WH.cons ?_ ?_ | exact WR.nil | refine WR.cons rfl ?_ ?_ | refine WO.vr ?_ | exact WO.dead | exact WO.mpS | refine WO.mpA ?_ | refine WO.arrA ?_ | exact WS.u | refine WS.c ?_ | refine WS.a ?_ | refine WS.t ?_ | exact WL.nil | refine WL.cons ?_ ?_ | exact WTL.nil | refine WTL.consC ?_ ?_ | refine WTL.consL ?_ ?_ | exact WC.nils | exact WC.nil rfl | exact WC.nilp | refine WC.fzA | exact WC.ptr rfl (Nat.le_of_ble_eq_true rfl) | exact WC.mpr rfl (Nat.le_of_ble_eq_true rfl) | refine WC.slA | refine WC.intA | refine WC.int ?_ | refine WC.boolA | refine WC.bool ?_ | refine WC.strA | refine WC.str ?_ | exact WC.imm rfl))
      · repeat' ((first | refine Need.auto ?_ | refine Have.mk (fun _h => ?_)); conv => whnf)
        have : i = 3 := by omega
        subst this
        refine Dr.mkE hΓ hMix [4294967296] [] (by kernel_rfl) ?_; conv => whnf
        repeat' ((first | refine Need.auto ?_ | refine Have.mk (fun _h => ?_)); conv => whnf)
        refine CallP.auto allowed_body (allowed_spec (zerosM 3) (growD h n v) (growX n v).block (by omega) ) ?_
        conv => whnf
        repeat' ((first | refine Need.auto ?_ | refine Have.mk (fun _h => ?_)); conv => whnf)
        rw [allowed_eq]
        refine CallP.mkW within_body (within_spec [(growX n v).data] (allowedR (zerosM 3) (growD h n v) (growX n v).block)) (by (repeat' (first | exact WA.nil | refine WA.cons rfl ?_ ?_ | exact WB.nil | refine WB.cons ?_ ?_ | exact WT.nil | refine WT.cons ?_ ?_ | exact WH.nil | refine WH.cons ?_ ?_ | exact WR.nil | refine WR.cons rfl ?_ ?_ | refine WO.vr ?_ | exact WO.dead | exact WO.mpS | refine WO.mpA ?_ | refine WO.arrA ?_ | exact WS.u | refine WS.c ?_ | refine WS.a ?_ | refine WS.t ?_ | exact WL.nil | refine WL.cons ?_ ?_ | exact WTL.nil | refine WTL.consC ?_ ?_ | refine WTL.consL ?_ ?_ | exact WC.nils | exact WC.nil rfl | exact WC.nilp | refine WC.fzA | exact WC.ptr rfl (Nat.le_of_ble_eq_true rfl) | exact WC.mpr rfl (Nat.le_of_ble_eq_true rfl) | refine WC.slA | refine WC.intA | refine WC.int ?_ | refine WC.boolA | refine WC.bool ?_ | refine WC.strA | refine WC.str ?_ | exact WC.imm rfl)); exact WC.isl rfl (fun i hi j hj => strsOne hi hj) (fun q => by cases q)) rfl ?_
        rw [hlaw.2]
        conv => whnf
        repeat' ((first | refine Need.auto ?_ | refine Have.mk (fun _h => ?_)); conv => whnf)
        refine CallP.autoG awake20_body (fun _ => awake20_spec ) ?_
        conv => whnf
        repeat' ((first | refine Need.auto ?_ | refine Have.mk (fun _h => ?_)); conv => whnf)
        refine RM.immW rfl ?_; (repeat' (first | exact WA.nil | refine WA.cons rfl ?_ ?_ | exact WB.nil | refine WB.cons ?_ ?_ | exact WT.nil | refine WT.cons ?_ ?_ | exact WH.nil | refine WH.cons ?_ ?_ | exact WR.nil | refine WR.cons rfl ?_ ?_ | refine WO.vr ?_ | exact WO.dead | exact WO.mpS | refine WO.mpA ?_ | refine WO.arrA ?_ | exact WS.u | refine WS.c ?_ | refine WS.a ?_ | refine WS.t ?_ | exact WL.nil | refine WL.cons ?_ ?_ | exact WTL.nil | refine WTL.consC ?_ ?_ | refine WTL.consL ?_ ?_ | exact WC.nils | exact WC.nil rfl | exact WC.nilp | refine WC.fzA | exact WC.ptr rfl (Nat.le_of_ble_eq_true rfl) | exact WC.mpr rfl (Nat.le_of_ble_eq_true rfl) | refine WC.slA | refine WC.intA | refine WC.int ?_ | refine WC.boolA | refine WC.bool ?_ | refine WC.strA | refine WC.str ?_ | exact WC.imm rfl))
  · refine Br.yes (by rw [decide_eq_false hl]; rfl) ?_
    conv => whnf
    repeat' ((first | refine Need.auto ?_ | refine Have.mk (fun _h => ?_)); conv => whnf)
    refine CallN.pureA awake20_body (awake20_spec ) ?_
    conv => whnf
    repeat' ((first | refine Need.auto ?_ | refine Have.mk (fun _h => ?_)); conv => whnf)
    refine RM.immW rfl ?_; (repeat' (first | exact WA.nil | refine WA.cons rfl ?_ ?_ | exact WB.nil | refine WB.cons ?_ ?_ | exact WT.nil | refine WT.cons ?_ ?_ | exact WH.nil | refine WH.cons ?_ ?_ | exact WR.nil | refine WR.cons rfl ?_ ?_ | refine WO.vr ?_ | exact WO.dead | exact WO.mpS | refine WO.mpA ?_ | refine WO.arrA ?_ | exact WS.u | refine WS.c ?_ | refine WS.a ?_ | refine WS.t ?_ | exact WL.nil | refine WL.cons ?_ ?_ | exact WTL.nil | refine WTL.consC ?_ ?_ | refine WTL.consL ?_ ?_ | exact WC.nils | exact WC.nil rfl | exact WC.nilp | refine WC.fzA | exact WC.ptr rfl (Nat.le_of_ble_eq_true rfl) | exact WC.mpr rfl (Nat.le_of_ble_eq_true rfl) | refine WC.slA | refine WC.intA | refine WC.int ?_ | refine WC.boolA | refine WC.bool ?_ | refine WC.strA | refine WC.str ?_ | exact WC.imm rfl))
theorem durableGrows_body : HasBody Try.prog 8 := ⟨⟨Try.f8, Try.func8, rfl, by kernel_rfl⟩⟩
end Go.Proofs
end
