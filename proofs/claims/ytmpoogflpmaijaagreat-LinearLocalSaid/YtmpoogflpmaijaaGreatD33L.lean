/- Part of the proofs of laws of this seat: contracts and plain lemmas; no condition is added to a statement. -/
import Derived.Test.YtmpoogflpmaijaaGreatD32L
set_option linter.unusedSimpArgs false
set_option linter.unusedVariables false
open Go Go.Am
namespace Go.Proofs
set_option maxRecDepth 20000
set_option linter.all false
/-! ### locality, and beginnings -/
theorem find_iff {bs : List ByteArray} {l : List Evt} (hs : sizesM bs l = 0) (hc : ∀ e ∈ l, cmdV bs.length e.kind e.block e.data = 0) : (findM bs l).2 = allK (foundM bs l) bs.length := by
  have hcb : allK (cmdB bs.length (operationsM l)) (operationsM l).length = true := by
    rw [allK_iff]
    intro i hi
    unfold cmdB
    obtain ⟨e, he, h1, h2, h3⟩ := ops_sub (idx_mem hi)
    rw [h1, h2, h3, hc e he]
    simp
  unfold findM
  cases ha : allK (foundM bs l) bs.length with
  | true => rw [if_pos ⟨hs, ha, hcb⟩]
  | false => rw [if_neg (fun q => by rw [q.2.1] at ha; cases ha)]
theorem found_empty {bs : List ByteArray} {l : List Evt} {i : Nat} (hi : i < bs.length) (hsz : ∀ b ∈ bs, b.size = 16) (h : aloneM l i = []) : foundM bs l i = true := by
  unfold foundM
  rw [h]
  have hv : (bsAt bs i).size = 16 := by
    unfold bsAt
    have : bs.getD i ByteArray.empty = bs[i] := by simp [List.getD, hi]
    rw [this]; exact hsz _ (List.getElem_mem hi)
  have hR : RightO ([] : List Evt) := ⟨fun a b h => h.elim, fun a b h => h.elim, fun r hr => by simp at hr, fun e he => by simp at he, fun e he => by simp at he⟩
  have ho : operationsM [] = [] := rfl
  refine blockM_iff.2 ⟨?_, [], _, .nil, fun y hy => by rw [ho] at hy; simp at hy⟩
  unfold singleM
  rw [right_sizes hR (by simp) (by simp) (by simp) (fun x hx => by simp at hx; subst hx; exact hv), ho]
  rfl
theorem alone_restrict (l : List Evt) (i j : Nat) : aloneM (restrictM l i) j = if j = i then aloneM l i else [] := by
  unfold aloneM
  by_cases c : j = i
  · subst c; rw [if_pos rfl, restrict_self]
  · rw [if_neg c, restrict_other l (by omega)]; rfl
theorem zeros_size {n : Nat} : ∀ b ∈ zerosM n, b.size = 16 := fun b hb => by
  unfold zerosM at hb
  rw [List.eq_of_mem_replicate hb]; rfl
theorem zeros_len (n : Nat) : (zerosM n).length = n := by simp [zerosM]
section
variable {n m : Nat} {wrong : Bool} {l : List Int} (hn : 1 ≤ n ∧ n ≤ 20) (hm : m ≤ 12)
include hn hm
theorem drawn_cmd : ∀ e ∈ eventsM n m wrong l, cmdV (zerosM n).length e.kind e.block e.data = 0 := fun e he => by
  rw [zeros_len]
  exact ((gen_all (by omega) (3 * m)).cmdO e he).2
theorem drawn_sizes : sizesM (zerosM n) (eventsM n m wrong l) = 0 :=
  right_sizes (gen_all (by omega) (3 * m)).hR (by rw [zeros_len]; exact hn.1) (by rw [zeros_len]; omega) (by have := events_len n m wrong l; omega) zeros_size
theorem part_sizes (i : Int) : sizesM (zerosM n) (restrictM (eventsM n m wrong l) i) = 0 :=
  right_sizes (right_filter (gen_all (by omega) (3 * m)).hR i) (by rw [zeros_len]; exact hn.1) (by rw [zeros_len]; omega) (by
    have := events_len n m wrong l
    have h2 : (restrictM (eventsM n m wrong l) i).length ≤ (eventsM n m wrong l).length := List.length_filter_le _ _
    omega) zeros_size
theorem begin_sizes (k : Nat) : sizesM (zerosM n) ((eventsM n m wrong l).take k) = 0 :=
  right_sizes (right_take (gen_all (by omega) (3 * m)).hR k) (by rw [zeros_len]; exact hn.1) (by rw [zeros_len]; omega) (by
    have := events_len n m wrong l
    have h2 := List.length_take_le k (eventsM n m wrong l)
    rw [List.length_take]; omega) zeros_size
theorem drawn_whole : (findM (zerosM n) (eventsM n m wrong l)).2 = allK (foundM (zerosM n) (eventsM n m wrong l)) n := by
  rw [find_iff (drawn_sizes hn hm) (drawn_cmd hn hm), zeros_len]
theorem drawn_part {i : Nat} (hi : i < n) : (findM (zerosM n) (restrictM (eventsM n m wrong l) i)).2 = foundM (zerosM n) (eventsM n m wrong l) i := by
  rw [find_iff (part_sizes hn hm i) (fun e he => drawn_cmd hn hm e (List.mem_filter.1 he).1), zeros_len]
  have hf : ∀ j, j < n → foundM (zerosM n) (restrictM (eventsM n m wrong l) i) j = if j = i then foundM (zerosM n) (eventsM n m wrong l) i else true := fun j hj => by
    by_cases c : j = i
    · subst c
      rw [if_pos rfl]
      unfold foundM
      rw [alone_restrict, if_pos rfl]
    · rw [if_neg c]
      exact found_empty (by rw [zeros_len]; exact hj) zeros_size (by rw [alone_restrict, if_neg c])
  cases hw : foundM (zerosM n) (eventsM n m wrong l) i with
  | true =>
    rw [allK_iff]
    intro j hj
    rw [hf j hj, hw]; simp
  | false =>
    refine allK_false (k := i) ?_ hi
    rw [hf i hi, if_pos rfl, hw]
theorem drawn_begin (k : Nat) (h : (findM (zerosM n) (eventsM n m wrong l)).2 = true) : (findM (zerosM n) ((eventsM n m wrong l).take k)).2 = true := by
  rw [drawn_whole hn hm, allK_iff] at h
  rw [find_iff (begin_sizes hn hm k) (fun e he => drawn_cmd hn hm e (List.mem_of_mem_take he)), zeros_len, allK_iff]
  intro i hi
  have hR : RightO (eventsM n m wrong l) := (gen_all (n := n) (m := m) (wrong := wrong) (l := l) (by omega) (3 * m)).hR
  obtain ⟨k', e⟩ := alone_take (eventsM n m wrong l) k i
  have h1 := h i hi
  unfold foundM at h1 ⊢
  obtain ⟨hs, hl⟩ := blockM_iff.1 h1
  have hv := single_size hs
  refine blockM_iff.2 ⟨alone_single (right_take hR k) (by have := events_len n m wrong l; rw [List.length_take]; omega) hv ?_, ?_⟩
  · rw [e]
    exact Nat.le_trans (ops_take_le (alone_right hR i) k') (single_few hs)
  · rw [e]
    exact prefix_lin (alone_right hR i) k' hl
end
/-- Without a wrong result there is a linearization. -/
theorem drawn_good {n m : Nat} {l : List Int} (hn : 1 ≤ n ∧ n ≤ 20) (hm : m ≤ 12) : (findM (zerosM n) (eventsM n m false l)).2 = true := by
  rw [drawn_whole hn hm, allK_iff]
  intro i hi
  have g := gen_all (n := n) (m := m) (wrong := false) (l := l) (by omega) (3 * m)
  obtain ⟨xs, h⟩ := done_all (n := n) (m := m) (l := l) (by omega) (3 * m)
  have c := cnt_all (n := n) (m := m) (wrong := false) (l := l) (3 * m)
  have hlen := evI_len (n := n) (m := m) (wrong := false) (l := l) (3 * m)
  obtain ⟨ys, h1, h2⟩ := drawn_lin g h
  have hf := few_ops g h c hlen.opn (by omega)
  exact lin_found g.hR (by have := hlen.out; omega) zeros_size h1 (by rw [zeros_len]; exact h2) (by rw [zeros_len]; exact hi) (Nat.le_trans (ops_alone_le g.hR i) hf)
end Go.Proofs
