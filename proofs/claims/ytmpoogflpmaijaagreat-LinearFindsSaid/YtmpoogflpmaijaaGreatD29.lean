/- Part of the proofs of laws of this seat: contracts and plain lemmas; no condition is added to a statement. -/
import Derived.Test.YtmpoogflpmaijaaGreatLinK
set_option linter.unusedSimpArgs false
set_option linter.unusedVariables false
open Go Go.Am
namespace Go.Proofs
set_option maxRecDepth 20000
/-! ### a history of one block -/
theorem runB_len : ∀ (xs : List Evt) (bs : List ByteArray), (runB bs xs).length = bs.length
  | [], _ => rfl
  | x :: r, bs => by
    show (runB (stepB bs x) r).length = _
    rw [runB_len r, show (stepB bs x).length = bs.length from appB_len _ _ _ _]
theorem path_cmd {l : List Evt} {v w : ByteArray} {o : List Int} (h : Path l v o w) (hd : DoneL l o) {y : Evt} (hy : y ∈ operationsM l) (hm : mustE y = true) : cmdV 1 y.kind y.block y.data = 0 := by
  obtain ⟨xs, e, m, nd, p, -, r, -⟩ := path_events h
  have := hd y hy hm
  rw [e] at this
  obtain ⟨x, hx, hxs⟩ := List.mem_map.1 this
  have hxy := serial_inj (operations_nodup l) (m x hx).1 hy hxs
  subst hxy
  obtain ⟨k, hk, rfl⟩ := mem_idx hx
  have h1 := runOk_get r k hk
  unfold mustE at hm
  rw [Bool.and_eq_true, decide_eq_true_eq] at hm
  unfold stepOk at h1
  rw [hm.1] at h1
  simp only [Bool.not_true, Bool.false_or, Bool.and_eq_true, decide_eq_true_eq] at h1
  have h2 := h1.1
  rw [runB_len, hm.2] at h2
  exact h2
theorem alone_same {l : List Evt} (h : ∀ e ∈ l, EvOk 1 e) : aloneM l 0 = l := by
  have hb : ∀ e ∈ l, e.block = 0 ∧ inB 0 e = true := fun e he => by
    obtain ⟨h1, h2, h3, h4⟩ := h e he
    have : e.block = 0 := by omega
    exact ⟨this, inB_spec.2 ⟨this, h1, h2⟩⟩
  unfold aloneM restrictM
  rw [List.filter_eq_self.2 fun e he => (hb e he).2]
  conv => rhs; rw [← List.map_id l]
  refine List.map_congr_left fun e he => ?_
  have := (hb e he).1
  unfold zeroE
  cases e
  simp only at this
  subst this
  rfl
theorem find_one {v : ByteArray} {l : List Evt} (h : ∀ e ∈ l, EvOk 1 e) : (findM [v] l).2 = (blockM v l).2 := by
  have ha := alone_same h
  have hf : foundM [v] l 0 = (blockM v l).2 := by
    unfold foundM
    rw [show ((0 : Nat) : Int) = 0 from rfl, ha]
    rfl
  rw [Bool.eq_iff_iff]
  constructor
  · intro hh
    unfold findM at hh
    split at hh
    · rename_i c
      have := (allK_iff _ _).1 c.2.1 0 (by simp)
      rwa [hf] at this
    · cases hh
  · intro hb
    obtain ⟨hs, w, h1, h2⟩ := blockM_path hb
    unfold findM
    rw [if_pos]
    refine ⟨single_sizes hs, ?_, ?_⟩
    · rw [allK_iff]
      intro i hi
      have : i = 0 := by simpa using hi
      subst this
      rw [hf, hb]
    · rw [allK_iff]
      intro i hi
      unfold cmdB
      cases hm : mustE ((operationsM l).getD i default) with
      | false => rfl
      | true =>
        rw [show (([v] : List ByteArray).length : Int) = 1 from rfl, path_cmd h1 h2 (idx_mem hi) hm]
        rfl
end Go.Proofs
