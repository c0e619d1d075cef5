/- Part of the proofs of laws of this seat: contracts and plain lemmas; no condition is added to a statement. -/
import Derived.Test.YtmpoogflpmaijaaGreatLinC
import Derived.Test.YtmpoogflpmaijaaGreatLi7
set_option linter.unusedSimpArgs false
set_option linter.unusedVariables false
section
open Go Go.Am
namespace Go.Proofs
/-! ### operations that were answered one after the other -/
def invE (y : Evt) : Evt := { y with ret := false, err := 0, rdata := ByteArray.empty }
def seqL : List Evt → List Evt
  | [] => []
  | y :: r => invE y :: y :: seqL r
structure SeqOk (ys : List Evt) : Prop where
  len : ys.length ≤ 15
  at_ : ∀ i, i < ys.length → (ys.getD i default).ret = true ∧ (ys.getD i default).queue = 0 ∧ (ys.getD i default).serial = (i : Int) ∧ 1 ≤ (ys.getD i default).kind ∧ (ys.getD i default).kind ≤ 3 ∧ (ys.getD i default).block = 0 ∧ (ys.getD i default).err = 0 ∧ fitsM (ys.getD i default).kind 0 (ys.getD i default).rdata = true
theorem seqL_len : ∀ ys : List Evt, (seqL ys).length = 2 * ys.length
  | [] => rfl
  | y :: r => by simp only [seqL, List.length_cons, seqL_len r]; omega
theorem seqL_at : ∀ (ys : List Evt) (i : Nat), i < ys.length → (seqL ys).getD (2 * i) default = invE (ys.getD i default) ∧ (seqL ys).getD (2 * i + 1) default = ys.getD i default
  | [], i, h => by simp at h
  | y :: r, 0, _ => ⟨rfl, rfl⟩
  | y :: r, i + 1, h => by
    have := seqL_at r i (by simpa using h)
    simp only [List.getD] at this ⊢
    exact ⟨by rw [show 2 * (i + 1) = (2 * i + 1) + 1 by omega]; simpa [seqL] using this.1, by rw [show 2 * (i + 1) + 1 = (2 * i + 1 + 1) + 1 by omega]; simpa [seqL] using this.2⟩
theorem seqL_snoc : ∀ (ys : List Evt) (y : Evt), seqL (ys ++ [y]) = seqL ys ++ [invE y, y]
  | [], y => rfl
  | z :: r, y => by simp only [List.cons_append, seqL, seqL_snoc r y]
/-- What stands at a place of the history. -/
theorem seq_any {ys : List Evt} (h : SeqOk ys) {j : Nat} (hj : j < (seqL ys).length) : ∃ i, i < ys.length ∧ ((j = 2 * i ∧ (seqL ys).getD j default = invE (ys.getD i default)) ∨ (j = 2 * i + 1 ∧ (seqL ys).getD j default = ys.getD i default)) := by
  rw [seqL_len] at hj
  refine ⟨j / 2, by omega, ?_⟩
  have := seqL_at ys (j / 2) (by omega)
  rcases Nat.mod_two_eq_zero_or_one j with c | c
  · left
    have e : j = 2 * (j / 2) := by omega
    exact ⟨e, by rw [← this.1, ← e]⟩
  · right
    have e : j = 2 * (j / 2) + 1 := by omega
    exact ⟨e, by rw [← this.2, ← e]⟩
section
variable {ys : List Evt} (h : SeqOk ys)
include h
theorem seq_ret {j : Nat} (hj : j < (seqL ys).length) {r : Bool} {i : Nat} (hr : ((seqL ys).getD j default).ret = r) (hs : ((seqL ys).getD j default).serial = (i : Int)) : j = 2 * i + if r = true then 1 else 0 := by
  obtain ⟨k, hk, ⟨rfl, e⟩ | ⟨rfl, e⟩⟩ := seq_any h hj
  · rw [e] at hr hs
    have := (h.at_ k hk).2.2.1
    have hs' : (ys.getD k default).serial = (i : Int) := hs
    have hr' : false = r := hr
    subst hr'
    simp only [Bool.false_eq_true, if_false]
    omega
  · rw [e] at hr hs
    have h1 := h.at_ k hk
    have : r = true := by rw [← hr]; exact h1.1
    subst this
    simp only [if_true]
    have := h1.2.2.1
    omega
theorem seq_place {r : Bool} {i : Nat} (hi : i < ys.length) : (placesF (seqL ys) r).has (i : Int) = true ∧ (placesF (seqL ys) r).get (i : Int) = ((2 * i + if r = true then 1 else 0 : Nat) : Int) := by
  have hl := seqL_len ys
  have hh : (placesF (seqL ys) r).has (i : Int) = true := by
    refine (placesM_has _ r _ _).2 ⟨2 * i + if r = true then 1 else 0, by split <;> omega, ?_, ?_⟩
    · cases r with
      | false => simp only [Bool.false_eq_true, if_false, Nat.add_zero]; rw [(seqL_at ys i hi).1]; rfl
      | true => simp only [if_true]; rw [(seqL_at ys i hi).2]; exact (h.at_ i hi).1
    · cases r with
      | false => simp only [Bool.false_eq_true, if_false, Nat.add_zero]; rw [(seqL_at ys i hi).1]; exact (h.at_ i hi).2.2.1
      | true => simp only [if_true]; rw [(seqL_at ys i hi).2]; exact (h.at_ i hi).2.2.1
  refine ⟨hh, ?_⟩
  obtain ⟨j, j1, j2, j3, j4, -⟩ := placesM_get (seqL ys) r _ _ hh
  rw [show placesF (seqL ys) r = placesM (seqL ys) r (seqL ys).length from rfl, j2, seq_ret h j1 j3 j4]
theorem seq_before {i j : Nat} (hi : i < ys.length) (hj : j < ys.length) : beforeM (seqL ys) (i : Int) (j : Int) = decide (i < j) := by
  unfold beforeM
  obtain ⟨h1, h2⟩ := seq_place h (r := true) hi
  obtain ⟨h3, h4⟩ := seq_place h (r := false) hj
  rw [h1, h2, h3, h4]
  simp only [if_true, Bool.false_eq_true, if_false, Nat.add_zero, Bool.true_and]
  rw [Bool.eq_iff_iff, decide_eq_true_eq, decide_eq_true_eq]
  omega
theorem seq_begun : ∀ k, k ≤ ys.length → begunTo (seqL ys) (2 * k) = (ys.take k).map invE
  | 0, _ => rfl
  | k + 1, hk => by
    have ih := seq_begun k (by omega)
    have hk' : k < ys.length := by omega
    rw [show 2 * (k + 1) = 2 * k + 1 + 1 by omega]
    have e1 := (seqL_at ys k hk').1
    have e2 := (seqL_at ys k hk').2
    have hs := (h.at_ k hk').2.2.1
    rw [begunTo, e2, if_neg (by rw [(h.at_ k hk').1]; simp), begunTo, e1, if_pos ?_, ih, getD_snoc_take hk', List.map_append]
    · rfl
    · refine ⟨rfl, ?_⟩
      have := (seq_place h (r := false) hk').2
      rw [show (invE (ys.getD k default)).serial = (k : Int) from hs, this]
      simp
theorem seq_ops : operationsM (seqL ys) = ys := by
  unfold operationsM begunM
  have := seq_begun h ys.length (Nat.le_refl _)
  rw [seqL_len, this, List.take_length, List.map_map]
  refine List.ext_getElem (by simp) fun i h1 h2 => ?_
  simp only [List.getElem_map, Function.comp]
  have hg : ys[i] = ys.getD i default := (getD_at h2).symm
  rw [hg]
  clear hg
  obtain ⟨a1, a2, a3, -⟩ := h.at_ i h2
  obtain ⟨p1, p2⟩ := seq_place h (r := true) h2
  unfold opOf
  rw [show (invE (ys.getD i default)).serial = (i : Int) from a3, if_pos p1, p2, Int.toNat_natCast]
  simp only [if_true]
  rw [(seqL_at ys i h2).2]
  unfold invE
  generalize ys.getD i default = y at a1 a3
  cases y
  simp only at a1 a3
  subst a1 a3
  rfl
theorem seq_right : Right (seqL ys) := by
  refine ⟨fun i j hij hj h1 h2 q => ?_, fun i j hij hj h1 h2 q => ?_, fun j hj hr => ?_, fun i hi hr => ?_, fun i hi => ?_⟩
  · obtain ⟨a, ha, ⟨rfl, e⟩ | ⟨rfl, e⟩⟩ := seq_any h (show i < (seqL ys).length by omega)
    · have hs : ((seqL ys).getD (2 * a) default).serial = (a : Int) := by rw [e]; exact (h.at_ a ha).2.2.1
      have := seq_ret h hj h2 (q.symm.trans hs)
      simp at this; omega
    · rw [e, (h.at_ a ha).1] at h1; cases h1
  · obtain ⟨a, ha, ⟨rfl, e⟩ | ⟨rfl, e⟩⟩ := seq_any h (show i < (seqL ys).length by omega)
    · rw [e] at h1; cases h1
    · have hs : ((seqL ys).getD (2 * a + 1) default).serial = (a : Int) := by rw [e]; exact (h.at_ a ha).2.2.1
      have := seq_ret h hj h2 (q.symm.trans hs)
      simp at this; omega
  · obtain ⟨a, ha, ⟨rfl, e⟩ | ⟨rfl, e⟩⟩ := seq_any h hj
    · rw [e] at hr; cases hr
    · refine ⟨2 * a, by omega, ?_⟩
      rw [(seqL_at ys a ha).1, e]
      obtain ⟨-, -, -, -, -, -, a7, a8⟩ := h.at_ a ha
      exact ⟨rfl, rfl, rfl, rfl, rfl, rfl, by rw [a7]; exact a8⟩
  · obtain ⟨a, ha, ⟨rfl, e⟩ | ⟨rfl, e⟩⟩ := seq_any h hi
    · rw [e]; exact ⟨rfl, rfl⟩
    · rw [e, (h.at_ a ha).1] at hr; cases hr
  · obtain ⟨a, ha, ⟨rfl, e⟩ | ⟨rfl, e⟩⟩ := seq_any h hi
    · rw [e]
      obtain ⟨-, a2, a3, -⟩ := h.at_ a ha
      show 0 ≤ (ys.getD a default).queue ∧ _ ∧ 0 ≤ (ys.getD a default).serial
      exact ⟨by omega, by show (ys.getD a default).queue < 4; omega, by omega⟩
    · rw [e]
      obtain ⟨-, a2, a3, -⟩ := h.at_ a ha
      exact ⟨by omega, by omega, by omega⟩
theorem seq_sizes {z : ByteArray} (hz : z.size = 16) : sizesM [z] (seqL ys) = 0 := by
  have hl := seqL_len ys
  have := h.len
  have hc : checkM (([z] : List ByteArray).length : Int) (seqL ys) = 0 := by
    unfold checkM
    rw [if_neg (by simp), if_neg (by omega), if_pos (seq_right h).to]
  unfold sizesM
  rw [if_pos hc]
  simp [hz]
theorem seq_single {z : ByteArray} (hz : z.size = 16) : singleM z (seqL ys) = true := by
  unfold singleM
  rw [seq_sizes h hz, seq_ops h, decide_eq_true (rfl : (0 : Int) = 0), decide_eq_true (by have := h.len; omega), Bool.true_and, Bool.and_true, allK_iff]
  intro i hi
  unfold evAlone
  obtain ⟨a, ha, ⟨rfl, e⟩ | ⟨rfl, e⟩⟩ := seq_any h hi
  all_goals
    rw [e]
    obtain ⟨-, -, -, a4, a5, a6, -⟩ := h.at_ a ha
    simp only [Bool.and_eq_true, decide_eq_true_eq]
  · exact ⟨a6, a4, a5⟩
  · exact ⟨a6, a4, a5⟩
end
end Go.Proofs
end

section
open Go Go.Am
namespace Go.Proofs
def iota : Nat → List Int
  | 0 => []
  | k + 1 => iota k ++ [(k : Int)]
theorem iota_len : ∀ k, (iota k).length = k
  | 0 => rfl
  | k + 1 => by simp [iota, iota_len k]
theorem iota_get : ∀ {k i : Nat}, i < k → (iota k).getD i default = (i : Int)
  | k + 1, i, hi => by
    by_cases c : i = k
    · subst c
      simp [iota, List.getD, List.getElem?_append_right, iota_len]
    · have := iota_get (k := k) (i := i) (by omega)
      simp only [iota, List.getD] at this ⊢
      rw [List.getElem?_append_left (by rw [iota_len]; omega)]
      exact this
theorem iota_take : ∀ {k i : Nat}, i ≤ k → (iota k).take i = iota i
  | 0, i, hi => by have : i = 0 := by omega
                   subst this; rfl
  | k + 1, i, hi => by
    by_cases c : i = k + 1
    · subst c; rw [List.take_of_length_le (by rw [iota_len]; omega)]
    · rw [iota, List.take_append_of_le_length (by rw [iota_len]; omega), iota_take (by omega)]
theorem mem_iota : ∀ {k : Nat} {x : Int}, x ∈ iota k ↔ 0 ≤ x ∧ x < k
  | 0, x => by simp only [iota, List.not_mem_nil, false_iff]; omega
  | k + 1, x => by
    simp only [iota, List.mem_append, List.mem_singleton, mem_iota (k := k)]
    omega
def vAt (ys : List Evt) (z : ByteArray) : Nat → ByteArray
  | 0 => z
  | k + 1 => nextV (vAt ys z k) (ys.getD k default)
def okTo (ys : List Evt) (z : ByteArray) (k : Nat) : Bool := allK (fun i => stepOk [vAt ys z i] (ys.getD i default)) k
def allM (k : Nat) : Nat := maskB (fun _ => true) k
theorem allM_bit (k i : Nat) : (allM k).testBit i = decide (i < k) := by unfold allM; rw [maskB_bit]; simp
theorem stepB_one (v : ByteArray) (x : Evt) : stepB [v] x = [nextV v x] := by
  have hl : (stepB [v] x).length = 1 := by unfold stepB; rw [appB_len]; rfl
  unfold nextV
  match hs : stepB [v] x, hl with
  | [a], _ => rfl
theorem stAt_take {ys : List Evt} {bs : List ByteArray} {o p : List Int} : ∀ {k : Nat}, (∀ i, i < k → o.getD i default = p.getD i default) → stAt ys bs o k = stAt ys bs p k
  | 0, _ => rfl
  | k + 1, h => by rw [stAt, stAt, stAt_take (k := k) (fun i hi => h i (by omega)), h k (by omega)]
section
variable {ys : List Evt} (h : SeqOk ys)
include h
theorem seq_can : ys.filter canE = ys := List.filter_eq_self.2 fun y hy => by
  obtain ⟨i, hi, rfl⟩ := List.getElem_of_mem hy
  have := (h.at_ i hi).2.2.2.2.2.2.1
  rw [getD_at hi] at this
  unfold canE
  rw [this]; simp
theorem seq_must {i : Nat} (hi : i < ys.length) : mustE (ys.getD i default) = true := by
  have := h.at_ i hi
  unfold mustE
  rw [this.1, this.2.2.2.2.2.2.1]; rfl
theorem seq_prob : (probOf (seqL ys)).ops = ys ∧ (∀ j, j < ys.length → ∀ i, ((probOf (seqL ys)).first.getD j default).testBit i = (decide (i < ys.length) && decide (i < j))) ∧ (probOf (seqL ys)).must = allM ys.length := by
  have e : canOps (seqL ys) = ys := by unfold canOps; rw [seq_ops h, seq_can h]
  refine ⟨e, fun j hj i => ?_, ?_⟩
  · unfold probOf firstOf
    simp only [e]
    rw [show (ys.map (rowOf (seqL ys) ys)).getD j default = rowOf (seqL ys) ys (ys.getD j default) by simp [List.getD, hj]]
    unfold rowOf
    rw [maskB_bit]
    by_cases c : i < ys.length
    · rw [(h.at_ j hj).2.2.1, (h.at_ i c).2.2.1, seq_before h c hj]
    · simp [c]
  · unfold probOf mustOf allM
    simp only [e]
    exact maskB_congr fun i hi => seq_must h hi
theorem seq_step {z : ByteArray} {k j : Nat} (hk : k ≤ ys.length) (hj : j < ys.length) : stepI (probOf (seqL ys)) (allM k) (vAt ys z k) j = true ↔ j = k ∧ stepOk [vAt ys z k] (ys.getD k default) = true := by
  obtain ⟨e1, e2, e3⟩ := seq_prob h
  unfold stepI
  rw [e1, allM_bit]
  simp only [Bool.and_eq_true, Bool.not_eq_true', decide_eq_false_iff_not, decide_eq_true_eq]
  constructor
  · rintro ⟨⟨h1, h2⟩, h3⟩
    have : j ≤ k := by
      rcases Nat.lt_or_ge k j with c | c
      · exfalso
        have := mdiff_bit ((probOf (seqL ys)).first.getD j default) (allM k) k
        rw [h2, e2 j hj, allM_bit] at this
        simp [c, (by omega : k < ys.length)] at this
      · exact c
    have : j = k := by omega
    subst this
    exact ⟨rfl, h3⟩
  · rintro ⟨rfl, h3⟩
    refine ⟨⟨by omega, ?_⟩, h3⟩
    refine Nat.eq_of_testBit_eq fun i => ?_
    rw [mdiff_bit, e2 j hj, allM_bit, Nat.zero_testBit]
    by_cases c : i < j <;> simp [c]
theorem seq_reach {z : ByteArray} {d : Nat} {v : ByteArray} {o : List Int} (hr : Reach (probOf (seqL ys)) z d v o) : ∃ k, k ≤ ys.length ∧ d = allM k ∧ v = vAt ys z k ∧ o = iota k ∧ okTo ys z k = true := by
  induction hr with
  | nil => exact ⟨0, Nat.zero_le _, rfl, rfl, rfl, rfl⟩
  | @step d v o i hr hi hs ih =>
    obtain ⟨k, hk, rfl, rfl, rfl, hok⟩ := ih
    obtain ⟨e1, e2, e3⟩ := seq_prob h
    rw [e1] at hi
    obtain ⟨rfl, h3⟩ := (seq_step h hk hi).1 hs
    refine ⟨i + 1, hi, ?_, ?_, ?_, ?_⟩
    · show _ = maskB (fun _ => true) (i + 1)
      rfl
    · rw [e1]; rfl
    · rw [e1, (h.at_ i hi).2.2.1]; rfl
    · unfold okTo at hok ⊢
      rw [allK, hok, h3]; rfl
theorem seq_reached {z : ByteArray} : ∀ {k : Nat}, k ≤ ys.length → okTo ys z k = true → Reach (probOf (seqL ys)) z (allM k) (vAt ys z k) (iota k)
  | 0, _, _ => Reach.nil
  | k + 1, hk, hok => by
    unfold okTo at hok
    rw [allK, Bool.and_eq_true] at hok
    have ih := seq_reached (k := k) (by omega) hok.1
    obtain ⟨e1, e2, e3⟩ := seq_prob h
    have := Reach.step (i := k) ih (by rw [e1]; omega) ((seq_step h (by omega) (by omega)).2 ⟨rfl, hok.2⟩)
    rw [e1, (h.at_ k (by omega)).2.2.1] at this
    exact this
theorem seq_ends {z : ByteArray} {one : Bool} : ∀ p ∈ endsM z (seqL ys) one, p = (vAt ys z ys.length, iota ys.length) ∧ okTo ys z ys.length = true := by
  intro p hp
  obtain ⟨d, h1, h2⟩ := walk_sound p hp
  obtain ⟨k, hk, rfl, h3, h4, h5⟩ := seq_reach h h1
  obtain ⟨e1, e2, e3⟩ := seq_prob h
  rw [e3] at h2
  have : k = ys.length := by
    rcases Nat.lt_or_ge k ys.length with c | c
    · exfalso
      have := congrArg (fun n => n.testBit k) h2
      simp only [Nat.testBit_and, allM_bit] at this
      simp [c] at this
    · omega
  subst this
  exact ⟨Prod.ext h3 h4, h5⟩
theorem seq_some {z : ByteArray} {one : Bool} (hok : okTo ys z ys.length = true) : endsM z (seqL ys) one ≠ [] := by
  obtain ⟨e1, e2, e3⟩ := seq_prob h
  have h1 := seq_reached h (z := z) (Nat.le_refl _) hok
  rcases walk_all (one := one) (by rw [e1]; have := h.len; omega) h1 (by rw [e3]; exact Nat.and_self _) with c | c
  · exact c.2
  · intro e
    unfold endsM at e
    rw [e] at c
    simp at c
theorem seq_block {z : ByteArray} (hz : z.size = 16) : blockM z (seqL ys) = if okTo ys z ys.length = true then (iota ys.length, true) else ([], false) := by
  unfold blockM
  rw [if_pos (seq_single h hz)]
  by_cases c : okTo ys z ys.length = true
  · rw [if_pos c]
    have h1 := seq_some h (one := true) c
    have h2 := seq_ends h (z := z) (one := true)
    cases he : endsM z (seqL ys) true with
    | nil => exact absurd he h1
    | cons p r =>
      rw [he] at h2
      rw [(h2 p (by simp)).1]
  · rw [if_neg c]
    cases he : endsM z (seqL ys) true with
    | nil => rfl
    | cons p r =>
      exact absurd (seq_ends h (z := z) (one := true) p (by rw [he]; simp)).2 c
theorem seq_values {z : ByteArray} (hz : z.size = 16) (hok : okTo ys z ys.length = true) : valuesM z (seqL ys) = [vAt ys z ys.length] := by
  unfold valuesM
  rw [if_pos (seq_single h hz)]
  have h1 := seq_some h (one := false) hok
  have h2 := seq_ends h (z := z) (one := false)
  have h3 : ((endsM z (seqL ys) false).map Prod.fst).Nodup := walk_nodup
  have : (endsM z (seqL ys) false).map Prod.fst = [vAt ys z ys.length] := by
    match he : endsM z (seqL ys) false, h1 with
    | [p], _ => rw [he] at h2; simp [(h2 p (by simp)).1]
    | p :: q :: r, _ =>
      rw [he] at h2 h3
      have a := (h2 p (by simp)).1
      have b := (h2 q (by simp)).1
      simp [a, b] at h3
  rw [this]
  exact List.perm_singleton.1 (sortB_perm _)
theorem seq_stAt {z : ByteArray} : ∀ k, k ≤ ys.length → stAt ys [z] (iota ys.length) k = [vAt ys z k]
  | 0, _ => rfl
  | k + 1, hk => by
    have hn : (ys.map Evt.serial).Nodup := by have := operations_nodup (seqL ys); rw [seq_ops h] at this; exact this
    have hk' : k < ys.length := by omega
    rw [stAt, seq_stAt k (by omega), iota_get hk']
    have := getE_of hn (e := ys.getD k default) (by rw [getD_at hk']; exact List.getElem_mem hk')
    rw [(h.at_ k hk').2.2.1] at this
    rw [this, stepB_one]; rfl
theorem seq_check {z : ByteArray} (hz : z.size = 16) : lcheckM [z] (seqL ys) (iota ys.length) = if okTo ys z ys.length = true then 0 else 17 := by
  have hn : (ys.map Evt.serial).Nodup := by have := operations_nodup (seqL ys); rw [seq_ops h] at this; exact this
  unfold lcheckM
  rw [if_neg (by rw [seq_sizes h hz]; simp), seq_ops h]
  have e1 : remE ys (iota ys.length) = [] := by
    rw [List.eq_nil_iff_forall_not_mem]
    intro y hy
    obtain ⟨m1, m2, m3⟩ := mem_remE.1 hy
    obtain ⟨i, hi, rfl⟩ := List.getElem_of_mem m1
    have := (h.at_ i hi).2.2.1
    rw [getD_at hi] at this
    exact m3 (mem_iota.2 (by omega))
  have e2 : ∀ k, k < ys.length → goodP (seqL ys) ys [z] (iota ys.length) k = stepOk [vAt ys z k] (ys.getD k default) := by
    intro k hk
    have hm : ys.getD k default ∈ ys := by rw [getD_at hk]; exact List.getElem_mem hk
    have hs := (h.at_ k hk).2.2.1
    have h1 : hasE (remE ys ((iota ys.length).take k)) ((iota ys.length).getD k default) = true := by
      rw [iota_get hk, iota_take (by omega)]
      refine hasE_iff.2 ⟨ys.getD k default, mem_remE.2 ⟨hm, ?_, ?_⟩, hs⟩
      · have := (h.at_ k hk).2.2.2.2.2.2.1
        unfold canE; rw [this]; simp
      · rw [hs, mem_iota]; omega
    have h2 : laterB (seqL ys) (iota ys.length) ((iota ys.length).getD k default) (k + 1) = false := by
      refine laterB_false fun j hj => ?_
      have hj' : k + 1 + j < ys.length := by simp [iota_len] at hj; omega
      have hd : ((iota ys.length).drop (k + 1)).getD j default = (iota ys.length).getD (k + 1 + j) default := by
        simp only [List.getD, List.getElem?_drop]
      rw [hd, iota_get hj', iota_get hk, seq_before h hj' hk]
      simp; omega
    have h3 : getE ys ((iota ys.length).getD k default) = ys.getD k default := by
      have := getE_of hn hm
      rw [hs] at this
      rw [iota_get hk]; exact this
    unfold goodP
    rw [h1, h2, h3, seq_stAt h k (by omega)]
    rfl
  have e3 : allK (goodP (seqL ys) ys [z] (iota ys.length)) (iota ys.length).length = okTo ys z ys.length := by
    rw [iota_len]
    unfold okTo
    rw [Bool.eq_iff_iff, allK_iff, allK_iff]
    exact ⟨fun q i hi => by rw [← e2 i hi]; exact q i hi, fun q i hi => by rw [e2 i hi]; exact q i hi⟩
  rw [e1, e3]
  simp
end
end Go.Proofs
end
