/- Part of the proofs of laws of this seat: contracts and plain lemmas; no condition is added to a statement. -/
import Derived.Test.YtbahpfnjjkoboaaLawBX
set_option linter.unusedSimpArgs false
set_option linter.unusedVariables false
section
open Go Go.Am
namespace Go.Proofs
/-- The history of operations one after the other. -/
def histM (cs : List Evt) : List Evt := (List.range (2 * cs.length)).map fun i => if i % 2 = 0 then cs.getD (i / 2) default else retE (cs.getD (i / 2) default)
theorem hist_len (cs : List Evt) : (histM cs).length = 2 * cs.length := by simp [histM]
theorem ev_hist {cs : List Evt} {i : Nat} (h : i < 2 * cs.length) : ev (histM cs) i = if i % 2 = 0 then cs.getD (i / 2) default else retE (cs.getD (i / 2) default) := by
  simp [ev, histM, List.getD, h]
theorem ev_inv {cs : List Evt} {k : Nat} (h : k < cs.length) : ev (histM cs) (2 * k) = ev cs k := by
  rw [ev_hist (by omega), if_pos (by omega), show 2 * k / 2 = k by omega]
theorem ev_ret {cs : List Evt} {k : Nat} (h : k < cs.length) : ev (histM cs) (2 * k + 1) = retE (ev cs k) := by
  rw [ev_hist (by omega), if_neg (by omega), show (2 * k + 1) / 2 = k by omega]
theorem hist_snoc (cs : List Evt) (x : Evt) : histM (cs ++ [x]) = histM cs ++ [x, retE x] := by
  refine List.ext_getElem (by simp [histM]; omega) fun i h1 h2 => ?_
  have hl : (histM (cs ++ [x])).length = 2 * cs.length + 2 := by rw [hist_len, len_snoc]; omega
  have e1 : (histM (cs ++ [x]))[i] = ev (histM (cs ++ [x])) i := by simp [ev, List.getD, h1]
  rw [e1, ev_hist (by rw [len_snoc]; omega)]
  by_cases c : i < 2 * cs.length
  · rw [List.getElem_append_left (by rw [hist_len]; exact c)]
    have e2 : (histM cs)[i]'(by rw [hist_len]; exact c) = ev (histM cs) i := by simp [ev, List.getD, hist_len, c]
    have e3 := ev_app_lt (l := cs) (y := x) (i := i / 2) (by omega)
    unfold ev at e3
    rw [e2, ev_hist c, e3]
  · rw [List.getElem_append_right (by rw [hist_len]; omega)]
    have e3 := ev_app_eq (l := cs) (y := x)
    unfold ev at e3
    by_cases c2 : i = 2 * cs.length
    · subst c2
      rw [if_pos (by omega), show 2 * cs.length / 2 = cs.length by omega, e3]
      simp [hist_len]
    · have : i = 2 * cs.length + 1 := by omega
      subst this
      rw [if_neg (by omega), show (2 * cs.length + 1) / 2 = cs.length by omega, e3]
      simp [hist_len]
structure SeqOk (cs : List Evt) : Prop where
  ok : ∀ k, k < cs.length → (ev cs k).ret = false ∧ (ev cs k).serial = k ∧ (ev cs k).queue = 0 ∧ (ev cs k).err = 0 ∧ (ev cs k).rdata = ByteArray.empty ∧ 2 ≤ (ev cs k).kind ∧ (ev cs k).kind ≤ 4
theorem SeqOk.at {cs : List Evt} (h : SeqOk cs) {i : Nat} (hi : i < 2 * cs.length) : (i % 2 = 0 ∧ (ev (histM cs) i).ret = false ∨ i % 2 = 1 ∧ (ev (histM cs) i).ret = true) ∧ (ev (histM cs) i).serial = ((i / 2 : Nat) : Int) := by
  obtain ⟨h1, h2, -⟩ := h.ok (i / 2) (by omega)
  rw [ev_hist hi]
  by_cases c : i % 2 = 0
  · rw [if_pos c]
    exact ⟨.inl ⟨c, h1⟩, h2⟩
  · rw [if_neg c]
    exact ⟨.inr ⟨by omega, rfl⟩, h2⟩
theorem SeqOk.right {cs : List Evt} (h : SeqOk cs) : Right (histM cs) := by
  refine ⟨fun i j hij hj h1 h2 => ?_, fun i j hij hj h1 h2 => ?_, fun j hj h1 => ?_, fun i hi h1 => ?_, fun i hi => ?_⟩
  all_goals rw [hist_len] at *
  · change (ev (histM cs) i).ret = false at h1
    change (ev (histM cs) j).ret = false at h2
    show (ev (histM cs) i).serial ≠ (ev (histM cs) j).serial
    obtain ⟨a1, a2⟩ := h.at (i := i) (by omega)
    obtain ⟨b1, b2⟩ := h.at (i := j) (by omega)
    rw [h1] at a1
    rw [h2] at b1
    simp at a1 b1
    rw [a2, b2]; omega
  · change (ev (histM cs) i).ret = true at h1
    change (ev (histM cs) j).ret = true at h2
    show (ev (histM cs) i).serial ≠ (ev (histM cs) j).serial
    obtain ⟨a1, a2⟩ := h.at (i := i) (by omega)
    obtain ⟨b1, b2⟩ := h.at (i := j) (by omega)
    rw [h1] at a1
    rw [h2] at b1
    simp at a1 b1
    rw [a2, b2]; omega
  · change (ev (histM cs) j).ret = true at h1
    obtain ⟨b1, b2⟩ := h.at (i := j) (by omega)
    rw [h1] at b1
    simp at b1
    obtain ⟨k, rfl⟩ : ∃ k, j = 2 * k + 1 := ⟨j / 2, by omega⟩
    obtain ⟨o1, o2, o3, o4, o5, o6, o7⟩ := h.ok k (by omega)
    refine ⟨2 * k, by omega, ?_⟩
    change (ev (histM cs) (2 * k)).ret = false ∧ (ev (histM cs) (2 * k)).serial = (ev (histM cs) (2 * k + 1)).serial ∧ (ev (histM cs) (2 * k)).queue = (ev (histM cs) (2 * k + 1)).queue ∧ (ev (histM cs) (2 * k)).kind = (ev (histM cs) (2 * k + 1)).kind ∧ (ev (histM cs) (2 * k)).block = (ev (histM cs) (2 * k + 1)).block ∧ (ev (histM cs) (2 * k)).data = (ev (histM cs) (2 * k + 1)).data ∧ fitsM (ev (histM cs) (2 * k + 1)).kind (ev (histM cs) (2 * k + 1)).err (ev (histM cs) (2 * k + 1)).rdata = true
    rw [ev_inv (by omega), ev_ret (by omega)]
    refine ⟨o1, rfl, rfl, rfl, rfl, rfl, ?_⟩
    show fitsM (ev cs k).kind (ev cs k).err (ev cs k).rdata = true
    rw [o4, o5]
    unfold fitsM
    rw [if_pos rfl, if_neg (by omega)]
    simp
  · change (ev (histM cs) i).ret = false at h1
    obtain ⟨a1, a2⟩ := h.at (i := i) (by omega)
    rw [h1] at a1
    simp at a1
    obtain ⟨k, rfl⟩ : ∃ k, i = 2 * k := ⟨i / 2, by omega⟩
    obtain ⟨o1, o2, o3, o4, o5, -⟩ := h.ok k (by omega)
    show (ev (histM cs) (2 * k)).err = 0 ∧ (ev (histM cs) (2 * k)).rdata = ByteArray.empty
    rw [ev_inv (by omega)]
    exact ⟨o4, o5⟩
  · obtain ⟨o1, o2, o3, -⟩ := h.ok (i / 2) (by omega)
    show 0 ≤ (ev (histM cs) i).queue ∧ (ev (histM cs) i).queue < 4 ∧ 0 ≤ (ev (histM cs) i).serial
    have hs := (h.at (i := i) (by omega)).2
    have hq : (ev (histM cs) i).queue = 0 := by
      rw [ev_hist (by omega)]
      split
      · exact o3
      · exact o3
    omega
/-- Where the last flush is. -/
def lastF (cs : List Evt) : Nat → Nat
  | 0 => 0
  | k + 1 => if (ev cs k).kind = 4 then k else lastF cs k
theorem lastF_le (cs : List Evt) : ∀ k, lastF cs k ≤ k
  | 0 => Nat.le_refl _
  | k + 1 => by
    have := lastF_le cs k
    simp only [lastF]
    split <;> omega
theorem lastF_max (cs : List Evt) : ∀ k, (lastF cs k = 0 ∨ lastF cs k < k ∧ (ev cs (lastF cs k)).kind = 4) ∧ ∀ m, m < k → (ev cs m).kind = 4 → m ≤ lastF cs k
  | 0 => ⟨.inl rfl, fun m hm => by omega⟩
  | k + 1 => by
    obtain ⟨h1, h2⟩ := lastF_max cs k
    simp only [lastF]
    split
    · rename_i hc
      exact ⟨.inr ⟨by omega, hc⟩, fun m hm _ => by omega⟩
    · rename_i hc
      refine ⟨?_, fun m hm hk => ?_⟩
      · rcases h1 with c | c
        · exact .inl c
        · exact .inr ⟨by omega, c.2⟩
      · by_cases c : m = k
        · subst c; exact absurd hk hc
        · exact h2 m (by omega) hk
theorem seq_flush {cs : List Evt} (h : SeqOk cs) {k : Nat} (hk : k < cs.length) : isFlush (retE (ev cs k)) = true ↔ (ev cs k).kind = 4 := by
  rw [isFlush_iff]
  obtain ⟨-, -, -, o4, -⟩ := h.ok k hk
  exact ⟨fun q => q.1, fun q => ⟨q, rfl, o4⟩⟩
theorem seq_point {cs : List Evt} (h : SeqOk cs) : pointM (histM cs) = 2 * lastF cs cs.length := by
  refine IsMax.uniq (pointTo_max h.right _ (Nat.le_refl _)) ?_
  obtain ⟨h1, h2⟩ := lastF_max cs cs.length
  refine ⟨?_, fun m hm => ?_⟩
  · rcases h1 with c | ⟨c1, c2⟩
    · left; omega
    · right
      refine ⟨by rw [hist_len]; omega, by rw [hist_len]; omega, by rw [ev_inv c1]; exact (h.ok _ c1).1, 2 * lastF cs cs.length + 1, by omega, by rw [hist_len]; omega, ?_, ?_⟩
      · rw [ev_ret c1]; exact (seq_flush h c1).2 c2
      · rw [ev_ret c1, ev_inv c1]; rfl
  · obtain ⟨q0, q1, q2, i, i1, i2, i3, i4⟩ := hm
    rw [hist_len] at *
    obtain ⟨a1, a2⟩ := h.at (i := m) (by omega)
    obtain ⟨b1, b2⟩ := h.at (i := i) (by omega)
    rw [q2] at a1
    have hr := (isFlush_iff.1 i3).2.1
    rw [hr] at b1
    simp at a1 b1
    obtain ⟨k, rfl⟩ : ∃ k, i = 2 * k + 1 := ⟨i / 2, by omega⟩
    rw [ev_ret (by omega)] at i3
    have hk4 := (seq_flush h (by omega)).1 i3
    have := h2 k (by omega) hk4
    rw [b2, a2] at i4
    omega
theorem seq_settled {cs : List Evt} (h : SeqOk cs) {b : Int} {p : Nat} (hp : p ≤ cs.length) {s : Int} : s ∈ settledM (histM cs) b (2 * p) ↔ ∃ k, k < p ∧ changesE (ev cs k) b = true ∧ s = (k : Int) := by
  rw [mem_settled (by rw [hist_len]; omega)]
  constructor
  · rintro ⟨i, i1, i2, i3⟩
    obtain ⟨b1, b2⟩ := h.at (i := i) (by omega)
    obtain ⟨q1, q2, q3⟩ := settleE_iff.1 i2
    rw [q1] at b1
    simp at b1
    obtain ⟨k, rfl⟩ : ∃ k, i = 2 * k + 1 := ⟨i / 2, by omega⟩
    rw [ev_ret (by omega)] at q2
    refine ⟨k, by omega, q2, ?_⟩
    rw [← i3, b2]
    omega
  · rintro ⟨k, k1, k2, rfl⟩
    refine ⟨2 * k + 1, by omega, ?_, ?_⟩
    · rw [ev_ret (by omega), settleE_iff]
      exact ⟨rfl, k2, (h.ok k (by omega)).2.2.2.1⟩
    · rw [ev_ret (by omega)]
      exact (h.ok k (by omega)).2.1
theorem seq_before {cs : List Evt} (h : SeqOk cs) {a b : Nat} (ha : a < cs.length) (hb : b < cs.length) : beforeM (histM cs) a b = true ↔ a < b := by
  rw [before_iff h.right]
  constructor
  · rintro ⟨i, j, i1, j1, hij, i2, i3, j2, j3⟩
    rw [hist_len] at *
    obtain ⟨a1, a2⟩ := h.at (i := i) i1
    obtain ⟨b1, b2⟩ := h.at (i := j) j1
    rw [i2] at a1
    rw [j2] at b1
    simp at a1 b1
    rw [a2] at i3
    rw [b2] at j3
    omega
  · intro hab
    refine ⟨2 * a + 1, 2 * b, by rw [hist_len]; omega, by rw [hist_len]; omega, by omega, by rw [ev_ret ha]; rfl, by rw [ev_ret ha]; exact (h.ok a ha).2.1, by rw [ev_inv hb]; exact (h.ok b hb).1, by rw [ev_inv hb]; exact (h.ok b hb).2.1⟩
/-- What is allowed behind operations one after the other. -/
theorem seq_allowed {cs : List Evt} (h : SeqOk cs) {bs : List ByteArray} {b : Int} (hz : sizesM bs (histM cs) = 0) (h0 : 0 ≤ b) (h1 : b < bs.length) {v : ByteArray} :
    v ∈ allowedR bs (histM cs) b ↔ ((∀ s, s < lastF cs cs.length → changesE (ev cs s) b = false) ∧ v = bs.getD b.toNat ByteArray.empty) ∨ ∃ k, k < cs.length ∧ changesE (ev cs k) b = true ∧ v = valueM (ev cs k) ∧ ∀ s, s < lastF cs cs.length → changesE (ev cs s) b = true → s ≤ k := by
  have hp := lastF_le cs cs.length
  rw [mem_allowed hz h0 h1 h.right, seq_point h]
  have e1 : settledM (histM cs) b (2 * lastF cs cs.length) = [] ↔ ∀ s, s < lastF cs cs.length → changesE (ev cs s) b = false := by
    rw [List.eq_nil_iff_forall_not_mem]
    constructor
    · intro q s hs
      cases c : changesE (ev cs s) b with
      | false => rfl
      | true => exact absurd ((seq_settled h hp).2 ⟨s, hs, c, rfl⟩) (q s)
    · intro q s hs
      obtain ⟨k, k1, k2, -⟩ := (seq_settled h hp).1 hs
      rw [q k k1] at k2
      cases k2
  rw [e1]
  refine or_congr_right ?_
  constructor
  · rintro ⟨m, m1, m2, m3, m4, m5⟩
    rw [hist_len] at m1
    obtain ⟨a1, a2⟩ := h.at (i := m) m1
    rw [m2] at a1
    simp at a1
    obtain ⟨k, rfl⟩ : ∃ k, m = 2 * k := ⟨m / 2, by omega⟩
    rw [ev_inv (by omega)] at m3 m4 m5
    rw [liveE_iff, changes_op] at m3
    refine ⟨k, by omega, m3.1, m5, fun s hs hc => ?_⟩
    rcases Nat.lt_or_ge k s with q | q
    · exfalso
      have : covM (histM cs) (settledM (histM cs) b (2 * lastF cs cs.length)) (ev cs k).serial = true := by
        unfold covM
        rw [List.any_eq_true]
        refine ⟨s, (seq_settled h hp).2 ⟨s, hs, hc, rfl⟩, ?_⟩
        rw [(h.ok k (by omega)).2.1]
        exact (seq_before h (by omega) (by omega)).2 q
      rw [this] at m4
      cases m4
    · exact q
  · rintro ⟨k, k1, k2, k3, k4⟩
    refine ⟨2 * k, by rw [hist_len]; omega, by rw [ev_inv k1]; exact (h.ok k k1).1, ?_, ?_, by rw [ev_inv k1]; exact k3⟩
    · rw [ev_inv k1, opOf_ret h.right (i := 2 * k + 1) (by rw [hist_len]; omega) (by rw [ev_ret k1]; rfl) (by rw [ev_ret k1]; rfl), ev_ret k1, liveE_iff]
      exact ⟨k2, fun _ => (h.ok k k1).2.2.2.1⟩
    · rw [ev_inv k1, ← Bool.not_eq_true]
      unfold covM
      rw [List.any_eq_true]
      rintro ⟨t, t1, t2⟩
      obtain ⟨s, s1, s2, rfl⟩ := (seq_settled h hp).1 t1
      rw [(h.ok k k1).2.1] at t2
      have := (seq_before h k1 (by omega)).1 t2
      have := k4 s s1 s2
      omega
end Go.Proofs
end

section
open Go Go.Am
namespace Go.Proofs
def AlOk (cs : List Evt) (b : Int) (al : List ByteArray) : Prop := ∀ v, v ∈ al ↔ ((∀ s, s < lastF cs cs.length → changesE (ev cs s) b = false) ∧ v = zeroB) ∨ ∃ k, k < cs.length ∧ changesE (ev cs k) b = true ∧ v = valueM (ev cs k) ∧ ∀ s, s < lastF cs cs.length → changesE (ev cs s) b = true → s ≤ k
def NwOk (cs : List Evt) (b : Int) (nw : ByteArray) : Prop := ((∀ s, s < cs.length → changesE (ev cs s) b = false) ∧ nw = zeroB) ∨ ∃ k, k < cs.length ∧ changesE (ev cs k) b = true ∧ nw = valueM (ev cs k) ∧ ∀ s, s < cs.length → changesE (ev cs s) b = true → s ≤ k
theorem lastF_app {cs : List Evt} {x : Evt} : ∀ k, k ≤ cs.length → lastF (cs ++ [x]) k = lastF cs k
  | 0, _ => rfl
  | k + 1, h => by
    simp only [lastF]
    rw [ev_app_lt (by omega), lastF_app k (by omega)]
theorem lastF_snoc {cs : List Evt} {x : Evt} : lastF (cs ++ [x]) (cs ++ [x]).length = if x.kind = 4 then cs.length else lastF cs cs.length := by
  rw [len_snoc]
  simp only [lastF]
  rw [ev_app_eq, lastF_app _ (Nat.le_refl _)]
theorem SeqOk.snoc {cs : List Evt} {x : Evt} (h : SeqOk cs) (hx : x.ret = false ∧ x.serial = cs.length ∧ x.queue = 0 ∧ x.err = 0 ∧ x.rdata = ByteArray.empty ∧ 2 ≤ x.kind ∧ x.kind ≤ 4) : SeqOk (cs ++ [x]) :=
  ⟨fun k hk => by
    rw [len_snoc] at hk
    by_cases c : k < cs.length
    · rw [ev_app_lt c]; exact h.ok k c
    · have : k = cs.length := by omega
      subst this
      rw [ev_app_eq]; exact hx⟩
/-- An operation that is no flush, and changes another block. -/
theorem AlOk.other {cs : List Evt} {x : Evt} {b : Int} {al : List ByteArray} (h : AlOk cs b al) (hk : x.kind ≠ 4) (hc : changesE x b = false) : AlOk (cs ++ [x]) b al := by
  have hp := lastF_le cs cs.length
  intro v
  rw [h v, lastF_snoc, if_neg hk, len_snoc]
  constructor
  · rintro (⟨q1, q2⟩ | ⟨k, k1, k2, k3, k4⟩)
    · exact .inl ⟨fun s hs => by rw [ev_app_lt (by omega)]; exact q1 s hs, q2⟩
    · refine .inr ⟨k, by omega, by rw [ev_app_lt k1]; exact k2, by rw [ev_app_lt k1]; exact k3, fun s hs hcs => ?_⟩
      rw [ev_app_lt (by omega)] at hcs
      exact k4 s hs hcs
  · rintro (⟨q1, q2⟩ | ⟨k, k1, k2, k3, k4⟩)
    · exact .inl ⟨fun s hs => by have := q1 s hs; rwa [ev_app_lt (by omega)] at this, q2⟩
    · have hne : k ≠ cs.length := fun e => by
        subst e
        rw [ev_app_eq, hc] at k2
        cases k2
      rw [ev_app_lt (by omega)] at k2 k3
      exact .inr ⟨k, by omega, k2, k3, fun s hs hcs => k4 s hs (by rw [ev_app_lt (by omega)]; exact hcs)⟩
theorem AlOk.this {cs : List Evt} {x : Evt} {b : Int} {al : List ByteArray} (h : AlOk cs b al) (hk : x.kind ≠ 4) (hc : changesE x b = true) : AlOk (cs ++ [x]) b (al ++ [valueM x]) := by
  have hp := lastF_le cs cs.length
  intro v
  rw [List.mem_append, List.mem_singleton, h v, lastF_snoc, if_neg hk, len_snoc]
  constructor
  · rintro ((⟨q1, q2⟩ | ⟨k, k1, k2, k3, k4⟩) | q)
    · exact .inl ⟨fun s hs => by rw [ev_app_lt (by omega)]; exact q1 s hs, q2⟩
    · refine .inr ⟨k, by omega, by rw [ev_app_lt k1]; exact k2, by rw [ev_app_lt k1]; exact k3, fun s hs hcs => ?_⟩
      rw [ev_app_lt (by omega)] at hcs
      exact k4 s hs hcs
    · refine .inr ⟨cs.length, by omega, by rw [ev_app_eq]; exact hc, by rw [ev_app_eq]; exact q, fun s hs _ => by omega⟩
  · rintro (⟨q1, q2⟩ | ⟨k, k1, k2, k3, k4⟩)
    · exact .inl (.inl ⟨fun s hs => by have := q1 s hs; rwa [ev_app_lt (by omega)] at this, q2⟩)
    · by_cases hne : k = cs.length
      · subst hne
        rw [ev_app_eq] at k3
        exact .inr k3
      · rw [ev_app_lt (by omega)] at k2 k3
        exact .inl (.inr ⟨k, by omega, k2, k3, fun s hs hcs => k4 s hs (by rw [ev_app_lt (by omega)]; exact hcs)⟩)
theorem AlOk.flush {cs : List Evt} {x : Evt} {b : Int} {nw : ByteArray} (h : NwOk cs b nw) (hk : x.kind = 4) : AlOk (cs ++ [x]) b [nw] := by
  have hc : changesE x b = false := by unfold changesE; simp [hk]
  intro v
  rw [List.mem_singleton, lastF_snoc, if_pos hk, len_snoc]
  constructor
  · rintro rfl
    rcases h with ⟨q1, q2⟩ | ⟨k, k1, k2, k3, k4⟩
    · exact .inl ⟨fun s hs => by rw [ev_app_lt hs]; exact q1 s hs, q2⟩
    · exact .inr ⟨k, by omega, by rw [ev_app_lt k1]; exact k2, by rw [ev_app_lt k1]; exact k3, fun s hs hcs => by rw [ev_app_lt hs] at hcs; exact k4 s hs hcs⟩
  · rintro (⟨q1, q2⟩ | ⟨k, k1, k2, k3, k4⟩)
    · rcases h with ⟨p1, p2⟩ | ⟨k, k1, k2, k3, k4⟩
      · rw [q2, p2]
      · have := q1 k k1
        rw [ev_app_lt k1, k2] at this
        cases this
    · have hne : k ≠ cs.length := fun e => by
        subst e
        rw [ev_app_eq, hc] at k2
        cases k2
      rw [ev_app_lt (by omega)] at k2 k3
      rcases h with ⟨p1, p2⟩ | ⟨m, m1, m2, m3, m4⟩
      · rw [p1 k (by omega)] at k2
        cases k2
      · have e1 := m4 k (by omega) k2
        have e2 := k4 m m1 (by rw [ev_app_lt m1]; exact m2)
        have : k = m := by omega
        subst this
        rw [k3, m3]
theorem NwOk.other {cs : List Evt} {x : Evt} {b : Int} {nw : ByteArray} (h : NwOk cs b nw) (hc : changesE x b = false) : NwOk (cs ++ [x]) b nw := by
  unfold NwOk
  rw [len_snoc]
  rcases h with ⟨p1, p2⟩ | ⟨m, m1, m2, m3, m4⟩
  · refine .inl ⟨fun s hs => ?_, p2⟩
    by_cases c : s < cs.length
    · rw [ev_app_lt c]; exact p1 s c
    · have : s = cs.length := by omega
      subst this
      rw [ev_app_eq]; exact hc
  · refine .inr ⟨m, by omega, by rw [ev_app_lt m1]; exact m2, by rw [ev_app_lt m1]; exact m3, fun s hs hcs => ?_⟩
    by_cases c : s < cs.length
    · rw [ev_app_lt c] at hcs; exact m4 s c hcs
    · have : s = cs.length := by omega
      subst this
      rw [ev_app_eq, hc] at hcs
      cases hcs
theorem NwOk.this {cs : List Evt} {x : Evt} {b : Int} (hc : changesE x b = true) : NwOk (cs ++ [x]) b (valueM x) := by
  unfold NwOk
  rw [len_snoc]
  exact .inr ⟨cs.length, by omega, by rw [ev_app_eq]; exact hc, by rw [ev_app_eq], fun s hs _ => by omega⟩
structure SeqS where
  d : DiceM
  cs : List Evt
  a0 : List ByteArray
  a1 : List ByteArray
  n0 : ByteArray
  n1 : ByteArray
structure SInv (s : SeqS) (i : Nat) : Prop where
  seq : SeqOk s.cs
  len : s.cs.length = i
  al0 : AlOk s.cs 0 s.a0
  al1 : AlOk s.cs 1 s.a1
  nw0 : NwOk s.cs 0 s.n0
  nw1 : NwOk s.cs 1 s.n1
  l0 : s.a0.length ≤ i + 1
  l1 : s.a1.length ≤ i + 1
def seqX (i : Nat) (kind block : Int) (data : ByteArray) : Evt := ⟨false, 0, i, kind, block, data, 0, ByteArray.empty⟩
theorem SInv.start (d : DiceM) : SInv ⟨d, [], [zeroB], [zeroB], zeroB, zeroB⟩ 0 := by
  have ha : ∀ b, AlOk [] b [zeroB] := fun b v => by
    rw [List.mem_singleton]
    constructor
    · intro e; exact .inl ⟨fun s hs => absurd hs (Nat.not_lt_zero _), e⟩
    · rintro (q | ⟨k, k1, -⟩)
      · exact q.2
      · exact absurd k1 (Nat.not_lt_zero _)
  have hn : ∀ b, NwOk [] b zeroB := fun b => .inl ⟨fun s hs => absurd hs (Nat.not_lt_zero _), rfl⟩
  exact ⟨⟨fun k hk => absurd hk (Nat.not_lt_zero _)⟩, rfl, ha 0, ha 1, hn 0, hn 1, Nat.le_refl _, Nat.le_refl _⟩
theorem SInv.flush {s : SeqS} {i : Nat} (h : SInv s i) (d : DiceM) : SInv ⟨d, s.cs ++ [seqX i 4 0 ByteArray.empty], [s.n0], [s.n1], s.n0, s.n1⟩ (i + 1) := by
  have hc : ∀ b, changesE (seqX i 4 0 ByteArray.empty) b = false := fun b => by unfold changesE; rfl
  exact ⟨h.seq.snoc ⟨rfl, by rw [h.len]; rfl, rfl, rfl, rfl, by show (2 : Int) ≤ 4; decide, by show (4 : Int) ≤ 4; decide⟩, by rw [len_snoc, h.len], .flush h.nw0 rfl, .flush h.nw1 rfl, h.nw0.other (hc 0), h.nw1.other (hc 1), by simp, by simp⟩
theorem SInv.chg0 {s : SeqS} {i : Nat} (h : SInv s i) (d : DiceM) {kind : Int} {data : ByteArray} (hk : kind = 2 ∨ kind = 3) {v : ByteArray} (hv : valueM (seqX i kind 0 data) = v) : SInv ⟨d, s.cs ++ [seqX i kind 0 data], s.a0 ++ [v], s.a1, v, s.n1⟩ (i + 1) := by
  have hc0 : changesE (seqX i kind 0 data) 0 = true := by
    unfold changesE; rcases hk with rfl | rfl <;> rfl
  have hc1 : changesE (seqX i kind 0 data) 1 = false := by
    unfold changesE; rcases hk with rfl | rfl <;> rfl
  have hk4 : (seqX i kind 0 data).kind ≠ 4 := by
    show kind ≠ 4; omega
  refine ⟨h.seq.snoc ⟨rfl, by rw [h.len]; rfl, rfl, rfl, rfl, by show 2 ≤ kind; omega, by show kind ≤ 4; omega⟩, by rw [len_snoc, h.len], ?_, h.al1.other hk4 hc1, ?_, h.nw1.other hc1, by have := h.l0; simp; omega, by have := h.l1; show s.a1.length ≤ _; omega⟩
  · rw [← hv]; exact h.al0.this hk4 hc0
  · rw [← hv]; exact NwOk.this hc0
theorem SInv.chg1 {s : SeqS} {i : Nat} (h : SInv s i) (d : DiceM) {kind : Int} {data : ByteArray} (hk : kind = 2 ∨ kind = 3) {v : ByteArray} (hv : valueM (seqX i kind 1 data) = v) : SInv ⟨d, s.cs ++ [seqX i kind 1 data], s.a0, s.a1 ++ [v], s.n0, v⟩ (i + 1) := by
  have hc0 : changesE (seqX i kind 1 data) 1 = true := by
    unfold changesE; rcases hk with rfl | rfl <;> rfl
  have hc1 : changesE (seqX i kind 1 data) 0 = false := by
    unfold changesE; rcases hk with rfl | rfl <;> rfl
  have hk4 : (seqX i kind 1 data).kind ≠ 4 := by
    show kind ≠ 4; omega
  refine ⟨h.seq.snoc ⟨rfl, by rw [h.len]; rfl, rfl, rfl, rfl, by show 2 ≤ kind; omega, by show kind ≤ 4; omega⟩, by rw [len_snoc, h.len], h.al0.other hk4 hc1, ?_, h.nw0.other hc1, ?_, by have := h.l0; show s.a0.length ≤ _; omega, by have := h.l1; simp; omega⟩
  · rw [← hv]; exact h.al1.this hk4 hc0
  · rw [← hv]; exact NwOk.this hc0
theorem SInv.law {s : SeqS} {i : Nat} (h : SInv s i) (hi : i ≤ 20) :
    withinM (allowedR (zerosM 2) (histM s.cs) 0) s.a0 = true ∧ withinM s.a0 (allowedR (zerosM 2) (histM s.cs) 0) = true ∧ withinM (allowedR (zerosM 2) (histM s.cs) 1) s.a1 = true ∧ withinM s.a1 (allowedR (zerosM 2) (histM s.cs) 1) = true ∧ checkM 2 (histM s.cs) = 0 := by
  have hz2 : (zerosM 2).length = 2 := rfl
  have hl : (histM s.cs).length ≤ 40 := by rw [hist_len, h.len]; omega
  have hz : sizesM (zerosM 2) (histM s.cs) = 0 := sizes_ok (by omega) (by omega) (by omega) h.seq.right (zeros_size 2)
  have q0 := fun v => seq_allowed (v := v) h.seq hz (b := 0) (by decide) (by omega)
  have q1 := fun v => seq_allowed (v := v) h.seq hz (b := 1) (by decide) (by omega)
  refine ⟨within_iff.2 fun v hv => (h.al0 v).2 ((q0 v).1 hv), within_iff.2 fun v hv => (q0 v).2 ((h.al0 v).1 hv), within_iff.2 fun v hv => (h.al1 v).2 ((q1 v).1 hv), within_iff.2 fun v hv => (q1 v).2 ((h.al1 v).1 hv), ?_⟩
  have := (sizes_range hz).1
  exact this
end Go.Proofs
end

section
open Go Go.Am
namespace Go.Proofs
/-- The objects of the loop: what is allowed lies in rows of its own, or was made by a literal and not yet written on. -/
def seqO (s : SeqS) : Bool → Bool → List O
  | false, false => [.vr s.d.cells, .vr [.isl 1 1 (strG s.a0) true, .isl 1 1 (strG s.a1) true], .vr [.str s.n0, .str s.n1], .arr 41 8 (histM s.cs).length (evG (histM s.cs))]
  | true, false => [.vr s.d.cells, .vr [.sl 4 1 s.a0.length s.a0.length false, .isl 1 1 (strG s.a1) true], .vr [.str s.n0, .str s.n1], .arr 41 8 (histM s.cs).length (evG (histM s.cs)), .arr 9 1 s.a0.length (strG s.a0)]
  | false, true => [.vr s.d.cells, .vr [.isl 1 1 (strG s.a0) true, .sl 4 1 s.a1.length s.a1.length false], .vr [.str s.n0, .str s.n1], .arr 41 8 (histM s.cs).length (evG (histM s.cs)), .arr 9 1 s.a1.length (strG s.a1)]
  | true, true => [.vr s.d.cells, .vr [.sl 4 1 s.a0.length s.a0.length false, .sl 5 1 s.a1.length s.a1.length false], .vr [.str s.n0, .str s.n1], .arr 41 8 (histM s.cs).length (evG (histM s.cs)), .arr 9 1 s.a0.length (strG s.a0), .arr 9 1 s.a1.length (strG s.a1)]
def seqT (s : SeqS) (i : Nat) : Ts := [(8, .c (.int .i64 i)), (3, .c (.ptr 0 0)), (6, .c (.ptr 1 0)), (7, .c (.ptr 2 0)), (5, .c (.sl 3 8 (histM s.cs).length (histM s.cs).length false))]
theorem lenA {a : List ByteArray} {v : ByteArray} (h : a.length = 1) : 1 + 1 = (a ++ [v]).length := by simp; omega
theorem lenT {a : List ByteArray} {v : ByteArray} : a.length + 1 = (a ++ [v]).length := by simp
theorem lenH {h : List Evt} {x y : Evt} : h.length + 2 = (h ++ [x, y]).length := by simp
theorem strsSnoc1 {l : List ByteArray} {x : ByteArray} {t : List C} {i j : Nat} (h : l.length = 1) (hi : i < 1 + 1) (hj : j < 1) : appG (strG l) 1 (flatG 1 (C.str x :: t)) i j = strG (l ++ [x]) i j := by
  have := strsSnoc (l := l) (x := x) (t := t) (i := i) (j := j) (by omega) hj
  rwa [h] at this
theorem ev_snoc2 {l : List Evt} {x y : Evt} {t : List C} {i j : Nat} (hi : i < l.length + 2) (hj : j < 8) : appG (evG l) l.length (flatG 8 (flatE t [x, y])) i j = evG (l ++ [x, y]) i j := by
  have h1 : appG (evG l) l.length (evG [x, y]) i j = evG (l ++ [x, y]) i j := rowG_app rfl j
  rw [← h1]
  simp only [appG]
  split
  · rfl
  · exact flat_ev [x, y] (by simp; omega) hj
structure SeqGood (p : Nat × SeqS × Bool × Bool) : Prop where
  i : p.1 ≤ 20
  inv : SInv p.2.1 p.1
  d : p.2.1.d.ok
  f0 : p.2.2.1 = false → p.2.1.a0.length = 1
  f1 : p.2.2.2 = false → p.2.1.a1.length = 1
set_option maxHeartbeats 20000000 in
theorem durableSequential_spec (l : List Int) : PSpec Try.prog 7 [.c (intsC l)] (.c (.bool true)) := by
  refine PSpec.rm ?_
  refine CSpec.of_vc hΓ Try.func7 rfl 146 0 [.tmp 2] Try.ntmps7 rfl (by rw [Try.results7]) rfl ?_
  conv => whnf
  repeat' ((first | refine Need.auto ?_ | refine Have.mk (fun _h => ?_)); conv => whnf)
  refine CallN.pureA light_body (light_spec l ) ?_
  conv => whnf
  repeat' ((first | refine Need.auto ?_ | refine Have.mk (fun _h => ?_)); conv => whnf)
  by_cases hl : l.length ≤ 300
  · refine Br.no (by rw [decide_eq_true hl]; rfl) ?_
    conv => whnf
    repeat' ((first | refine Need.auto ?_ | refine Have.mk (fun _h => ?_)); conv => whnf)
    refine CallN.autoQ [] roll_body (roll_spec l (by omega)) ?_; conv => whnf
    conv => whnf
    repeat' ((first | refine Need.auto ?_ | refine Have.mk (fun _h => ?_)); conv => whnf)
    have hn2 : PSpec Try.prog 15 [.c (.int .i64 2)] (.c (strsC (zerosM 2))) := new17_spec 2 (by decide) (by decide)
    refine CallN.pureA new17_body hn2 ?_
    conv => whnf
    repeat' ((first | refine Need.auto ?_ | refine Have.mk (fun _h => ?_)); conv => whnf)
    refine Dr.mkE hΓ hMix [4294967296] [] (by kernel_rfl) ?_; conv => whnf
    repeat' ((first | refine Need.auto ?_ | refine Have.mk (fun _h => ?_)); conv => whnf)
    refine Dr.mk hΓ hMix (by kernel_rfl) ?_; conv => whnf
    repeat' ((first | refine Need.auto ?_ | refine Have.mk (fun _h => ?_)); conv => whnf)
    refine Lp.reserve 41 8 (evG []) 5 rfl ?_
    refine Lp.mkK hΓ (ι := Nat × SeqS × Bool × Bool) [4] (fun p => seqT p.2.1 p.1) (fun p => seqO p.2.1 p.2.2.1 p.2.2.2) SeqGood (fun p => 20 - p.1) (0, ⟨⟨l, 0⟩, [], [zeroB], [zeroB], zeroB, zeroB⟩, false, false) ⟨Nat.zero_le _, SInv.start _, ⟨Nat.zero_le _, by show l.length ≤ _; omega⟩, fun _ => rfl, fun _ => rfl⟩ ?_ ?_
    · dsimp only [seqT, seqO]
      refine Mv.mkW ?_ ?_ (Nat.le_of_ble_eq_true rfl) <;> (repeat' (first | exact WA.nil | refine WA.cons rfl ?_ ?_ | exact WB.nil | refine WB.cons ?_ ?_ | exact WT.nil | refine WT.cons ?_ ?_ | exact WH.nil | refine WH.cons ?_ ?_ | exact WR.nil | refine WR.cons rfl ?_ ?_ | refine WO.vr ?_ | exact WO.dead | exact WO.mpS | refine WO.mpA ?_ | refine WO.arrA ?_ | exact WS.u | refine WS.c ?_ | refine WS.a ?_ | refine WS.t ?_ | exact WL.nil | refine WL.cons ?_ ?_ | exact WTL.nil | refine WTL.consC ?_ ?_ | refine WTL.consL ?_ ?_ | exact WC.nils | exact WC.nil rfl | exact WC.nilp | refine WC.fzA | exact WC.ptr rfl (Nat.le_of_ble_eq_true rfl) | exact WC.mpr rfl (Nat.le_of_ble_eq_true rfl) | refine WC.slA | refine WC.intA | refine WC.int ?_ | refine WC.boolA | refine WC.bool ?_ | refine WC.strA | refine WC.str ?_ | exact WC.imm rfl))
      all_goals first
        | (refine WC.isl rfl (fun i hi j hj => ?_) (fun _ => rfl); have h0 : i = 0 := (by omega); have h1 : j = 0 := (by omega); subst h0; subst h1; rfl)
        | (intro i hi; exact absurd hi (by omega))
        | exact WC.str rfl
        | skip
    · rintro ⟨i, s, f0, f1⟩ hg
      have hgi := hg.i
      have hin := hg.inv
      have hd := hg.d
      have hf0 := hg.f0
      have hf1 := hg.f1
      clear hg
      obtain ⟨d, cs, a0, a1, n0, n1⟩ := s
      dsimp only at hgi hin hd hf0 hf1 ⊢
      have hhl : (histM cs).length = 2 * i := by rw [hist_len]; have := hin.len; dsimp only at this; omega
      have hl0 := hin.l0
      have hl1 := hin.l1
      dsimp only at hl0 hl1
      have hb2 : d.step.next 2 = 0 ∨ d.step.next 2 = 1 := by
        have := DiceM.next_range d.step (n := 2) (by omega) (by omega); omega
      have hk3 : d.next 3 = 0 ∨ d.next 3 = 1 ∨ d.next 3 = 2 := by
        have := DiceM.next_range d (n := 3) (by omega) (by omega); omega
      have s3 := next_spec d hd 3
      have s2 := next_spec d.step hd.step 2
      cases f0 <;> cases f1
      · (try have hz0 := hf0 rfl)
        (try have hz1 := hf1 rfl)
        dsimp only [seqT, seqO]
        conv => whnf
        repeat' ((first | refine Need.auto ?_ | refine Have.mk (fun _h => ?_)); conv => whnf)
        refine CallG.keepQ [0] rest_body (rest_spec d hd) (by (repeat' (first | exact WA.nil | refine WA.cons rfl ?_ ?_ | exact WB.nil | refine WB.cons ?_ ?_ | exact WT.nil | refine WT.cons ?_ ?_ | exact WH.nil | refine WH.cons ?_ ?_ | exact WR.nil | refine WR.cons rfl ?_ ?_ | refine WO.vr ?_ | exact WO.dead | exact WO.mpS | refine WO.mpA ?_ | refine WO.arrA ?_ | exact WS.u | refine WS.c ?_ | refine WS.a ?_ | refine WS.t ?_ | exact WL.nil | refine WL.cons ?_ ?_ | exact WTL.nil | refine WTL.consC ?_ ?_ | refine WTL.consL ?_ ?_ | exact WC.nils | exact WC.nil rfl | exact WC.nilp | refine WC.fzA | exact WC.ptr rfl (Nat.le_of_ble_eq_true rfl) | exact WC.mpr rfl (Nat.le_of_ble_eq_true rfl) | refine WC.slA | refine WC.intA | refine WC.int ?_ | refine WC.boolA | refine WC.bool ?_ | refine WC.strA | refine WC.str ?_ | exact WC.imm rfl))) (by (repeat' (first | exact WA.nil | refine WA.cons rfl ?_ ?_ | exact WB.nil | refine WB.cons ?_ ?_ | exact WT.nil | refine WT.cons ?_ ?_ | exact WH.nil | refine WH.cons ?_ ?_ | exact WR.nil | refine WR.cons rfl ?_ ?_ | refine WO.vr ?_ | exact WO.dead | exact WO.mpS | refine WO.mpA ?_ | refine WO.arrA ?_ | exact WS.u | refine WS.c ?_ | refine WS.a ?_ | refine WS.t ?_ | exact WL.nil | refine WL.cons ?_ ?_ | exact WTL.nil | refine WTL.consC ?_ ?_ | refine WTL.consL ?_ ?_ | exact WC.nils | exact WC.nil rfl | exact WC.nilp | refine WC.fzA | exact WC.ptr rfl (Nat.le_of_ble_eq_true rfl) | exact WC.mpr rfl (Nat.le_of_ble_eq_true rfl) | refine WC.slA | refine WC.intA | refine WC.int ?_ | refine WC.boolA | refine WC.bool ?_ | refine WC.strA | refine WC.str ?_ | exact WC.imm rfl))) ?_
        conv => whnf
        repeat' ((first | refine Need.auto ?_ | refine Have.mk (fun _h => ?_)); conv => whnf)
        refine Br.mk (fun hgo => ?_) (fun hgo => ?_)
        · have hi20 : i < 20 := by
            cases c : decide ((i : Int) < 20) with
            | true => have := of_decide_eq_true c; omega
            | false => rw [c] at hgo; cases hgo
          conv => whnf
          repeat' ((first | refine Need.auto ?_ | refine Have.mk (fun _h => ?_)); conv => whnf)
          rcases hk3 with q3 | q3 | q3
          · rw [q3] at s3
            refine CallN.autoQ [0] next_body s3 ?_
            conv => whnf
            repeat' ((first | refine Need.auto ?_ | refine Have.mk (fun _h => ?_)); conv => whnf)
            refine Br.yes (by decide) ?_
            conv => whnf
            repeat' ((first | refine Need.auto ?_ | refine Have.mk (fun _h => ?_)); conv => whnf)
            rcases hb2 with q2 | q2
            · rw [q2] at s2
              refine CallN.autoQ [0] next_body s2 ?_
              conv => whnf
              repeat' ((first | refine Need.auto ?_ | refine Have.mk (fun _h => ?_)); conv => whnf)
              refine Br.yes (by decide) ?_
              conv => whnf
              repeat' ((first | refine Need.auto ?_ | refine Have.mk (fun _h => ?_)); conv => whnf)
              refine CallN.autoQ [0] next_body (next_spec d.step.step hd.step.step 4) ?_; conv => whnf
              conv => whnf
              repeat' ((first | refine Need.auto ?_ | refine Have.mk (fun _h => ?_)); conv => whnf)
              refine CallN.pureA value_body (value_spec _ ) ?_
              conv => whnf
              repeat' ((first | refine Need.auto ?_ | refine Have.mk (fun _h => ?_)); conv => whnf)
              refine Dr.mkE hΓ hMix [] [(0, 8)] (by kernel_rfl) ?_; conv => whnf
              repeat' ((first | refine Need.auto ?_ | refine Have.mk (fun _h => ?_)); conv => whnf)
              refine Dr.mk hΓ hMix (by kernel_rfl) ?_; conv => whnf
              repeat' ((first | refine Need.auto ?_ | refine Have.mk (fun _h => ?_)); conv => whnf)
              refine CallP.auto returnedE_body (returnedE_spec (seqX i 2 0 (valueS (IntKind.i64.wrap (1 + d.step.step.next 4)))) ) ?_
              conv => whnf
              repeat' ((first | refine Need.auto ?_ | refine Have.mk (fun _h => ?_)); conv => whnf)
              refine ⟨(i + 1, ⟨d.step.step.step, cs ++ [(seqX i 2 0 (valueS (IntKind.i64.wrap (1 + d.step.step.next 4))))], a0 ++ [valueS (IntKind.i64.wrap (1 + d.step.step.next 4))], a1, valueS (IntKind.i64.wrap (1 + d.step.step.next 4)), n1⟩, true, false), ⟨by show i + 1 ≤ 20; omega, (hin.chg0 _ (.inl rfl) rfl), hd.step.step.step, fun q => by first | (cases q; done) | exact hf0 q, fun q => by first | (cases q; done) | exact hf1 q⟩, by show 20 - (i + 1) < 20 - i; omega, ?_⟩
              dsimp only [seqT, seqO]
              rw [hist_snoc]
              refine Mv.renW [0,1,2,3,6] (by decide) (fun q hq => absurd hq (Nat.not_lt_zero _)) (Nat.zero_le _) ?_ ?_ <;> (repeat' (first | exact WA.nil | refine WA.cons rfl ?_ ?_ | exact WB.nil | refine WB.cons ?_ ?_ | exact WT.nil | refine WT.cons ?_ ?_ | exact WH.nil | refine WH.cons ?_ ?_ | exact WR.nil | refine WR.cons rfl ?_ ?_ | refine WO.vr ?_ | exact WO.dead | exact WO.mpS | refine WO.mpA ?_ | refine WO.arrA ?_ | exact WS.u | refine WS.c ?_ | refine WS.a ?_ | refine WS.t ?_ | exact WL.nil | refine WL.cons ?_ ?_ | exact WTL.nil | refine WTL.consC ?_ ?_ | refine WTL.consL ?_ ?_ | exact WC.nils | exact WC.nil rfl | exact WC.nilp | refine WC.fzA | exact WC.ptr rfl (Nat.le_of_ble_eq_true rfl) | exact WC.mpr rfl (Nat.le_of_ble_eq_true rfl) | refine WC.slA | refine WC.intA | refine WC.int ?_ | refine WC.boolA | refine WC.bool ?_ | refine WC.strA | refine WC.str ?_ | exact WC.imm rfl))
              all_goals first
                | exact WC.sl rfl (Nat.le_of_ble_eq_true rfl) (lenA (by assumption)) (lenA (by assumption)) (fun q => by cases q)
                | exact WC.sl rfl (Nat.le_of_ble_eq_true rfl) lenT lenT (fun q => by cases q)
                | exact WC.sl rfl (Nat.le_of_ble_eq_true rfl) rfl rfl (fun q => by cases q)
                | exact WC.sl rfl (Nat.le_of_ble_eq_true rfl) lenH lenH (fun q => by cases q)
                | (refine WO.arr lenH ?_; intro q hq j hj; exact WC.eq (ev_snoc2 (x := (seqX i 2 0 (valueS (IntKind.i64.wrap (1 + d.step.step.next 4))))) (y := retE (seqX i 2 0 (valueS (IntKind.i64.wrap (1 + d.step.step.next 4))))) hq hj) (evCell_imm _ _))
                | (refine WO.arr (lenA (by assumption)) ?_; intro q hq j hj; exact WC.eq (strsSnoc1 (by assumption) hq hj) rfl)
                | (refine WO.arr lenT ?_; intro q hq j hj; exact WC.eq (strsSnoc hq hj) rfl)
                | (intro q hq j hj; exact WC.eq (ev_snoc2 (x := (seqX i 2 0 (valueS (IntKind.i64.wrap (1 + d.step.step.next 4))))) (y := retE (seqX i 2 0 (valueS (IntKind.i64.wrap (1 + d.step.step.next 4))))) hq hj) (evCell_imm _ _))
                | (intro q hq j hj; exact WC.eq (strsSnoc1 (by assumption) hq hj) rfl)
                | (intro q hq j hj; exact WC.eq (strsSnoc hq hj) rfl)
                | (intro q hq j hj; exact WC.eq (strsOne hq hj) rfl)
                | (intro q _ j _; exact WC.imm rfl)
                | skip
            · rw [q2] at s2
              refine CallN.autoQ [0] next_body s2 ?_
              conv => whnf
              repeat' ((first | refine Need.auto ?_ | refine Have.mk (fun _h => ?_)); conv => whnf)
              refine Br.yes (by decide) ?_
              conv => whnf
              repeat' ((first | refine Need.auto ?_ | refine Have.mk (fun _h => ?_)); conv => whnf)
              refine CallN.autoQ [0] next_body (next_spec d.step.step hd.step.step 4) ?_; conv => whnf
              conv => whnf
              repeat' ((first | refine Need.auto ?_ | refine Have.mk (fun _h => ?_)); conv => whnf)
              refine CallN.pureA value_body (value_spec _ ) ?_
              conv => whnf
              repeat' ((first | refine Need.auto ?_ | refine Have.mk (fun _h => ?_)); conv => whnf)
              refine Dr.mkE hΓ hMix [] [(0, 8)] (by kernel_rfl) ?_; conv => whnf
              repeat' ((first | refine Need.auto ?_ | refine Have.mk (fun _h => ?_)); conv => whnf)
              refine Dr.mk hΓ hMix (by kernel_rfl) ?_; conv => whnf
              repeat' ((first | refine Need.auto ?_ | refine Have.mk (fun _h => ?_)); conv => whnf)
              refine CallP.auto returnedE_body (returnedE_spec (seqX i 2 1 (valueS (IntKind.i64.wrap (1 + d.step.step.next 4)))) ) ?_
              conv => whnf
              repeat' ((first | refine Need.auto ?_ | refine Have.mk (fun _h => ?_)); conv => whnf)
              refine ⟨(i + 1, ⟨d.step.step.step, cs ++ [(seqX i 2 1 (valueS (IntKind.i64.wrap (1 + d.step.step.next 4))))], a0, a1 ++ [valueS (IntKind.i64.wrap (1 + d.step.step.next 4))], n0, valueS (IntKind.i64.wrap (1 + d.step.step.next 4))⟩, false, true), ⟨by show i + 1 ≤ 20; omega, (hin.chg1 _ (.inl rfl) rfl), hd.step.step.step, fun q => by first | (cases q; done) | exact hf0 q, fun q => by first | (cases q; done) | exact hf1 q⟩, by show 20 - (i + 1) < 20 - i; omega, ?_⟩
              dsimp only [seqT, seqO]
              rw [hist_snoc]
              refine Mv.renW [0,1,2,3,6] (by decide) (fun q hq => absurd hq (Nat.not_lt_zero _)) (Nat.zero_le _) ?_ ?_ <;> (repeat' (first | exact WA.nil | refine WA.cons rfl ?_ ?_ | exact WB.nil | refine WB.cons ?_ ?_ | exact WT.nil | refine WT.cons ?_ ?_ | exact WH.nil | refine WH.cons ?_ ?_ | exact WR.nil | refine WR.cons rfl ?_ ?_ | refine WO.vr ?_ | exact WO.dead | exact WO.mpS | refine WO.mpA ?_ | refine WO.arrA ?_ | exact WS.u | refine WS.c ?_ | refine WS.a ?_ | refine WS.t ?_ | exact WL.nil | refine WL.cons ?_ ?_ | exact WTL.nil | refine WTL.consC ?_ ?_ | refine WTL.consL ?_ ?_ | exact WC.nils | exact WC.nil rfl | exact WC.nilp | refine WC.fzA | exact WC.ptr rfl (Nat.le_of_ble_eq_true rfl) | exact WC.mpr rfl (Nat.le_of_ble_eq_true rfl) | refine WC.slA | refine WC.intA | refine WC.int ?_ | refine WC.boolA | refine WC.bool ?_ | refine WC.strA | refine WC.str ?_ | exact WC.imm rfl))
              all_goals first
                | exact WC.sl rfl (Nat.le_of_ble_eq_true rfl) (lenA (by assumption)) (lenA (by assumption)) (fun q => by cases q)
                | exact WC.sl rfl (Nat.le_of_ble_eq_true rfl) lenT lenT (fun q => by cases q)
                | exact WC.sl rfl (Nat.le_of_ble_eq_true rfl) rfl rfl (fun q => by cases q)
                | exact WC.sl rfl (Nat.le_of_ble_eq_true rfl) lenH lenH (fun q => by cases q)
                | (refine WO.arr lenH ?_; intro q hq j hj; exact WC.eq (ev_snoc2 (x := (seqX i 2 1 (valueS (IntKind.i64.wrap (1 + d.step.step.next 4))))) (y := retE (seqX i 2 1 (valueS (IntKind.i64.wrap (1 + d.step.step.next 4))))) hq hj) (evCell_imm _ _))
                | (refine WO.arr (lenA (by assumption)) ?_; intro q hq j hj; exact WC.eq (strsSnoc1 (by assumption) hq hj) rfl)
                | (refine WO.arr lenT ?_; intro q hq j hj; exact WC.eq (strsSnoc hq hj) rfl)
                | (intro q hq j hj; exact WC.eq (ev_snoc2 (x := (seqX i 2 1 (valueS (IntKind.i64.wrap (1 + d.step.step.next 4))))) (y := retE (seqX i 2 1 (valueS (IntKind.i64.wrap (1 + d.step.step.next 4))))) hq hj) (evCell_imm _ _))
                | (intro q hq j hj; exact WC.eq (strsSnoc1 (by assumption) hq hj) rfl)
                | (intro q hq j hj; exact WC.eq (strsSnoc hq hj) rfl)
                | (intro q hq j hj; exact WC.eq (strsOne hq hj) rfl)
                | (intro q _ j _; exact WC.imm rfl)
                | skip
          · rw [q3] at s3
            refine CallN.autoQ [0] next_body s3 ?_
            conv => whnf
            repeat' ((first | refine Need.auto ?_ | refine Have.mk (fun _h => ?_)); conv => whnf)
            refine Br.yes (by decide) ?_
            conv => whnf
            repeat' ((first | refine Need.auto ?_ | refine Have.mk (fun _h => ?_)); conv => whnf)
            rcases hb2 with q2 | q2
            · rw [q2] at s2
              refine CallN.autoQ [0] next_body s2 ?_
              conv => whnf
              repeat' ((first | refine Need.auto ?_ | refine Have.mk (fun _h => ?_)); conv => whnf)
              refine Br.no (by decide) ?_
              conv => whnf
              repeat' ((first | refine Need.auto ?_ | refine Have.mk (fun _h => ?_)); conv => whnf)
              refine Br.yes (by decide) ?_
              conv => whnf
              repeat' ((first | refine Need.auto ?_ | refine Have.mk (fun _h => ?_)); conv => whnf)
              refine Dr.mkE hΓ hMix [] [(0, 8)] (by kernel_rfl) ?_; conv => whnf
              repeat' ((first | refine Need.auto ?_ | refine Have.mk (fun _h => ?_)); conv => whnf)
              refine Dr.mk hΓ hMix (by kernel_rfl) ?_; conv => whnf
              repeat' ((first | refine Need.auto ?_ | refine Have.mk (fun _h => ?_)); conv => whnf)
              refine CallP.auto returnedE_body (returnedE_spec (seqX i 3 0 ByteArray.empty) ) ?_
              conv => whnf
              repeat' ((first | refine Need.auto ?_ | refine Have.mk (fun _h => ?_)); conv => whnf)
              refine ⟨(i + 1, ⟨d.step.step, cs ++ [(seqX i 3 0 ByteArray.empty)], a0 ++ [zeroB], a1, zeroB, n1⟩, true, false), ⟨by show i + 1 ≤ 20; omega, (hin.chg0 _ (.inr rfl) rfl), hd.step.step, fun q => by first | (cases q; done) | exact hf0 q, fun q => by first | (cases q; done) | exact hf1 q⟩, by show 20 - (i + 1) < 20 - i; omega, ?_⟩
              dsimp only [seqT, seqO]
              rw [hist_snoc]
              refine Mv.renW [0,1,2,3,6] (by decide) (fun q hq => absurd hq (Nat.not_lt_zero _)) (Nat.zero_le _) ?_ ?_ <;> (repeat' (first | exact WA.nil | refine WA.cons rfl ?_ ?_ | exact WB.nil | refine WB.cons ?_ ?_ | exact WT.nil | refine WT.cons ?_ ?_ | exact WH.nil | refine WH.cons ?_ ?_ | exact WR.nil | refine WR.cons rfl ?_ ?_ | refine WO.vr ?_ | exact WO.dead | exact WO.mpS | refine WO.mpA ?_ | refine WO.arrA ?_ | exact WS.u | refine WS.c ?_ | refine WS.a ?_ | refine WS.t ?_ | exact WL.nil | refine WL.cons ?_ ?_ | exact WTL.nil | refine WTL.consC ?_ ?_ | refine WTL.consL ?_ ?_ | exact WC.nils | exact WC.nil rfl | exact WC.nilp | refine WC.fzA | exact WC.ptr rfl (Nat.le_of_ble_eq_true rfl) | exact WC.mpr rfl (Nat.le_of_ble_eq_true rfl) | refine WC.slA | refine WC.intA | refine WC.int ?_ | refine WC.boolA | refine WC.bool ?_ | refine WC.strA | refine WC.str ?_ | exact WC.imm rfl))
              all_goals first
                | exact WC.sl rfl (Nat.le_of_ble_eq_true rfl) (lenA (by assumption)) (lenA (by assumption)) (fun q => by cases q)
                | exact WC.sl rfl (Nat.le_of_ble_eq_true rfl) lenT lenT (fun q => by cases q)
                | exact WC.sl rfl (Nat.le_of_ble_eq_true rfl) rfl rfl (fun q => by cases q)
                | exact WC.sl rfl (Nat.le_of_ble_eq_true rfl) lenH lenH (fun q => by cases q)
                | (refine WO.arr lenH ?_; intro q hq j hj; exact WC.eq (ev_snoc2 (x := (seqX i 3 0 ByteArray.empty)) (y := retE (seqX i 3 0 ByteArray.empty)) hq hj) (evCell_imm _ _))
                | (refine WO.arr (lenA (by assumption)) ?_; intro q hq j hj; exact WC.eq (strsSnoc1 (by assumption) hq hj) rfl)
                | (refine WO.arr lenT ?_; intro q hq j hj; exact WC.eq (strsSnoc hq hj) rfl)
                | (intro q hq j hj; exact WC.eq (ev_snoc2 (x := (seqX i 3 0 ByteArray.empty)) (y := retE (seqX i 3 0 ByteArray.empty)) hq hj) (evCell_imm _ _))
                | (intro q hq j hj; exact WC.eq (strsSnoc1 (by assumption) hq hj) rfl)
                | (intro q hq j hj; exact WC.eq (strsSnoc hq hj) rfl)
                | (intro q hq j hj; exact WC.eq (strsOne hq hj) rfl)
                | (intro q _ j _; exact WC.imm rfl)
                | skip
            · rw [q2] at s2
              refine CallN.autoQ [0] next_body s2 ?_
              conv => whnf
              repeat' ((first | refine Need.auto ?_ | refine Have.mk (fun _h => ?_)); conv => whnf)
              refine Br.no (by decide) ?_
              conv => whnf
              repeat' ((first | refine Need.auto ?_ | refine Have.mk (fun _h => ?_)); conv => whnf)
              refine Br.yes (by decide) ?_
              conv => whnf
              repeat' ((first | refine Need.auto ?_ | refine Have.mk (fun _h => ?_)); conv => whnf)
              refine Dr.mkE hΓ hMix [] [(0, 8)] (by kernel_rfl) ?_; conv => whnf
              repeat' ((first | refine Need.auto ?_ | refine Have.mk (fun _h => ?_)); conv => whnf)
              refine Dr.mk hΓ hMix (by kernel_rfl) ?_; conv => whnf
              repeat' ((first | refine Need.auto ?_ | refine Have.mk (fun _h => ?_)); conv => whnf)
              refine CallP.auto returnedE_body (returnedE_spec (seqX i 3 1 ByteArray.empty) ) ?_
              conv => whnf
              repeat' ((first | refine Need.auto ?_ | refine Have.mk (fun _h => ?_)); conv => whnf)
              refine ⟨(i + 1, ⟨d.step.step, cs ++ [(seqX i 3 1 ByteArray.empty)], a0, a1 ++ [zeroB], n0, zeroB⟩, false, true), ⟨by show i + 1 ≤ 20; omega, (hin.chg1 _ (.inr rfl) rfl), hd.step.step, fun q => by first | (cases q; done) | exact hf0 q, fun q => by first | (cases q; done) | exact hf1 q⟩, by show 20 - (i + 1) < 20 - i; omega, ?_⟩
              dsimp only [seqT, seqO]
              rw [hist_snoc]
              refine Mv.renW [0,1,2,3,6] (by decide) (fun q hq => absurd hq (Nat.not_lt_zero _)) (Nat.zero_le _) ?_ ?_ <;> (repeat' (first | exact WA.nil | refine WA.cons rfl ?_ ?_ | exact WB.nil | refine WB.cons ?_ ?_ | exact WT.nil | refine WT.cons ?_ ?_ | exact WH.nil | refine WH.cons ?_ ?_ | exact WR.nil | refine WR.cons rfl ?_ ?_ | refine WO.vr ?_ | exact WO.dead | exact WO.mpS | refine WO.mpA ?_ | refine WO.arrA ?_ | exact WS.u | refine WS.c ?_ | refine WS.a ?_ | refine WS.t ?_ | exact WL.nil | refine WL.cons ?_ ?_ | exact WTL.nil | refine WTL.consC ?_ ?_ | refine WTL.consL ?_ ?_ | exact WC.nils | exact WC.nil rfl | exact WC.nilp | refine WC.fzA | exact WC.ptr rfl (Nat.le_of_ble_eq_true rfl) | exact WC.mpr rfl (Nat.le_of_ble_eq_true rfl) | refine WC.slA | refine WC.intA | refine WC.int ?_ | refine WC.boolA | refine WC.bool ?_ | refine WC.strA | refine WC.str ?_ | exact WC.imm rfl))
              all_goals first
                | exact WC.sl rfl (Nat.le_of_ble_eq_true rfl) (lenA (by assumption)) (lenA (by assumption)) (fun q => by cases q)
                | exact WC.sl rfl (Nat.le_of_ble_eq_true rfl) lenT lenT (fun q => by cases q)
                | exact WC.sl rfl (Nat.le_of_ble_eq_true rfl) rfl rfl (fun q => by cases q)
                | exact WC.sl rfl (Nat.le_of_ble_eq_true rfl) lenH lenH (fun q => by cases q)
                | (refine WO.arr lenH ?_; intro q hq j hj; exact WC.eq (ev_snoc2 (x := (seqX i 3 1 ByteArray.empty)) (y := retE (seqX i 3 1 ByteArray.empty)) hq hj) (evCell_imm _ _))
                | (refine WO.arr (lenA (by assumption)) ?_; intro q hq j hj; exact WC.eq (strsSnoc1 (by assumption) hq hj) rfl)
                | (refine WO.arr lenT ?_; intro q hq j hj; exact WC.eq (strsSnoc hq hj) rfl)
                | (intro q hq j hj; exact WC.eq (ev_snoc2 (x := (seqX i 3 1 ByteArray.empty)) (y := retE (seqX i 3 1 ByteArray.empty)) hq hj) (evCell_imm _ _))
                | (intro q hq j hj; exact WC.eq (strsSnoc1 (by assumption) hq hj) rfl)
                | (intro q hq j hj; exact WC.eq (strsSnoc hq hj) rfl)
                | (intro q hq j hj; exact WC.eq (strsOne hq hj) rfl)
                | (intro q _ j _; exact WC.imm rfl)
                | skip
          · rw [q3] at s3
            refine CallN.autoQ [0] next_body s3 ?_
            conv => whnf
            repeat' ((first | refine Need.auto ?_ | refine Have.mk (fun _h => ?_)); conv => whnf)
            refine Br.no (by decide) ?_
            conv => whnf
            repeat' ((first | refine Need.auto ?_ | refine Have.mk (fun _h => ?_)); conv => whnf)
            refine Br.no (by decide) ?_
            conv => whnf
            repeat' ((first | refine Need.auto ?_ | refine Have.mk (fun _h => ?_)); conv => whnf)
            refine Br.no (by decide) ?_
            conv => whnf
            repeat' ((first | refine Need.auto ?_ | refine Have.mk (fun _h => ?_)); conv => whnf)
            refine Dr.mk hΓ hMix (by kernel_rfl) ?_; conv => whnf
            repeat' ((first | refine Need.auto ?_ | refine Have.mk (fun _h => ?_)); conv => whnf)
            refine CallP.auto returnedE_body (returnedE_spec (seqX i 4 0 ByteArray.empty) ) ?_
            conv => whnf
            repeat' ((first | refine Need.auto ?_ | refine Have.mk (fun _h => ?_)); conv => whnf)
            refine ⟨(i + 1, ⟨d.step, cs ++ [(seqX i 4 0 ByteArray.empty)], [n0], [n1], n0, n1⟩, true, true), ⟨by show i + 1 ≤ 20; omega, (hin.flush _), hd.step, fun q => by first | (cases q; done) | exact hf0 q, fun q => by first | (cases q; done) | exact hf1 q⟩, by show 20 - (i + 1) < 20 - i; omega, ?_⟩
            dsimp only [seqT, seqO]
            rw [hist_snoc]
            refine Mv.renW [0,1,2,3,5,6] (by decide) (fun q hq => absurd hq (Nat.not_lt_zero _)) (Nat.zero_le _) ?_ ?_ <;> (repeat' (first | exact WA.nil | refine WA.cons rfl ?_ ?_ | exact WB.nil | refine WB.cons ?_ ?_ | exact WT.nil | refine WT.cons ?_ ?_ | exact WH.nil | refine WH.cons ?_ ?_ | exact WR.nil | refine WR.cons rfl ?_ ?_ | refine WO.vr ?_ | exact WO.dead | exact WO.mpS | refine WO.mpA ?_ | refine WO.arrA ?_ | exact WS.u | refine WS.c ?_ | refine WS.a ?_ | refine WS.t ?_ | exact WL.nil | refine WL.cons ?_ ?_ | exact WTL.nil | refine WTL.consC ?_ ?_ | refine WTL.consL ?_ ?_ | exact WC.nils | exact WC.nil rfl | exact WC.nilp | refine WC.fzA | exact WC.ptr rfl (Nat.le_of_ble_eq_true rfl) | exact WC.mpr rfl (Nat.le_of_ble_eq_true rfl) | refine WC.slA | refine WC.intA | refine WC.int ?_ | refine WC.boolA | refine WC.bool ?_ | refine WC.strA | refine WC.str ?_ | exact WC.imm rfl))
            all_goals first
              | exact WC.sl rfl (Nat.le_of_ble_eq_true rfl) (lenA (by assumption)) (lenA (by assumption)) (fun q => by cases q)
              | exact WC.sl rfl (Nat.le_of_ble_eq_true rfl) lenT lenT (fun q => by cases q)
              | exact WC.sl rfl (Nat.le_of_ble_eq_true rfl) rfl rfl (fun q => by cases q)
              | exact WC.sl rfl (Nat.le_of_ble_eq_true rfl) lenH lenH (fun q => by cases q)
              | (refine WO.arr lenH ?_; intro q hq j hj; exact WC.eq (ev_snoc2 (x := (seqX i 4 0 ByteArray.empty)) (y := retE (seqX i 4 0 ByteArray.empty)) hq hj) (evCell_imm _ _))
              | (refine WO.arr (lenA (by assumption)) ?_; intro q hq j hj; exact WC.eq (strsSnoc1 (by assumption) hq hj) rfl)
              | (refine WO.arr lenT ?_; intro q hq j hj; exact WC.eq (strsSnoc hq hj) rfl)
              | (intro q hq j hj; exact WC.eq (ev_snoc2 (x := (seqX i 4 0 ByteArray.empty)) (y := retE (seqX i 4 0 ByteArray.empty)) hq hj) (evCell_imm _ _))
              | (intro q hq j hj; exact WC.eq (strsSnoc1 (by assumption) hq hj) rfl)
              | (intro q hq j hj; exact WC.eq (strsSnoc hq hj) rfl)
              | (intro q hq j hj; exact WC.eq (strsOne hq hj) rfl)
              | (intro q _ j _; exact WC.imm rfl)
              | skip
        · conv => whnf
          repeat' ((first | refine Need.auto ?_ | refine Have.mk (fun _h => ?_)); conv => whnf)
          obtain ⟨w1, w2, w3, w4, w5⟩ := hin.law hgi
          dsimp only at w1 w2 w3 w4 w5
          refine Lp.mkK hΓ (ι := Nat) [4] (fun b => [(11, .c (.int .i64 b)), (5, .c (evC (histM cs))), (6, .c (.ptr 1 0))]) (fun _ => [.vr d.cells, .vr [strsC a0, strsC a1]]) (fun b => b ≤ 2) (fun b => 2 - b) 0 (Nat.zero_le _) ((Mv.fz 3 rfl (Nat.zero_le _) (fun _ _ _ _ => evCell_imm _ _)).trans (Mv.mkW ?_ ?_ (Nat.le_of_ble_eq_true rfl))) ?_
          · (repeat' (first | exact WA.nil | refine WA.cons rfl ?_ ?_ | exact WB.nil | refine WB.cons ?_ ?_ | exact WT.nil | refine WT.cons ?_ ?_ | exact WH.nil | refine WH.cons ?_ ?_ | exact WR.nil | refine WR.cons rfl ?_ ?_ | refine WO.vr ?_ | exact WO.dead | exact WO.mpS | refine WO.mpA ?_ | refine WO.arrA ?_ | exact WS.u | refine WS.c ?_ | refine WS.a ?_ | refine WS.t ?_ | exact WL.nil | refine WL.cons ?_ ?_ | exact WTL.nil | refine WTL.consC ?_ ?_ | refine WTL.consL ?_ ?_ | exact WC.nils | exact WC.nil rfl | exact WC.nilp | refine WC.fzA | exact WC.ptr rfl (Nat.le_of_ble_eq_true rfl) | exact WC.mpr rfl (Nat.le_of_ble_eq_true rfl) | refine WC.slA | refine WC.intA | refine WC.int ?_ | refine WC.boolA | refine WC.bool ?_ | refine WC.strA | refine WC.str ?_ | exact WC.imm rfl))
            all_goals first
              | exact WC.isl (by assumption) (fun _ _ _ _ => rfl) (fun q => by cases q)
              | exact WC.isl (by symm; assumption) (fun _ _ _ _ => rfl) (fun q => by cases q)
              | (rw [fzC_sl rfl]; exact WC.isl rfl (fun _ _ _ _ => rfl) (fun q => by cases q))
              | (rw [show ∀ n g, fzC 3 n g (C.sl 4 1 a0.length a0.length false) = C.sl 4 1 a0.length a0.length false from fun _ _ => rfl, fzC_sl rfl]; exact WC.isl rfl (fun _ _ _ _ => rfl) (fun q => by cases q))
              | skip
          · (repeat' (first | exact WA.nil | refine WA.cons rfl ?_ ?_ | exact WB.nil | refine WB.cons ?_ ?_ | exact WT.nil | refine WT.cons ?_ ?_ | exact WH.nil | refine WH.cons ?_ ?_ | exact WR.nil | refine WR.cons rfl ?_ ?_ | refine WO.vr ?_ | exact WO.dead | exact WO.mpS | refine WO.mpA ?_ | refine WO.arrA ?_ | exact WS.u | refine WS.c ?_ | refine WS.a ?_ | refine WS.t ?_ | exact WL.nil | refine WL.cons ?_ ?_ | exact WTL.nil | refine WTL.consC ?_ ?_ | refine WTL.consL ?_ ?_ | exact WC.nils | exact WC.nil rfl | exact WC.nilp | refine WC.fzA | exact WC.ptr rfl (Nat.le_of_ble_eq_true rfl) | exact WC.mpr rfl (Nat.le_of_ble_eq_true rfl) | refine WC.slA | refine WC.intA | refine WC.int ?_ | refine WC.boolA | refine WC.bool ?_ | refine WC.strA | refine WC.str ?_ | exact WC.imm rfl))
            all_goals (rw [fzC_sl rfl]; exact WC.isl rfl (fun _ _ _ _ => rfl) (fun q => by cases q))
          · intro b hb
            rcases (by omega : b = 0 ∨ b = 1 ∨ b = 2) with rfl | rfl | rfl
            · conv => whnf
              repeat' ((first | refine Need.auto ?_ | refine Have.mk (fun _h => ?_)); conv => whnf)
              refine Br.yes (by decide) ?_
              conv => whnf
              repeat' ((first | refine Need.auto ?_ | refine Have.mk (fun _h => ?_)); conv => whnf)
              refine CallN.pureA allowed_body (allowed_spec (zerosM 2) (histM cs) 0 (by omega) ) ?_
              conv => whnf
              repeat' ((first | refine Need.auto ?_ | refine Have.mk (fun _h => ?_)); conv => whnf)
              rw [allowed_eq]
              refine CallN.pureA within_body (within_spec (allowedR (zerosM 2) (histM cs) 0) a0 ) ?_
              conv => whnf
              repeat' ((first | refine Need.auto ?_ | refine Have.mk (fun _h => ?_)); conv => whnf)
              refine CallG.auto within_body (fun _ => within_spec a0 (allowedR (zerosM 2) (histM cs) 0) ) ?_
              conv => whnf
              repeat' ((first | refine Need.auto ?_ | refine Have.mk (fun _h => ?_)); conv => whnf)
              rw [w1, w2]
              refine Br.no rfl ?_
              conv => whnf
              repeat' ((first | refine Need.auto ?_ | refine Have.mk (fun _h => ?_)); conv => whnf)
              refine ⟨1, by omega, by omega, ?_⟩
              refine Mv.mkW ?_ ?_ (Nat.le_of_ble_eq_true rfl) <;> (repeat' (first | exact WA.nil | refine WA.cons rfl ?_ ?_ | exact WB.nil | refine WB.cons ?_ ?_ | exact WT.nil | refine WT.cons ?_ ?_ | exact WH.nil | refine WH.cons ?_ ?_ | exact WR.nil | refine WR.cons rfl ?_ ?_ | refine WO.vr ?_ | exact WO.dead | exact WO.mpS | refine WO.mpA ?_ | refine WO.arrA ?_ | exact WS.u | refine WS.c ?_ | refine WS.a ?_ | refine WS.t ?_ | exact WL.nil | refine WL.cons ?_ ?_ | exact WTL.nil | refine WTL.consC ?_ ?_ | refine WTL.consL ?_ ?_ | exact WC.nils | exact WC.nil rfl | exact WC.nilp | refine WC.fzA | exact WC.ptr rfl (Nat.le_of_ble_eq_true rfl) | exact WC.mpr rfl (Nat.le_of_ble_eq_true rfl) | refine WC.slA | refine WC.intA | refine WC.int ?_ | refine WC.boolA | refine WC.bool ?_ | refine WC.strA | refine WC.str ?_ | exact WC.imm rfl))
            · conv => whnf
              repeat' ((first | refine Need.auto ?_ | refine Have.mk (fun _h => ?_)); conv => whnf)
              refine Br.yes (by decide) ?_
              conv => whnf
              repeat' ((first | refine Need.auto ?_ | refine Have.mk (fun _h => ?_)); conv => whnf)
              refine CallN.pureA allowed_body (allowed_spec (zerosM 2) (histM cs) 1 (by omega) ) ?_
              conv => whnf
              repeat' ((first | refine Need.auto ?_ | refine Have.mk (fun _h => ?_)); conv => whnf)
              rw [allowed_eq]
              refine CallN.pureA within_body (within_spec (allowedR (zerosM 2) (histM cs) 1) a1 ) ?_
              conv => whnf
              repeat' ((first | refine Need.auto ?_ | refine Have.mk (fun _h => ?_)); conv => whnf)
              refine CallG.auto within_body (fun _ => within_spec a1 (allowedR (zerosM 2) (histM cs) 1) ) ?_
              conv => whnf
              repeat' ((first | refine Need.auto ?_ | refine Have.mk (fun _h => ?_)); conv => whnf)
              rw [w3, w4]
              refine Br.no rfl ?_
              conv => whnf
              repeat' ((first | refine Need.auto ?_ | refine Have.mk (fun _h => ?_)); conv => whnf)
              refine ⟨2, by omega, by omega, ?_⟩
              refine Mv.mkW ?_ ?_ (Nat.le_of_ble_eq_true rfl) <;> (repeat' (first | exact WA.nil | refine WA.cons rfl ?_ ?_ | exact WB.nil | refine WB.cons ?_ ?_ | exact WT.nil | refine WT.cons ?_ ?_ | exact WH.nil | refine WH.cons ?_ ?_ | exact WR.nil | refine WR.cons rfl ?_ ?_ | refine WO.vr ?_ | exact WO.dead | exact WO.mpS | refine WO.mpA ?_ | refine WO.arrA ?_ | exact WS.u | refine WS.c ?_ | refine WS.a ?_ | refine WS.t ?_ | exact WL.nil | refine WL.cons ?_ ?_ | exact WTL.nil | refine WTL.consC ?_ ?_ | refine WTL.consL ?_ ?_ | exact WC.nils | exact WC.nil rfl | exact WC.nilp | refine WC.fzA | exact WC.ptr rfl (Nat.le_of_ble_eq_true rfl) | exact WC.mpr rfl (Nat.le_of_ble_eq_true rfl) | refine WC.slA | refine WC.intA | refine WC.int ?_ | refine WC.boolA | refine WC.bool ?_ | refine WC.strA | refine WC.str ?_ | exact WC.imm rfl))
            · conv => whnf
              repeat' ((first | refine Need.auto ?_ | refine Have.mk (fun _h => ?_)); conv => whnf)
              refine Br.no (by decide) ?_
              conv => whnf
              repeat' ((first | refine Need.auto ?_ | refine Have.mk (fun _h => ?_)); conv => whnf)
              refine CallN.pureA check18_body (check18_spec 2 (histM cs) ) ?_
              conv => whnf
              repeat' ((first | refine Need.auto ?_ | refine Have.mk (fun _h => ?_)); conv => whnf)
              rw [w5]
              refine CallG.auto awake20_body (fun _ => awake20_spec ) ?_
              conv => whnf
              repeat' ((first | refine Need.auto ?_ | refine Have.mk (fun _h => ?_)); conv => whnf)
              refine RM.immW rfl ?_; (repeat' (first | exact WA.nil | refine WA.cons rfl ?_ ?_ | exact WB.nil | refine WB.cons ?_ ?_ | exact WT.nil | refine WT.cons ?_ ?_ | exact WH.nil | refine WH.cons ?_ ?_ | exact WR.nil | refine WR.cons rfl ?_ ?_ | refine WO.vr ?_ | exact WO.dead | exact WO.mpS | refine WO.mpA ?_ | refine WO.arrA ?_ | exact WS.u | refine WS.c ?_ | refine WS.a ?_ | refine WS.t ?_ | exact WL.nil | refine WL.cons ?_ ?_ | exact WTL.nil | refine WTL.consC ?_ ?_ | refine WTL.consL ?_ ?_ | exact WC.nils | exact WC.nil rfl | exact WC.nilp | refine WC.fzA | exact WC.ptr rfl (Nat.le_of_ble_eq_true rfl) | exact WC.mpr rfl (Nat.le_of_ble_eq_true rfl) | refine WC.slA | refine WC.intA | refine WC.int ?_ | refine WC.boolA | refine WC.bool ?_ | refine WC.strA | refine WC.str ?_ | exact WC.imm rfl))
      · (try have hz0 := hf0 rfl)
        (try have hz1 := hf1 rfl)
        dsimp only [seqT, seqO]
        conv => whnf
        repeat' ((first | refine Need.auto ?_ | refine Have.mk (fun _h => ?_)); conv => whnf)
        refine CallG.keepQ [0] rest_body (rest_spec d hd) (by (repeat' (first | exact WA.nil | refine WA.cons rfl ?_ ?_ | exact WB.nil | refine WB.cons ?_ ?_ | exact WT.nil | refine WT.cons ?_ ?_ | exact WH.nil | refine WH.cons ?_ ?_ | exact WR.nil | refine WR.cons rfl ?_ ?_ | refine WO.vr ?_ | exact WO.dead | exact WO.mpS | refine WO.mpA ?_ | refine WO.arrA ?_ | exact WS.u | refine WS.c ?_ | refine WS.a ?_ | refine WS.t ?_ | exact WL.nil | refine WL.cons ?_ ?_ | exact WTL.nil | refine WTL.consC ?_ ?_ | refine WTL.consL ?_ ?_ | exact WC.nils | exact WC.nil rfl | exact WC.nilp | refine WC.fzA | exact WC.ptr rfl (Nat.le_of_ble_eq_true rfl) | exact WC.mpr rfl (Nat.le_of_ble_eq_true rfl) | refine WC.slA | refine WC.intA | refine WC.int ?_ | refine WC.boolA | refine WC.bool ?_ | refine WC.strA | refine WC.str ?_ | exact WC.imm rfl))) (by (repeat' (first | exact WA.nil | refine WA.cons rfl ?_ ?_ | exact WB.nil | refine WB.cons ?_ ?_ | exact WT.nil | refine WT.cons ?_ ?_ | exact WH.nil | refine WH.cons ?_ ?_ | exact WR.nil | refine WR.cons rfl ?_ ?_ | refine WO.vr ?_ | exact WO.dead | exact WO.mpS | refine WO.mpA ?_ | refine WO.arrA ?_ | exact WS.u | refine WS.c ?_ | refine WS.a ?_ | refine WS.t ?_ | exact WL.nil | refine WL.cons ?_ ?_ | exact WTL.nil | refine WTL.consC ?_ ?_ | refine WTL.consL ?_ ?_ | exact WC.nils | exact WC.nil rfl | exact WC.nilp | refine WC.fzA | exact WC.ptr rfl (Nat.le_of_ble_eq_true rfl) | exact WC.mpr rfl (Nat.le_of_ble_eq_true rfl) | refine WC.slA | refine WC.intA | refine WC.int ?_ | refine WC.boolA | refine WC.bool ?_ | refine WC.strA | refine WC.str ?_ | exact WC.imm rfl))) ?_
        conv => whnf
        repeat' ((first | refine Need.auto ?_ | refine Have.mk (fun _h => ?_)); conv => whnf)
        refine Br.mk (fun hgo => ?_) (fun hgo => ?_)
        · have hi20 : i < 20 := by
            cases c : decide ((i : Int) < 20) with
            | true => have := of_decide_eq_true c; omega
            | false => rw [c] at hgo; cases hgo
          conv => whnf
          repeat' ((first | refine Need.auto ?_ | refine Have.mk (fun _h => ?_)); conv => whnf)
          rcases hk3 with q3 | q3 | q3
          · rw [q3] at s3
            refine CallN.autoQ [0] next_body s3 ?_
            conv => whnf
            repeat' ((first | refine Need.auto ?_ | refine Have.mk (fun _h => ?_)); conv => whnf)
            refine Br.yes (by decide) ?_
            conv => whnf
            repeat' ((first | refine Need.auto ?_ | refine Have.mk (fun _h => ?_)); conv => whnf)
            rcases hb2 with q2 | q2
            · rw [q2] at s2
              refine CallN.autoQ [0] next_body s2 ?_
              conv => whnf
              repeat' ((first | refine Need.auto ?_ | refine Have.mk (fun _h => ?_)); conv => whnf)
              refine Br.yes (by decide) ?_
              conv => whnf
              repeat' ((first | refine Need.auto ?_ | refine Have.mk (fun _h => ?_)); conv => whnf)
              refine CallN.autoQ [0] next_body (next_spec d.step.step hd.step.step 4) ?_; conv => whnf
              conv => whnf
              repeat' ((first | refine Need.auto ?_ | refine Have.mk (fun _h => ?_)); conv => whnf)
              refine CallN.pureA value_body (value_spec _ ) ?_
              conv => whnf
              repeat' ((first | refine Need.auto ?_ | refine Have.mk (fun _h => ?_)); conv => whnf)
              refine Dr.mkE hΓ hMix [] [(0, 8)] (by kernel_rfl) ?_; conv => whnf
              repeat' ((first | refine Need.auto ?_ | refine Have.mk (fun _h => ?_)); conv => whnf)
              refine Dr.mk hΓ hMix (by kernel_rfl) ?_; conv => whnf
              repeat' ((first | refine Need.auto ?_ | refine Have.mk (fun _h => ?_)); conv => whnf)
              refine CallP.auto returnedE_body (returnedE_spec (seqX i 2 0 (valueS (IntKind.i64.wrap (1 + d.step.step.next 4)))) ) ?_
              conv => whnf
              repeat' ((first | refine Need.auto ?_ | refine Have.mk (fun _h => ?_)); conv => whnf)
              refine ⟨(i + 1, ⟨d.step.step.step, cs ++ [(seqX i 2 0 (valueS (IntKind.i64.wrap (1 + d.step.step.next 4))))], a0 ++ [valueS (IntKind.i64.wrap (1 + d.step.step.next 4))], a1, valueS (IntKind.i64.wrap (1 + d.step.step.next 4)), n1⟩, true, true), ⟨by show i + 1 ≤ 20; omega, (hin.chg0 _ (.inl rfl) rfl), hd.step.step.step, fun q => by first | (cases q; done) | exact hf0 q, fun q => by first | (cases q; done) | exact hf1 q⟩, by show 20 - (i + 1) < 20 - i; omega, ?_⟩
              dsimp only [seqT, seqO]
              rw [hist_snoc]
              refine Mv.renW [0,1,2,3,7,4] (by decide) (fun q hq => absurd hq (Nat.not_lt_zero _)) (Nat.zero_le _) ?_ ?_ <;> (repeat' (first | exact WA.nil | refine WA.cons rfl ?_ ?_ | exact WB.nil | refine WB.cons ?_ ?_ | exact WT.nil | refine WT.cons ?_ ?_ | exact WH.nil | refine WH.cons ?_ ?_ | exact WR.nil | refine WR.cons rfl ?_ ?_ | refine WO.vr ?_ | exact WO.dead | exact WO.mpS | refine WO.mpA ?_ | refine WO.arrA ?_ | exact WS.u | refine WS.c ?_ | refine WS.a ?_ | refine WS.t ?_ | exact WL.nil | refine WL.cons ?_ ?_ | exact WTL.nil | refine WTL.consC ?_ ?_ | refine WTL.consL ?_ ?_ | exact WC.nils | exact WC.nil rfl | exact WC.nilp | refine WC.fzA | exact WC.ptr rfl (Nat.le_of_ble_eq_true rfl) | exact WC.mpr rfl (Nat.le_of_ble_eq_true rfl) | refine WC.slA | refine WC.intA | refine WC.int ?_ | refine WC.boolA | refine WC.bool ?_ | refine WC.strA | refine WC.str ?_ | exact WC.imm rfl))
              all_goals first
                | exact WC.sl rfl (Nat.le_of_ble_eq_true rfl) (lenA (by assumption)) (lenA (by assumption)) (fun q => by cases q)
                | exact WC.sl rfl (Nat.le_of_ble_eq_true rfl) lenT lenT (fun q => by cases q)
                | exact WC.sl rfl (Nat.le_of_ble_eq_true rfl) rfl rfl (fun q => by cases q)
                | exact WC.sl rfl (Nat.le_of_ble_eq_true rfl) lenH lenH (fun q => by cases q)
                | (refine WO.arr lenH ?_; intro q hq j hj; exact WC.eq (ev_snoc2 (x := (seqX i 2 0 (valueS (IntKind.i64.wrap (1 + d.step.step.next 4))))) (y := retE (seqX i 2 0 (valueS (IntKind.i64.wrap (1 + d.step.step.next 4))))) hq hj) (evCell_imm _ _))
                | (refine WO.arr (lenA (by assumption)) ?_; intro q hq j hj; exact WC.eq (strsSnoc1 (by assumption) hq hj) rfl)
                | (refine WO.arr lenT ?_; intro q hq j hj; exact WC.eq (strsSnoc hq hj) rfl)
                | (intro q hq j hj; exact WC.eq (ev_snoc2 (x := (seqX i 2 0 (valueS (IntKind.i64.wrap (1 + d.step.step.next 4))))) (y := retE (seqX i 2 0 (valueS (IntKind.i64.wrap (1 + d.step.step.next 4))))) hq hj) (evCell_imm _ _))
                | (intro q hq j hj; exact WC.eq (strsSnoc1 (by assumption) hq hj) rfl)
                | (intro q hq j hj; exact WC.eq (strsSnoc hq hj) rfl)
                | (intro q hq j hj; exact WC.eq (strsOne hq hj) rfl)
                | (intro q _ j _; exact WC.imm rfl)
                | skip
            · rw [q2] at s2
              refine CallN.autoQ [0] next_body s2 ?_
              conv => whnf
              repeat' ((first | refine Need.auto ?_ | refine Have.mk (fun _h => ?_)); conv => whnf)
              refine Br.yes (by decide) ?_
              conv => whnf
              repeat' ((first | refine Need.auto ?_ | refine Have.mk (fun _h => ?_)); conv => whnf)
              refine CallN.autoQ [0] next_body (next_spec d.step.step hd.step.step 4) ?_; conv => whnf
              conv => whnf
              repeat' ((first | refine Need.auto ?_ | refine Have.mk (fun _h => ?_)); conv => whnf)
              refine CallN.pureA value_body (value_spec _ ) ?_
              conv => whnf
              repeat' ((first | refine Need.auto ?_ | refine Have.mk (fun _h => ?_)); conv => whnf)
              refine Dr.mkE hΓ hMix [] [(0, 8)] (by kernel_rfl) ?_; conv => whnf
              repeat' ((first | refine Need.auto ?_ | refine Have.mk (fun _h => ?_)); conv => whnf)
              refine Dr.mk hΓ hMix (by kernel_rfl) ?_; conv => whnf
              repeat' ((first | refine Need.auto ?_ | refine Have.mk (fun _h => ?_)); conv => whnf)
              refine CallP.auto returnedE_body (returnedE_spec (seqX i 2 1 (valueS (IntKind.i64.wrap (1 + d.step.step.next 4)))) ) ?_
              conv => whnf
              repeat' ((first | refine Need.auto ?_ | refine Have.mk (fun _h => ?_)); conv => whnf)
              refine ⟨(i + 1, ⟨d.step.step.step, cs ++ [(seqX i 2 1 (valueS (IntKind.i64.wrap (1 + d.step.step.next 4))))], a0, a1 ++ [valueS (IntKind.i64.wrap (1 + d.step.step.next 4))], n0, valueS (IntKind.i64.wrap (1 + d.step.step.next 4))⟩, false, true), ⟨by show i + 1 ≤ 20; omega, (hin.chg1 _ (.inl rfl) rfl), hd.step.step.step, fun q => by first | (cases q; done) | exact hf0 q, fun q => by first | (cases q; done) | exact hf1 q⟩, by show 20 - (i + 1) < 20 - i; omega, ?_⟩
              dsimp only [seqT, seqO]
              rw [hist_snoc]
              refine Mv.renW [0,1,2,3,4] (by decide) (fun q hq => absurd hq (Nat.not_lt_zero _)) (Nat.zero_le _) ?_ ?_ <;> (repeat' (first | exact WA.nil | refine WA.cons rfl ?_ ?_ | exact WB.nil | refine WB.cons ?_ ?_ | exact WT.nil | refine WT.cons ?_ ?_ | exact WH.nil | refine WH.cons ?_ ?_ | exact WR.nil | refine WR.cons rfl ?_ ?_ | refine WO.vr ?_ | exact WO.dead | exact WO.mpS | refine WO.mpA ?_ | refine WO.arrA ?_ | exact WS.u | refine WS.c ?_ | refine WS.a ?_ | refine WS.t ?_ | exact WL.nil | refine WL.cons ?_ ?_ | exact WTL.nil | refine WTL.consC ?_ ?_ | refine WTL.consL ?_ ?_ | exact WC.nils | exact WC.nil rfl | exact WC.nilp | refine WC.fzA | exact WC.ptr rfl (Nat.le_of_ble_eq_true rfl) | exact WC.mpr rfl (Nat.le_of_ble_eq_true rfl) | refine WC.slA | refine WC.intA | refine WC.int ?_ | refine WC.boolA | refine WC.bool ?_ | refine WC.strA | refine WC.str ?_ | exact WC.imm rfl))
              all_goals first
                | exact WC.sl rfl (Nat.le_of_ble_eq_true rfl) (lenA (by assumption)) (lenA (by assumption)) (fun q => by cases q)
                | exact WC.sl rfl (Nat.le_of_ble_eq_true rfl) lenT lenT (fun q => by cases q)
                | exact WC.sl rfl (Nat.le_of_ble_eq_true rfl) rfl rfl (fun q => by cases q)
                | exact WC.sl rfl (Nat.le_of_ble_eq_true rfl) lenH lenH (fun q => by cases q)
                | (refine WO.arr lenH ?_; intro q hq j hj; exact WC.eq (ev_snoc2 (x := (seqX i 2 1 (valueS (IntKind.i64.wrap (1 + d.step.step.next 4))))) (y := retE (seqX i 2 1 (valueS (IntKind.i64.wrap (1 + d.step.step.next 4))))) hq hj) (evCell_imm _ _))
                | (refine WO.arr (lenA (by assumption)) ?_; intro q hq j hj; exact WC.eq (strsSnoc1 (by assumption) hq hj) rfl)
                | (refine WO.arr lenT ?_; intro q hq j hj; exact WC.eq (strsSnoc hq hj) rfl)
                | (intro q hq j hj; exact WC.eq (ev_snoc2 (x := (seqX i 2 1 (valueS (IntKind.i64.wrap (1 + d.step.step.next 4))))) (y := retE (seqX i 2 1 (valueS (IntKind.i64.wrap (1 + d.step.step.next 4))))) hq hj) (evCell_imm _ _))
                | (intro q hq j hj; exact WC.eq (strsSnoc1 (by assumption) hq hj) rfl)
                | (intro q hq j hj; exact WC.eq (strsSnoc hq hj) rfl)
                | (intro q hq j hj; exact WC.eq (strsOne hq hj) rfl)
                | (intro q _ j _; exact WC.imm rfl)
                | skip
          · rw [q3] at s3
            refine CallN.autoQ [0] next_body s3 ?_
            conv => whnf
            repeat' ((first | refine Need.auto ?_ | refine Have.mk (fun _h => ?_)); conv => whnf)
            refine Br.yes (by decide) ?_
            conv => whnf
            repeat' ((first | refine Need.auto ?_ | refine Have.mk (fun _h => ?_)); conv => whnf)
            rcases hb2 with q2 | q2
            · rw [q2] at s2
              refine CallN.autoQ [0] next_body s2 ?_
              conv => whnf
              repeat' ((first | refine Need.auto ?_ | refine Have.mk (fun _h => ?_)); conv => whnf)
              refine Br.no (by decide) ?_
              conv => whnf
              repeat' ((first | refine Need.auto ?_ | refine Have.mk (fun _h => ?_)); conv => whnf)
              refine Br.yes (by decide) ?_
              conv => whnf
              repeat' ((first | refine Need.auto ?_ | refine Have.mk (fun _h => ?_)); conv => whnf)
              refine Dr.mkE hΓ hMix [] [(0, 8)] (by kernel_rfl) ?_; conv => whnf
              repeat' ((first | refine Need.auto ?_ | refine Have.mk (fun _h => ?_)); conv => whnf)
              refine Dr.mk hΓ hMix (by kernel_rfl) ?_; conv => whnf
              repeat' ((first | refine Need.auto ?_ | refine Have.mk (fun _h => ?_)); conv => whnf)
              refine CallP.auto returnedE_body (returnedE_spec (seqX i 3 0 ByteArray.empty) ) ?_
              conv => whnf
              repeat' ((first | refine Need.auto ?_ | refine Have.mk (fun _h => ?_)); conv => whnf)
              refine ⟨(i + 1, ⟨d.step.step, cs ++ [(seqX i 3 0 ByteArray.empty)], a0 ++ [zeroB], a1, zeroB, n1⟩, true, true), ⟨by show i + 1 ≤ 20; omega, (hin.chg0 _ (.inr rfl) rfl), hd.step.step, fun q => by first | (cases q; done) | exact hf0 q, fun q => by first | (cases q; done) | exact hf1 q⟩, by show 20 - (i + 1) < 20 - i; omega, ?_⟩
              dsimp only [seqT, seqO]
              rw [hist_snoc]
              refine Mv.renW [0,1,2,3,7,4] (by decide) (fun q hq => absurd hq (Nat.not_lt_zero _)) (Nat.zero_le _) ?_ ?_ <;> (repeat' (first | exact WA.nil | refine WA.cons rfl ?_ ?_ | exact WB.nil | refine WB.cons ?_ ?_ | exact WT.nil | refine WT.cons ?_ ?_ | exact WH.nil | refine WH.cons ?_ ?_ | exact WR.nil | refine WR.cons rfl ?_ ?_ | refine WO.vr ?_ | exact WO.dead | exact WO.mpS | refine WO.mpA ?_ | refine WO.arrA ?_ | exact WS.u | refine WS.c ?_ | refine WS.a ?_ | refine WS.t ?_ | exact WL.nil | refine WL.cons ?_ ?_ | exact WTL.nil | refine WTL.consC ?_ ?_ | refine WTL.consL ?_ ?_ | exact WC.nils | exact WC.nil rfl | exact WC.nilp | refine WC.fzA | exact WC.ptr rfl (Nat.le_of_ble_eq_true rfl) | exact WC.mpr rfl (Nat.le_of_ble_eq_true rfl) | refine WC.slA | refine WC.intA | refine WC.int ?_ | refine WC.boolA | refine WC.bool ?_ | refine WC.strA | refine WC.str ?_ | exact WC.imm rfl))
              all_goals first
                | exact WC.sl rfl (Nat.le_of_ble_eq_true rfl) (lenA (by assumption)) (lenA (by assumption)) (fun q => by cases q)
                | exact WC.sl rfl (Nat.le_of_ble_eq_true rfl) lenT lenT (fun q => by cases q)
                | exact WC.sl rfl (Nat.le_of_ble_eq_true rfl) rfl rfl (fun q => by cases q)
                | exact WC.sl rfl (Nat.le_of_ble_eq_true rfl) lenH lenH (fun q => by cases q)
                | (refine WO.arr lenH ?_; intro q hq j hj; exact WC.eq (ev_snoc2 (x := (seqX i 3 0 ByteArray.empty)) (y := retE (seqX i 3 0 ByteArray.empty)) hq hj) (evCell_imm _ _))
                | (refine WO.arr (lenA (by assumption)) ?_; intro q hq j hj; exact WC.eq (strsSnoc1 (by assumption) hq hj) rfl)
                | (refine WO.arr lenT ?_; intro q hq j hj; exact WC.eq (strsSnoc hq hj) rfl)
                | (intro q hq j hj; exact WC.eq (ev_snoc2 (x := (seqX i 3 0 ByteArray.empty)) (y := retE (seqX i 3 0 ByteArray.empty)) hq hj) (evCell_imm _ _))
                | (intro q hq j hj; exact WC.eq (strsSnoc1 (by assumption) hq hj) rfl)
                | (intro q hq j hj; exact WC.eq (strsSnoc hq hj) rfl)
                | (intro q hq j hj; exact WC.eq (strsOne hq hj) rfl)
                | (intro q _ j _; exact WC.imm rfl)
                | skip
            · rw [q2] at s2
              refine CallN.autoQ [0] next_body s2 ?_
              conv => whnf
              repeat' ((first | refine Need.auto ?_ | refine Have.mk (fun _h => ?_)); conv => whnf)
              refine Br.no (by decide) ?_
              conv => whnf
              repeat' ((first | refine Need.auto ?_ | refine Have.mk (fun _h => ?_)); conv => whnf)
              refine Br.yes (by decide) ?_
              conv => whnf
              repeat' ((first | refine Need.auto ?_ | refine Have.mk (fun _h => ?_)); conv => whnf)
              refine Dr.mkE hΓ hMix [] [(0, 8)] (by kernel_rfl) ?_; conv => whnf
              repeat' ((first | refine Need.auto ?_ | refine Have.mk (fun _h => ?_)); conv => whnf)
              refine Dr.mk hΓ hMix (by kernel_rfl) ?_; conv => whnf
              repeat' ((first | refine Need.auto ?_ | refine Have.mk (fun _h => ?_)); conv => whnf)
              refine CallP.auto returnedE_body (returnedE_spec (seqX i 3 1 ByteArray.empty) ) ?_
              conv => whnf
              repeat' ((first | refine Need.auto ?_ | refine Have.mk (fun _h => ?_)); conv => whnf)
              refine ⟨(i + 1, ⟨d.step.step, cs ++ [(seqX i 3 1 ByteArray.empty)], a0, a1 ++ [zeroB], n0, zeroB⟩, false, true), ⟨by show i + 1 ≤ 20; omega, (hin.chg1 _ (.inr rfl) rfl), hd.step.step, fun q => by first | (cases q; done) | exact hf0 q, fun q => by first | (cases q; done) | exact hf1 q⟩, by show 20 - (i + 1) < 20 - i; omega, ?_⟩
              dsimp only [seqT, seqO]
              rw [hist_snoc]
              refine Mv.renW [0,1,2,3,4] (by decide) (fun q hq => absurd hq (Nat.not_lt_zero _)) (Nat.zero_le _) ?_ ?_ <;> (repeat' (first | exact WA.nil | refine WA.cons rfl ?_ ?_ | exact WB.nil | refine WB.cons ?_ ?_ | exact WT.nil | refine WT.cons ?_ ?_ | exact WH.nil | refine WH.cons ?_ ?_ | exact WR.nil | refine WR.cons rfl ?_ ?_ | refine WO.vr ?_ | exact WO.dead | exact WO.mpS | refine WO.mpA ?_ | refine WO.arrA ?_ | exact WS.u | refine WS.c ?_ | refine WS.a ?_ | refine WS.t ?_ | exact WL.nil | refine WL.cons ?_ ?_ | exact WTL.nil | refine WTL.consC ?_ ?_ | refine WTL.consL ?_ ?_ | exact WC.nils | exact WC.nil rfl | exact WC.nilp | refine WC.fzA | exact WC.ptr rfl (Nat.le_of_ble_eq_true rfl) | exact WC.mpr rfl (Nat.le_of_ble_eq_true rfl) | refine WC.slA | refine WC.intA | refine WC.int ?_ | refine WC.boolA | refine WC.bool ?_ | refine WC.strA | refine WC.str ?_ | exact WC.imm rfl))
              all_goals first
                | exact WC.sl rfl (Nat.le_of_ble_eq_true rfl) (lenA (by assumption)) (lenA (by assumption)) (fun q => by cases q)
                | exact WC.sl rfl (Nat.le_of_ble_eq_true rfl) lenT lenT (fun q => by cases q)
                | exact WC.sl rfl (Nat.le_of_ble_eq_true rfl) rfl rfl (fun q => by cases q)
                | exact WC.sl rfl (Nat.le_of_ble_eq_true rfl) lenH lenH (fun q => by cases q)
                | (refine WO.arr lenH ?_; intro q hq j hj; exact WC.eq (ev_snoc2 (x := (seqX i 3 1 ByteArray.empty)) (y := retE (seqX i 3 1 ByteArray.empty)) hq hj) (evCell_imm _ _))
                | (refine WO.arr (lenA (by assumption)) ?_; intro q hq j hj; exact WC.eq (strsSnoc1 (by assumption) hq hj) rfl)
                | (refine WO.arr lenT ?_; intro q hq j hj; exact WC.eq (strsSnoc hq hj) rfl)
                | (intro q hq j hj; exact WC.eq (ev_snoc2 (x := (seqX i 3 1 ByteArray.empty)) (y := retE (seqX i 3 1 ByteArray.empty)) hq hj) (evCell_imm _ _))
                | (intro q hq j hj; exact WC.eq (strsSnoc1 (by assumption) hq hj) rfl)
                | (intro q hq j hj; exact WC.eq (strsSnoc hq hj) rfl)
                | (intro q hq j hj; exact WC.eq (strsOne hq hj) rfl)
                | (intro q _ j _; exact WC.imm rfl)
                | skip
          · rw [q3] at s3
            refine CallN.autoQ [0] next_body s3 ?_
            conv => whnf
            repeat' ((first | refine Need.auto ?_ | refine Have.mk (fun _h => ?_)); conv => whnf)
            refine Br.no (by decide) ?_
            conv => whnf
            repeat' ((first | refine Need.auto ?_ | refine Have.mk (fun _h => ?_)); conv => whnf)
            refine Br.no (by decide) ?_
            conv => whnf
            repeat' ((first | refine Need.auto ?_ | refine Have.mk (fun _h => ?_)); conv => whnf)
            refine Br.no (by decide) ?_
            conv => whnf
            repeat' ((first | refine Need.auto ?_ | refine Have.mk (fun _h => ?_)); conv => whnf)
            refine Dr.mk hΓ hMix (by kernel_rfl) ?_; conv => whnf
            repeat' ((first | refine Need.auto ?_ | refine Have.mk (fun _h => ?_)); conv => whnf)
            refine CallP.auto returnedE_body (returnedE_spec (seqX i 4 0 ByteArray.empty) ) ?_
            conv => whnf
            repeat' ((first | refine Need.auto ?_ | refine Have.mk (fun _h => ?_)); conv => whnf)
            refine ⟨(i + 1, ⟨d.step, cs ++ [(seqX i 4 0 ByteArray.empty)], [n0], [n1], n0, n1⟩, true, true), ⟨by show i + 1 ≤ 20; omega, (hin.flush _), hd.step, fun q => by first | (cases q; done) | exact hf0 q, fun q => by first | (cases q; done) | exact hf1 q⟩, by show 20 - (i + 1) < 20 - i; omega, ?_⟩
            dsimp only [seqT, seqO]
            rw [hist_snoc]
            refine Mv.renW [0,1,2,3,6,7] (by decide) (fun q hq => absurd hq (Nat.not_lt_zero _)) (Nat.zero_le _) ?_ ?_ <;> (repeat' (first | exact WA.nil | refine WA.cons rfl ?_ ?_ | exact WB.nil | refine WB.cons ?_ ?_ | exact WT.nil | refine WT.cons ?_ ?_ | exact WH.nil | refine WH.cons ?_ ?_ | exact WR.nil | refine WR.cons rfl ?_ ?_ | refine WO.vr ?_ | exact WO.dead | exact WO.mpS | refine WO.mpA ?_ | refine WO.arrA ?_ | exact WS.u | refine WS.c ?_ | refine WS.a ?_ | refine WS.t ?_ | exact WL.nil | refine WL.cons ?_ ?_ | exact WTL.nil | refine WTL.consC ?_ ?_ | refine WTL.consL ?_ ?_ | exact WC.nils | exact WC.nil rfl | exact WC.nilp | refine WC.fzA | exact WC.ptr rfl (Nat.le_of_ble_eq_true rfl) | exact WC.mpr rfl (Nat.le_of_ble_eq_true rfl) | refine WC.slA | refine WC.intA | refine WC.int ?_ | refine WC.boolA | refine WC.bool ?_ | refine WC.strA | refine WC.str ?_ | exact WC.imm rfl))
            all_goals first
              | exact WC.sl rfl (Nat.le_of_ble_eq_true rfl) (lenA (by assumption)) (lenA (by assumption)) (fun q => by cases q)
              | exact WC.sl rfl (Nat.le_of_ble_eq_true rfl) lenT lenT (fun q => by cases q)
              | exact WC.sl rfl (Nat.le_of_ble_eq_true rfl) rfl rfl (fun q => by cases q)
              | exact WC.sl rfl (Nat.le_of_ble_eq_true rfl) lenH lenH (fun q => by cases q)
              | (refine WO.arr lenH ?_; intro q hq j hj; exact WC.eq (ev_snoc2 (x := (seqX i 4 0 ByteArray.empty)) (y := retE (seqX i 4 0 ByteArray.empty)) hq hj) (evCell_imm _ _))
              | (refine WO.arr (lenA (by assumption)) ?_; intro q hq j hj; exact WC.eq (strsSnoc1 (by assumption) hq hj) rfl)
              | (refine WO.arr lenT ?_; intro q hq j hj; exact WC.eq (strsSnoc hq hj) rfl)
              | (intro q hq j hj; exact WC.eq (ev_snoc2 (x := (seqX i 4 0 ByteArray.empty)) (y := retE (seqX i 4 0 ByteArray.empty)) hq hj) (evCell_imm _ _))
              | (intro q hq j hj; exact WC.eq (strsSnoc1 (by assumption) hq hj) rfl)
              | (intro q hq j hj; exact WC.eq (strsSnoc hq hj) rfl)
              | (intro q hq j hj; exact WC.eq (strsOne hq hj) rfl)
              | (intro q _ j _; exact WC.imm rfl)
              | skip
        · conv => whnf
          repeat' ((first | refine Need.auto ?_ | refine Have.mk (fun _h => ?_)); conv => whnf)
          obtain ⟨w1, w2, w3, w4, w5⟩ := hin.law hgi
          dsimp only at w1 w2 w3 w4 w5
          refine Lp.mkK hΓ (ι := Nat) [4] (fun b => [(11, .c (.int .i64 b)), (5, .c (evC (histM cs))), (6, .c (.ptr 1 0))]) (fun _ => [.vr d.cells, .vr [strsC a0, strsC a1]]) (fun b => b ≤ 2) (fun b => 2 - b) 0 (Nat.zero_le _) (((Mv.fz 3 rfl (Nat.zero_le _) (fun _ _ _ _ => evCell_imm _ _)).trans (Mv.fz 4 rfl (Nat.zero_le _) (fun _ _ _ _ => rfl))).trans (Mv.mkW ?_ ?_ (Nat.le_of_ble_eq_true rfl))) ?_
          · (repeat' (first | exact WA.nil | refine WA.cons rfl ?_ ?_ | exact WB.nil | refine WB.cons ?_ ?_ | exact WT.nil | refine WT.cons ?_ ?_ | exact WH.nil | refine WH.cons ?_ ?_ | exact WR.nil | refine WR.cons rfl ?_ ?_ | refine WO.vr ?_ | exact WO.dead | exact WO.mpS | refine WO.mpA ?_ | refine WO.arrA ?_ | exact WS.u | refine WS.c ?_ | refine WS.a ?_ | refine WS.t ?_ | exact WL.nil | refine WL.cons ?_ ?_ | exact WTL.nil | refine WTL.consC ?_ ?_ | refine WTL.consL ?_ ?_ | exact WC.nils | exact WC.nil rfl | exact WC.nilp | refine WC.fzA | exact WC.ptr rfl (Nat.le_of_ble_eq_true rfl) | exact WC.mpr rfl (Nat.le_of_ble_eq_true rfl) | refine WC.slA | refine WC.intA | refine WC.int ?_ | refine WC.boolA | refine WC.bool ?_ | refine WC.strA | refine WC.str ?_ | exact WC.imm rfl))
            all_goals first
              | exact WC.isl (by assumption) (fun _ _ _ _ => rfl) (fun q => by cases q)
              | exact WC.isl (by symm; assumption) (fun _ _ _ _ => rfl) (fun q => by cases q)
              | (rw [fzC_sl rfl]; exact WC.isl rfl (fun _ _ _ _ => rfl) (fun q => by cases q))
              | (rw [show ∀ n g, fzC 3 n g (C.sl 4 1 a0.length a0.length false) = C.sl 4 1 a0.length a0.length false from fun _ _ => rfl, fzC_sl rfl]; exact WC.isl rfl (fun _ _ _ _ => rfl) (fun q => by cases q))
              | skip
          · (repeat' (first | exact WA.nil | refine WA.cons rfl ?_ ?_ | exact WB.nil | refine WB.cons ?_ ?_ | exact WT.nil | refine WT.cons ?_ ?_ | exact WH.nil | refine WH.cons ?_ ?_ | exact WR.nil | refine WR.cons rfl ?_ ?_ | refine WO.vr ?_ | exact WO.dead | exact WO.mpS | refine WO.mpA ?_ | refine WO.arrA ?_ | exact WS.u | refine WS.c ?_ | refine WS.a ?_ | refine WS.t ?_ | exact WL.nil | refine WL.cons ?_ ?_ | exact WTL.nil | refine WTL.consC ?_ ?_ | refine WTL.consL ?_ ?_ | exact WC.nils | exact WC.nil rfl | exact WC.nilp | refine WC.fzA | exact WC.ptr rfl (Nat.le_of_ble_eq_true rfl) | exact WC.mpr rfl (Nat.le_of_ble_eq_true rfl) | refine WC.slA | refine WC.intA | refine WC.int ?_ | refine WC.boolA | refine WC.bool ?_ | refine WC.strA | refine WC.str ?_ | exact WC.imm rfl))
            all_goals (rw [fzC_sl rfl]; exact WC.isl rfl (fun _ _ _ _ => rfl) (fun q => by cases q))
          · intro b hb
            rcases (by omega : b = 0 ∨ b = 1 ∨ b = 2) with rfl | rfl | rfl
            · conv => whnf
              repeat' ((first | refine Need.auto ?_ | refine Have.mk (fun _h => ?_)); conv => whnf)
              refine Br.yes (by decide) ?_
              conv => whnf
              repeat' ((first | refine Need.auto ?_ | refine Have.mk (fun _h => ?_)); conv => whnf)
              refine CallN.pureA allowed_body (allowed_spec (zerosM 2) (histM cs) 0 (by omega) ) ?_
              conv => whnf
              repeat' ((first | refine Need.auto ?_ | refine Have.mk (fun _h => ?_)); conv => whnf)
              rw [allowed_eq]
              refine CallN.pureA within_body (within_spec (allowedR (zerosM 2) (histM cs) 0) a0 ) ?_
              conv => whnf
              repeat' ((first | refine Need.auto ?_ | refine Have.mk (fun _h => ?_)); conv => whnf)
              refine CallG.auto within_body (fun _ => within_spec a0 (allowedR (zerosM 2) (histM cs) 0) ) ?_
              conv => whnf
              repeat' ((first | refine Need.auto ?_ | refine Have.mk (fun _h => ?_)); conv => whnf)
              rw [w1, w2]
              refine Br.no rfl ?_
              conv => whnf
              repeat' ((first | refine Need.auto ?_ | refine Have.mk (fun _h => ?_)); conv => whnf)
              refine ⟨1, by omega, by omega, ?_⟩
              refine Mv.mkW ?_ ?_ (Nat.le_of_ble_eq_true rfl) <;> (repeat' (first | exact WA.nil | refine WA.cons rfl ?_ ?_ | exact WB.nil | refine WB.cons ?_ ?_ | exact WT.nil | refine WT.cons ?_ ?_ | exact WH.nil | refine WH.cons ?_ ?_ | exact WR.nil | refine WR.cons rfl ?_ ?_ | refine WO.vr ?_ | exact WO.dead | exact WO.mpS | refine WO.mpA ?_ | refine WO.arrA ?_ | exact WS.u | refine WS.c ?_ | refine WS.a ?_ | refine WS.t ?_ | exact WL.nil | refine WL.cons ?_ ?_ | exact WTL.nil | refine WTL.consC ?_ ?_ | refine WTL.consL ?_ ?_ | exact WC.nils | exact WC.nil rfl | exact WC.nilp | refine WC.fzA | exact WC.ptr rfl (Nat.le_of_ble_eq_true rfl) | exact WC.mpr rfl (Nat.le_of_ble_eq_true rfl) | refine WC.slA | refine WC.intA | refine WC.int ?_ | refine WC.boolA | refine WC.bool ?_ | refine WC.strA | refine WC.str ?_ | exact WC.imm rfl))
            · conv => whnf
              repeat' ((first | refine Need.auto ?_ | refine Have.mk (fun _h => ?_)); conv => whnf)
              refine Br.yes (by decide) ?_
              conv => whnf
              repeat' ((first | refine Need.auto ?_ | refine Have.mk (fun _h => ?_)); conv => whnf)
              refine CallN.pureA allowed_body (allowed_spec (zerosM 2) (histM cs) 1 (by omega) ) ?_
              conv => whnf
              repeat' ((first | refine Need.auto ?_ | refine Have.mk (fun _h => ?_)); conv => whnf)
              rw [allowed_eq]
              refine CallN.pureA within_body (within_spec (allowedR (zerosM 2) (histM cs) 1) a1 ) ?_
              conv => whnf
              repeat' ((first | refine Need.auto ?_ | refine Have.mk (fun _h => ?_)); conv => whnf)
              refine CallG.auto within_body (fun _ => within_spec a1 (allowedR (zerosM 2) (histM cs) 1) ) ?_
              conv => whnf
              repeat' ((first | refine Need.auto ?_ | refine Have.mk (fun _h => ?_)); conv => whnf)
              rw [w3, w4]
              refine Br.no rfl ?_
              conv => whnf
              repeat' ((first | refine Need.auto ?_ | refine Have.mk (fun _h => ?_)); conv => whnf)
              refine ⟨2, by omega, by omega, ?_⟩
              refine Mv.mkW ?_ ?_ (Nat.le_of_ble_eq_true rfl) <;> (repeat' (first | exact WA.nil | refine WA.cons rfl ?_ ?_ | exact WB.nil | refine WB.cons ?_ ?_ | exact WT.nil | refine WT.cons ?_ ?_ | exact WH.nil | refine WH.cons ?_ ?_ | exact WR.nil | refine WR.cons rfl ?_ ?_ | refine WO.vr ?_ | exact WO.dead | exact WO.mpS | refine WO.mpA ?_ | refine WO.arrA ?_ | exact WS.u | refine WS.c ?_ | refine WS.a ?_ | refine WS.t ?_ | exact WL.nil | refine WL.cons ?_ ?_ | exact WTL.nil | refine WTL.consC ?_ ?_ | refine WTL.consL ?_ ?_ | exact WC.nils | exact WC.nil rfl | exact WC.nilp | refine WC.fzA | exact WC.ptr rfl (Nat.le_of_ble_eq_true rfl) | exact WC.mpr rfl (Nat.le_of_ble_eq_true rfl) | refine WC.slA | refine WC.intA | refine WC.int ?_ | refine WC.boolA | refine WC.bool ?_ | refine WC.strA | refine WC.str ?_ | exact WC.imm rfl))
            · conv => whnf
              repeat' ((first | refine Need.auto ?_ | refine Have.mk (fun _h => ?_)); conv => whnf)
              refine Br.no (by decide) ?_
              conv => whnf
              repeat' ((first | refine Need.auto ?_ | refine Have.mk (fun _h => ?_)); conv => whnf)
              refine CallN.pureA check18_body (check18_spec 2 (histM cs) ) ?_
              conv => whnf
              repeat' ((first | refine Need.auto ?_ | refine Have.mk (fun _h => ?_)); conv => whnf)
              rw [w5]
              refine CallG.auto awake20_body (fun _ => awake20_spec ) ?_
              conv => whnf
              repeat' ((first | refine Need.auto ?_ | refine Have.mk (fun _h => ?_)); conv => whnf)
              refine RM.immW rfl ?_; (repeat' (first | exact WA.nil | refine WA.cons rfl ?_ ?_ | exact WB.nil | refine WB.cons ?_ ?_ | exact WT.nil | refine WT.cons ?_ ?_ | exact WH.nil | refine WH.cons ?_ ?_ | exact WR.nil | refine WR.cons rfl ?_ ?_ | refine WO.vr ?_ | exact WO.dead | exact WO.mpS | refine WO.mpA ?_ | refine WO.arrA ?_ | exact WS.u | refine WS.c ?_ | refine WS.a ?_ | refine WS.t ?_ | exact WL.nil | refine WL.cons ?_ ?_ | exact WTL.nil | refine WTL.consC ?_ ?_ | refine WTL.consL ?_ ?_ | exact WC.nils | exact WC.nil rfl | exact WC.nilp | refine WC.fzA | exact WC.ptr rfl (Nat.le_of_ble_eq_true rfl) | exact WC.mpr rfl (Nat.le_of_ble_eq_true rfl) | refine WC.slA | refine WC.intA | refine WC.int ?_ | refine WC.boolA | refine WC.bool ?_ | refine WC.strA | refine WC.str ?_ | exact WC.imm rfl))
      · (try have hz0 := hf0 rfl)
        (try have hz1 := hf1 rfl)
        dsimp only [seqT, seqO]
        conv => whnf
        repeat' ((first | refine Need.auto ?_ | refine Have.mk (fun _h => ?_)); conv => whnf)
        refine CallG.keepQ [0] rest_body (rest_spec d hd) (by (repeat' (first | exact WA.nil | refine WA.cons rfl ?_ ?_ | exact WB.nil | refine WB.cons ?_ ?_ | exact WT.nil | refine WT.cons ?_ ?_ | exact WH.nil | refine WH.cons ?_ ?_ | exact WR.nil | refine WR.cons rfl ?_ ?_ | refine WO.vr ?_ | exact WO.dead | exact WO.mpS | refine WO.mpA ?_ | refine WO.arrA ?_ | exact WS.u | refine WS.c ?_ | refine WS.a ?_ | refine WS.t ?_ | exact WL.nil | refine WL.cons ?_ ?_ | exact WTL.nil | refine WTL.consC ?_ ?_ | refine WTL.consL ?_ ?_ | exact WC.nils | exact WC.nil rfl | exact WC.nilp | refine WC.fzA | exact WC.ptr rfl (Nat.le_of_ble_eq_true rfl) | exact WC.mpr rfl (Nat.le_of_ble_eq_true rfl) | refine WC.slA | refine WC.intA | refine WC.int ?_ | refine WC.boolA | refine WC.bool ?_ | refine WC.strA | refine WC.str ?_ | exact WC.imm rfl))) (by (repeat' (first | exact WA.nil | refine WA.cons rfl ?_ ?_ | exact WB.nil | refine WB.cons ?_ ?_ | exact WT.nil | refine WT.cons ?_ ?_ | exact WH.nil | refine WH.cons ?_ ?_ | exact WR.nil | refine WR.cons rfl ?_ ?_ | refine WO.vr ?_ | exact WO.dead | exact WO.mpS | refine WO.mpA ?_ | refine WO.arrA ?_ | exact WS.u | refine WS.c ?_ | refine WS.a ?_ | refine WS.t ?_ | exact WL.nil | refine WL.cons ?_ ?_ | exact WTL.nil | refine WTL.consC ?_ ?_ | refine WTL.consL ?_ ?_ | exact WC.nils | exact WC.nil rfl | exact WC.nilp | refine WC.fzA | exact WC.ptr rfl (Nat.le_of_ble_eq_true rfl) | exact WC.mpr rfl (Nat.le_of_ble_eq_true rfl) | refine WC.slA | refine WC.intA | refine WC.int ?_ | refine WC.boolA | refine WC.bool ?_ | refine WC.strA | refine WC.str ?_ | exact WC.imm rfl))) ?_
        conv => whnf
        repeat' ((first | refine Need.auto ?_ | refine Have.mk (fun _h => ?_)); conv => whnf)
        refine Br.mk (fun hgo => ?_) (fun hgo => ?_)
        · have hi20 : i < 20 := by
            cases c : decide ((i : Int) < 20) with
            | true => have := of_decide_eq_true c; omega
            | false => rw [c] at hgo; cases hgo
          conv => whnf
          repeat' ((first | refine Need.auto ?_ | refine Have.mk (fun _h => ?_)); conv => whnf)
          rcases hk3 with q3 | q3 | q3
          · rw [q3] at s3
            refine CallN.autoQ [0] next_body s3 ?_
            conv => whnf
            repeat' ((first | refine Need.auto ?_ | refine Have.mk (fun _h => ?_)); conv => whnf)
            refine Br.yes (by decide) ?_
            conv => whnf
            repeat' ((first | refine Need.auto ?_ | refine Have.mk (fun _h => ?_)); conv => whnf)
            rcases hb2 with q2 | q2
            · rw [q2] at s2
              refine CallN.autoQ [0] next_body s2 ?_
              conv => whnf
              repeat' ((first | refine Need.auto ?_ | refine Have.mk (fun _h => ?_)); conv => whnf)
              refine Br.yes (by decide) ?_
              conv => whnf
              repeat' ((first | refine Need.auto ?_ | refine Have.mk (fun _h => ?_)); conv => whnf)
              refine CallN.autoQ [0] next_body (next_spec d.step.step hd.step.step 4) ?_; conv => whnf
              conv => whnf
              repeat' ((first | refine Need.auto ?_ | refine Have.mk (fun _h => ?_)); conv => whnf)
              refine CallN.pureA value_body (value_spec _ ) ?_
              conv => whnf
              repeat' ((first | refine Need.auto ?_ | refine Have.mk (fun _h => ?_)); conv => whnf)
              refine Dr.mkE hΓ hMix [] [(0, 8)] (by kernel_rfl) ?_; conv => whnf
              repeat' ((first | refine Need.auto ?_ | refine Have.mk (fun _h => ?_)); conv => whnf)
              refine Dr.mk hΓ hMix (by kernel_rfl) ?_; conv => whnf
              repeat' ((first | refine Need.auto ?_ | refine Have.mk (fun _h => ?_)); conv => whnf)
              refine CallP.auto returnedE_body (returnedE_spec (seqX i 2 0 (valueS (IntKind.i64.wrap (1 + d.step.step.next 4)))) ) ?_
              conv => whnf
              repeat' ((first | refine Need.auto ?_ | refine Have.mk (fun _h => ?_)); conv => whnf)
              refine ⟨(i + 1, ⟨d.step.step.step, cs ++ [(seqX i 2 0 (valueS (IntKind.i64.wrap (1 + d.step.step.next 4))))], a0 ++ [valueS (IntKind.i64.wrap (1 + d.step.step.next 4))], a1, valueS (IntKind.i64.wrap (1 + d.step.step.next 4)), n1⟩, true, false), ⟨by show i + 1 ≤ 20; omega, (hin.chg0 _ (.inl rfl) rfl), hd.step.step.step, fun q => by first | (cases q; done) | exact hf0 q, fun q => by first | (cases q; done) | exact hf1 q⟩, by show 20 - (i + 1) < 20 - i; omega, ?_⟩
              dsimp only [seqT, seqO]
              rw [hist_snoc]
              refine Mv.renW [0,1,2,3,4] (by decide) (fun q hq => absurd hq (Nat.not_lt_zero _)) (Nat.zero_le _) ?_ ?_ <;> (repeat' (first | exact WA.nil | refine WA.cons rfl ?_ ?_ | exact WB.nil | refine WB.cons ?_ ?_ | exact WT.nil | refine WT.cons ?_ ?_ | exact WH.nil | refine WH.cons ?_ ?_ | exact WR.nil | refine WR.cons rfl ?_ ?_ | refine WO.vr ?_ | exact WO.dead | exact WO.mpS | refine WO.mpA ?_ | refine WO.arrA ?_ | exact WS.u | refine WS.c ?_ | refine WS.a ?_ | refine WS.t ?_ | exact WL.nil | refine WL.cons ?_ ?_ | exact WTL.nil | refine WTL.consC ?_ ?_ | refine WTL.consL ?_ ?_ | exact WC.nils | exact WC.nil rfl | exact WC.nilp | refine WC.fzA | exact WC.ptr rfl (Nat.le_of_ble_eq_true rfl) | exact WC.mpr rfl (Nat.le_of_ble_eq_true rfl) | refine WC.slA | refine WC.intA | refine WC.int ?_ | refine WC.boolA | refine WC.bool ?_ | refine WC.strA | refine WC.str ?_ | exact WC.imm rfl))
              all_goals first
                | exact WC.sl rfl (Nat.le_of_ble_eq_true rfl) (lenA (by assumption)) (lenA (by assumption)) (fun q => by cases q)
                | exact WC.sl rfl (Nat.le_of_ble_eq_true rfl) lenT lenT (fun q => by cases q)
                | exact WC.sl rfl (Nat.le_of_ble_eq_true rfl) rfl rfl (fun q => by cases q)
                | exact WC.sl rfl (Nat.le_of_ble_eq_true rfl) lenH lenH (fun q => by cases q)
                | (refine WO.arr lenH ?_; intro q hq j hj; exact WC.eq (ev_snoc2 (x := (seqX i 2 0 (valueS (IntKind.i64.wrap (1 + d.step.step.next 4))))) (y := retE (seqX i 2 0 (valueS (IntKind.i64.wrap (1 + d.step.step.next 4))))) hq hj) (evCell_imm _ _))
                | (refine WO.arr (lenA (by assumption)) ?_; intro q hq j hj; exact WC.eq (strsSnoc1 (by assumption) hq hj) rfl)
                | (refine WO.arr lenT ?_; intro q hq j hj; exact WC.eq (strsSnoc hq hj) rfl)
                | (intro q hq j hj; exact WC.eq (ev_snoc2 (x := (seqX i 2 0 (valueS (IntKind.i64.wrap (1 + d.step.step.next 4))))) (y := retE (seqX i 2 0 (valueS (IntKind.i64.wrap (1 + d.step.step.next 4))))) hq hj) (evCell_imm _ _))
                | (intro q hq j hj; exact WC.eq (strsSnoc1 (by assumption) hq hj) rfl)
                | (intro q hq j hj; exact WC.eq (strsSnoc hq hj) rfl)
                | (intro q hq j hj; exact WC.eq (strsOne hq hj) rfl)
                | (intro q _ j _; exact WC.imm rfl)
                | skip
            · rw [q2] at s2
              refine CallN.autoQ [0] next_body s2 ?_
              conv => whnf
              repeat' ((first | refine Need.auto ?_ | refine Have.mk (fun _h => ?_)); conv => whnf)
              refine Br.yes (by decide) ?_
              conv => whnf
              repeat' ((first | refine Need.auto ?_ | refine Have.mk (fun _h => ?_)); conv => whnf)
              refine CallN.autoQ [0] next_body (next_spec d.step.step hd.step.step 4) ?_; conv => whnf
              conv => whnf
              repeat' ((first | refine Need.auto ?_ | refine Have.mk (fun _h => ?_)); conv => whnf)
              refine CallN.pureA value_body (value_spec _ ) ?_
              conv => whnf
              repeat' ((first | refine Need.auto ?_ | refine Have.mk (fun _h => ?_)); conv => whnf)
              refine Dr.mkE hΓ hMix [] [(0, 8)] (by kernel_rfl) ?_; conv => whnf
              repeat' ((first | refine Need.auto ?_ | refine Have.mk (fun _h => ?_)); conv => whnf)
              refine Dr.mk hΓ hMix (by kernel_rfl) ?_; conv => whnf
              repeat' ((first | refine Need.auto ?_ | refine Have.mk (fun _h => ?_)); conv => whnf)
              refine CallP.auto returnedE_body (returnedE_spec (seqX i 2 1 (valueS (IntKind.i64.wrap (1 + d.step.step.next 4)))) ) ?_
              conv => whnf
              repeat' ((first | refine Need.auto ?_ | refine Have.mk (fun _h => ?_)); conv => whnf)
              refine ⟨(i + 1, ⟨d.step.step.step, cs ++ [(seqX i 2 1 (valueS (IntKind.i64.wrap (1 + d.step.step.next 4))))], a0, a1 ++ [valueS (IntKind.i64.wrap (1 + d.step.step.next 4))], n0, valueS (IntKind.i64.wrap (1 + d.step.step.next 4))⟩, true, true), ⟨by show i + 1 ≤ 20; omega, (hin.chg1 _ (.inl rfl) rfl), hd.step.step.step, fun q => by first | (cases q; done) | exact hf0 q, fun q => by first | (cases q; done) | exact hf1 q⟩, by show 20 - (i + 1) < 20 - i; omega, ?_⟩
              dsimp only [seqT, seqO]
              rw [hist_snoc]
              refine Mv.renW [0,1,2,3,4,7] (by decide) (fun q hq => absurd hq (Nat.not_lt_zero _)) (Nat.zero_le _) ?_ ?_ <;> (repeat' (first | exact WA.nil | refine WA.cons rfl ?_ ?_ | exact WB.nil | refine WB.cons ?_ ?_ | exact WT.nil | refine WT.cons ?_ ?_ | exact WH.nil | refine WH.cons ?_ ?_ | exact WR.nil | refine WR.cons rfl ?_ ?_ | refine WO.vr ?_ | exact WO.dead | exact WO.mpS | refine WO.mpA ?_ | refine WO.arrA ?_ | exact WS.u | refine WS.c ?_ | refine WS.a ?_ | refine WS.t ?_ | exact WL.nil | refine WL.cons ?_ ?_ | exact WTL.nil | refine WTL.consC ?_ ?_ | refine WTL.consL ?_ ?_ | exact WC.nils | exact WC.nil rfl | exact WC.nilp | refine WC.fzA | exact WC.ptr rfl (Nat.le_of_ble_eq_true rfl) | exact WC.mpr rfl (Nat.le_of_ble_eq_true rfl) | refine WC.slA | refine WC.intA | refine WC.int ?_ | refine WC.boolA | refine WC.bool ?_ | refine WC.strA | refine WC.str ?_ | exact WC.imm rfl))
              all_goals first
                | exact WC.sl rfl (Nat.le_of_ble_eq_true rfl) (lenA (by assumption)) (lenA (by assumption)) (fun q => by cases q)
                | exact WC.sl rfl (Nat.le_of_ble_eq_true rfl) lenT lenT (fun q => by cases q)
                | exact WC.sl rfl (Nat.le_of_ble_eq_true rfl) rfl rfl (fun q => by cases q)
                | exact WC.sl rfl (Nat.le_of_ble_eq_true rfl) lenH lenH (fun q => by cases q)
                | (refine WO.arr lenH ?_; intro q hq j hj; exact WC.eq (ev_snoc2 (x := (seqX i 2 1 (valueS (IntKind.i64.wrap (1 + d.step.step.next 4))))) (y := retE (seqX i 2 1 (valueS (IntKind.i64.wrap (1 + d.step.step.next 4))))) hq hj) (evCell_imm _ _))
                | (refine WO.arr (lenA (by assumption)) ?_; intro q hq j hj; exact WC.eq (strsSnoc1 (by assumption) hq hj) rfl)
                | (refine WO.arr lenT ?_; intro q hq j hj; exact WC.eq (strsSnoc hq hj) rfl)
                | (intro q hq j hj; exact WC.eq (ev_snoc2 (x := (seqX i 2 1 (valueS (IntKind.i64.wrap (1 + d.step.step.next 4))))) (y := retE (seqX i 2 1 (valueS (IntKind.i64.wrap (1 + d.step.step.next 4))))) hq hj) (evCell_imm _ _))
                | (intro q hq j hj; exact WC.eq (strsSnoc1 (by assumption) hq hj) rfl)
                | (intro q hq j hj; exact WC.eq (strsSnoc hq hj) rfl)
                | (intro q hq j hj; exact WC.eq (strsOne hq hj) rfl)
                | (intro q _ j _; exact WC.imm rfl)
                | skip
          · rw [q3] at s3
            refine CallN.autoQ [0] next_body s3 ?_
            conv => whnf
            repeat' ((first | refine Need.auto ?_ | refine Have.mk (fun _h => ?_)); conv => whnf)
            refine Br.yes (by decide) ?_
            conv => whnf
            repeat' ((first | refine Need.auto ?_ | refine Have.mk (fun _h => ?_)); conv => whnf)
            rcases hb2 with q2 | q2
            · rw [q2] at s2
              refine CallN.autoQ [0] next_body s2 ?_
              conv => whnf
              repeat' ((first | refine Need.auto ?_ | refine Have.mk (fun _h => ?_)); conv => whnf)
              refine Br.no (by decide) ?_
              conv => whnf
              repeat' ((first | refine Need.auto ?_ | refine Have.mk (fun _h => ?_)); conv => whnf)
              refine Br.yes (by decide) ?_
              conv => whnf
              repeat' ((first | refine Need.auto ?_ | refine Have.mk (fun _h => ?_)); conv => whnf)
              refine Dr.mkE hΓ hMix [] [(0, 8)] (by kernel_rfl) ?_; conv => whnf
              repeat' ((first | refine Need.auto ?_ | refine Have.mk (fun _h => ?_)); conv => whnf)
              refine Dr.mk hΓ hMix (by kernel_rfl) ?_; conv => whnf
              repeat' ((first | refine Need.auto ?_ | refine Have.mk (fun _h => ?_)); conv => whnf)
              refine CallP.auto returnedE_body (returnedE_spec (seqX i 3 0 ByteArray.empty) ) ?_
              conv => whnf
              repeat' ((first | refine Need.auto ?_ | refine Have.mk (fun _h => ?_)); conv => whnf)
              refine ⟨(i + 1, ⟨d.step.step, cs ++ [(seqX i 3 0 ByteArray.empty)], a0 ++ [zeroB], a1, zeroB, n1⟩, true, false), ⟨by show i + 1 ≤ 20; omega, (hin.chg0 _ (.inr rfl) rfl), hd.step.step, fun q => by first | (cases q; done) | exact hf0 q, fun q => by first | (cases q; done) | exact hf1 q⟩, by show 20 - (i + 1) < 20 - i; omega, ?_⟩
              dsimp only [seqT, seqO]
              rw [hist_snoc]
              refine Mv.renW [0,1,2,3,4] (by decide) (fun q hq => absurd hq (Nat.not_lt_zero _)) (Nat.zero_le _) ?_ ?_ <;> (repeat' (first | exact WA.nil | refine WA.cons rfl ?_ ?_ | exact WB.nil | refine WB.cons ?_ ?_ | exact WT.nil | refine WT.cons ?_ ?_ | exact WH.nil | refine WH.cons ?_ ?_ | exact WR.nil | refine WR.cons rfl ?_ ?_ | refine WO.vr ?_ | exact WO.dead | exact WO.mpS | refine WO.mpA ?_ | refine WO.arrA ?_ | exact WS.u | refine WS.c ?_ | refine WS.a ?_ | refine WS.t ?_ | exact WL.nil | refine WL.cons ?_ ?_ | exact WTL.nil | refine WTL.consC ?_ ?_ | refine WTL.consL ?_ ?_ | exact WC.nils | exact WC.nil rfl | exact WC.nilp | refine WC.fzA | exact WC.ptr rfl (Nat.le_of_ble_eq_true rfl) | exact WC.mpr rfl (Nat.le_of_ble_eq_true rfl) | refine WC.slA | refine WC.intA | refine WC.int ?_ | refine WC.boolA | refine WC.bool ?_ | refine WC.strA | refine WC.str ?_ | exact WC.imm rfl))
              all_goals first
                | exact WC.sl rfl (Nat.le_of_ble_eq_true rfl) (lenA (by assumption)) (lenA (by assumption)) (fun q => by cases q)
                | exact WC.sl rfl (Nat.le_of_ble_eq_true rfl) lenT lenT (fun q => by cases q)
                | exact WC.sl rfl (Nat.le_of_ble_eq_true rfl) rfl rfl (fun q => by cases q)
                | exact WC.sl rfl (Nat.le_of_ble_eq_true rfl) lenH lenH (fun q => by cases q)
                | (refine WO.arr lenH ?_; intro q hq j hj; exact WC.eq (ev_snoc2 (x := (seqX i 3 0 ByteArray.empty)) (y := retE (seqX i 3 0 ByteArray.empty)) hq hj) (evCell_imm _ _))
                | (refine WO.arr (lenA (by assumption)) ?_; intro q hq j hj; exact WC.eq (strsSnoc1 (by assumption) hq hj) rfl)
                | (refine WO.arr lenT ?_; intro q hq j hj; exact WC.eq (strsSnoc hq hj) rfl)
                | (intro q hq j hj; exact WC.eq (ev_snoc2 (x := (seqX i 3 0 ByteArray.empty)) (y := retE (seqX i 3 0 ByteArray.empty)) hq hj) (evCell_imm _ _))
                | (intro q hq j hj; exact WC.eq (strsSnoc1 (by assumption) hq hj) rfl)
                | (intro q hq j hj; exact WC.eq (strsSnoc hq hj) rfl)
                | (intro q hq j hj; exact WC.eq (strsOne hq hj) rfl)
                | (intro q _ j _; exact WC.imm rfl)
                | skip
            · rw [q2] at s2
              refine CallN.autoQ [0] next_body s2 ?_
              conv => whnf
              repeat' ((first | refine Need.auto ?_ | refine Have.mk (fun _h => ?_)); conv => whnf)
              refine Br.no (by decide) ?_
              conv => whnf
              repeat' ((first | refine Need.auto ?_ | refine Have.mk (fun _h => ?_)); conv => whnf)
              refine Br.yes (by decide) ?_
              conv => whnf
              repeat' ((first | refine Need.auto ?_ | refine Have.mk (fun _h => ?_)); conv => whnf)
              refine Dr.mkE hΓ hMix [] [(0, 8)] (by kernel_rfl) ?_; conv => whnf
              repeat' ((first | refine Need.auto ?_ | refine Have.mk (fun _h => ?_)); conv => whnf)
              refine Dr.mk hΓ hMix (by kernel_rfl) ?_; conv => whnf
              repeat' ((first | refine Need.auto ?_ | refine Have.mk (fun _h => ?_)); conv => whnf)
              refine CallP.auto returnedE_body (returnedE_spec (seqX i 3 1 ByteArray.empty) ) ?_
              conv => whnf
              repeat' ((first | refine Need.auto ?_ | refine Have.mk (fun _h => ?_)); conv => whnf)
              refine ⟨(i + 1, ⟨d.step.step, cs ++ [(seqX i 3 1 ByteArray.empty)], a0, a1 ++ [zeroB], n0, zeroB⟩, true, true), ⟨by show i + 1 ≤ 20; omega, (hin.chg1 _ (.inr rfl) rfl), hd.step.step, fun q => by first | (cases q; done) | exact hf0 q, fun q => by first | (cases q; done) | exact hf1 q⟩, by show 20 - (i + 1) < 20 - i; omega, ?_⟩
              dsimp only [seqT, seqO]
              rw [hist_snoc]
              refine Mv.renW [0,1,2,3,4,7] (by decide) (fun q hq => absurd hq (Nat.not_lt_zero _)) (Nat.zero_le _) ?_ ?_ <;> (repeat' (first | exact WA.nil | refine WA.cons rfl ?_ ?_ | exact WB.nil | refine WB.cons ?_ ?_ | exact WT.nil | refine WT.cons ?_ ?_ | exact WH.nil | refine WH.cons ?_ ?_ | exact WR.nil | refine WR.cons rfl ?_ ?_ | refine WO.vr ?_ | exact WO.dead | exact WO.mpS | refine WO.mpA ?_ | refine WO.arrA ?_ | exact WS.u | refine WS.c ?_ | refine WS.a ?_ | refine WS.t ?_ | exact WL.nil | refine WL.cons ?_ ?_ | exact WTL.nil | refine WTL.consC ?_ ?_ | refine WTL.consL ?_ ?_ | exact WC.nils | exact WC.nil rfl | exact WC.nilp | refine WC.fzA | exact WC.ptr rfl (Nat.le_of_ble_eq_true rfl) | exact WC.mpr rfl (Nat.le_of_ble_eq_true rfl) | refine WC.slA | refine WC.intA | refine WC.int ?_ | refine WC.boolA | refine WC.bool ?_ | refine WC.strA | refine WC.str ?_ | exact WC.imm rfl))
              all_goals first
                | exact WC.sl rfl (Nat.le_of_ble_eq_true rfl) (lenA (by assumption)) (lenA (by assumption)) (fun q => by cases q)
                | exact WC.sl rfl (Nat.le_of_ble_eq_true rfl) lenT lenT (fun q => by cases q)
                | exact WC.sl rfl (Nat.le_of_ble_eq_true rfl) rfl rfl (fun q => by cases q)
                | exact WC.sl rfl (Nat.le_of_ble_eq_true rfl) lenH lenH (fun q => by cases q)
                | (refine WO.arr lenH ?_; intro q hq j hj; exact WC.eq (ev_snoc2 (x := (seqX i 3 1 ByteArray.empty)) (y := retE (seqX i 3 1 ByteArray.empty)) hq hj) (evCell_imm _ _))
                | (refine WO.arr (lenA (by assumption)) ?_; intro q hq j hj; exact WC.eq (strsSnoc1 (by assumption) hq hj) rfl)
                | (refine WO.arr lenT ?_; intro q hq j hj; exact WC.eq (strsSnoc hq hj) rfl)
                | (intro q hq j hj; exact WC.eq (ev_snoc2 (x := (seqX i 3 1 ByteArray.empty)) (y := retE (seqX i 3 1 ByteArray.empty)) hq hj) (evCell_imm _ _))
                | (intro q hq j hj; exact WC.eq (strsSnoc1 (by assumption) hq hj) rfl)
                | (intro q hq j hj; exact WC.eq (strsSnoc hq hj) rfl)
                | (intro q hq j hj; exact WC.eq (strsOne hq hj) rfl)
                | (intro q _ j _; exact WC.imm rfl)
                | skip
          · rw [q3] at s3
            refine CallN.autoQ [0] next_body s3 ?_
            conv => whnf
            repeat' ((first | refine Need.auto ?_ | refine Have.mk (fun _h => ?_)); conv => whnf)
            refine Br.no (by decide) ?_
            conv => whnf
            repeat' ((first | refine Need.auto ?_ | refine Have.mk (fun _h => ?_)); conv => whnf)
            refine Br.no (by decide) ?_
            conv => whnf
            repeat' ((first | refine Need.auto ?_ | refine Have.mk (fun _h => ?_)); conv => whnf)
            refine Br.no (by decide) ?_
            conv => whnf
            repeat' ((first | refine Need.auto ?_ | refine Have.mk (fun _h => ?_)); conv => whnf)
            refine Dr.mk hΓ hMix (by kernel_rfl) ?_; conv => whnf
            repeat' ((first | refine Need.auto ?_ | refine Have.mk (fun _h => ?_)); conv => whnf)
            refine CallP.auto returnedE_body (returnedE_spec (seqX i 4 0 ByteArray.empty) ) ?_
            conv => whnf
            repeat' ((first | refine Need.auto ?_ | refine Have.mk (fun _h => ?_)); conv => whnf)
            refine ⟨(i + 1, ⟨d.step, cs ++ [(seqX i 4 0 ByteArray.empty)], [n0], [n1], n0, n1⟩, true, true), ⟨by show i + 1 ≤ 20; omega, (hin.flush _), hd.step, fun q => by first | (cases q; done) | exact hf0 q, fun q => by first | (cases q; done) | exact hf1 q⟩, by show 20 - (i + 1) < 20 - i; omega, ?_⟩
            dsimp only [seqT, seqO]
            rw [hist_snoc]
            refine Mv.renW [0,1,2,3,6,7] (by decide) (fun q hq => absurd hq (Nat.not_lt_zero _)) (Nat.zero_le _) ?_ ?_ <;> (repeat' (first | exact WA.nil | refine WA.cons rfl ?_ ?_ | exact WB.nil | refine WB.cons ?_ ?_ | exact WT.nil | refine WT.cons ?_ ?_ | exact WH.nil | refine WH.cons ?_ ?_ | exact WR.nil | refine WR.cons rfl ?_ ?_ | refine WO.vr ?_ | exact WO.dead | exact WO.mpS | refine WO.mpA ?_ | refine WO.arrA ?_ | exact WS.u | refine WS.c ?_ | refine WS.a ?_ | refine WS.t ?_ | exact WL.nil | refine WL.cons ?_ ?_ | exact WTL.nil | refine WTL.consC ?_ ?_ | refine WTL.consL ?_ ?_ | exact WC.nils | exact WC.nil rfl | exact WC.nilp | refine WC.fzA | exact WC.ptr rfl (Nat.le_of_ble_eq_true rfl) | exact WC.mpr rfl (Nat.le_of_ble_eq_true rfl) | refine WC.slA | refine WC.intA | refine WC.int ?_ | refine WC.boolA | refine WC.bool ?_ | refine WC.strA | refine WC.str ?_ | exact WC.imm rfl))
            all_goals first
              | exact WC.sl rfl (Nat.le_of_ble_eq_true rfl) (lenA (by assumption)) (lenA (by assumption)) (fun q => by cases q)
              | exact WC.sl rfl (Nat.le_of_ble_eq_true rfl) lenT lenT (fun q => by cases q)
              | exact WC.sl rfl (Nat.le_of_ble_eq_true rfl) rfl rfl (fun q => by cases q)
              | exact WC.sl rfl (Nat.le_of_ble_eq_true rfl) lenH lenH (fun q => by cases q)
              | (refine WO.arr lenH ?_; intro q hq j hj; exact WC.eq (ev_snoc2 (x := (seqX i 4 0 ByteArray.empty)) (y := retE (seqX i 4 0 ByteArray.empty)) hq hj) (evCell_imm _ _))
              | (refine WO.arr (lenA (by assumption)) ?_; intro q hq j hj; exact WC.eq (strsSnoc1 (by assumption) hq hj) rfl)
              | (refine WO.arr lenT ?_; intro q hq j hj; exact WC.eq (strsSnoc hq hj) rfl)
              | (intro q hq j hj; exact WC.eq (ev_snoc2 (x := (seqX i 4 0 ByteArray.empty)) (y := retE (seqX i 4 0 ByteArray.empty)) hq hj) (evCell_imm _ _))
              | (intro q hq j hj; exact WC.eq (strsSnoc1 (by assumption) hq hj) rfl)
              | (intro q hq j hj; exact WC.eq (strsSnoc hq hj) rfl)
              | (intro q hq j hj; exact WC.eq (strsOne hq hj) rfl)
              | (intro q _ j _; exact WC.imm rfl)
              | skip
        · conv => whnf
          repeat' ((first | refine Need.auto ?_ | refine Have.mk (fun _h => ?_)); conv => whnf)
          obtain ⟨w1, w2, w3, w4, w5⟩ := hin.law hgi
          dsimp only at w1 w2 w3 w4 w5
          refine Lp.mkK hΓ (ι := Nat) [4] (fun b => [(11, .c (.int .i64 b)), (5, .c (evC (histM cs))), (6, .c (.ptr 1 0))]) (fun _ => [.vr d.cells, .vr [strsC a0, strsC a1]]) (fun b => b ≤ 2) (fun b => 2 - b) 0 (Nat.zero_le _) (((Mv.fz 3 rfl (Nat.zero_le _) (fun _ _ _ _ => evCell_imm _ _)).trans (Mv.fz 4 rfl (Nat.zero_le _) (fun _ _ _ _ => rfl))).trans (Mv.mkW ?_ ?_ (Nat.le_of_ble_eq_true rfl))) ?_
          · (repeat' (first | exact WA.nil | refine WA.cons rfl ?_ ?_ | exact WB.nil | refine WB.cons ?_ ?_ | exact WT.nil | refine WT.cons ?_ ?_ | exact WH.nil | refine WH.cons ?_ ?_ | exact WR.nil | refine WR.cons rfl ?_ ?_ | refine WO.vr ?_ | exact WO.dead | exact WO.mpS | refine WO.mpA ?_ | refine WO.arrA ?_ | exact WS.u | refine WS.c ?_ | refine WS.a ?_ | refine WS.t ?_ | exact WL.nil | refine WL.cons ?_ ?_ | exact WTL.nil | refine WTL.consC ?_ ?_ | refine WTL.consL ?_ ?_ | exact WC.nils | exact WC.nil rfl | exact WC.nilp | refine WC.fzA | exact WC.ptr rfl (Nat.le_of_ble_eq_true rfl) | exact WC.mpr rfl (Nat.le_of_ble_eq_true rfl) | refine WC.slA | refine WC.intA | refine WC.int ?_ | refine WC.boolA | refine WC.bool ?_ | refine WC.strA | refine WC.str ?_ | exact WC.imm rfl))
            all_goals first
              | exact WC.isl (by assumption) (fun _ _ _ _ => rfl) (fun q => by cases q)
              | exact WC.isl (by symm; assumption) (fun _ _ _ _ => rfl) (fun q => by cases q)
              | (rw [fzC_sl rfl]; exact WC.isl rfl (fun _ _ _ _ => rfl) (fun q => by cases q))
              | (rw [show ∀ n g, fzC 3 n g (C.sl 4 1 a0.length a0.length false) = C.sl 4 1 a0.length a0.length false from fun _ _ => rfl, fzC_sl rfl]; exact WC.isl rfl (fun _ _ _ _ => rfl) (fun q => by cases q))
              | skip
          · (repeat' (first | exact WA.nil | refine WA.cons rfl ?_ ?_ | exact WB.nil | refine WB.cons ?_ ?_ | exact WT.nil | refine WT.cons ?_ ?_ | exact WH.nil | refine WH.cons ?_ ?_ | exact WR.nil | refine WR.cons rfl ?_ ?_ | refine WO.vr ?_ | exact WO.dead | exact WO.mpS | refine WO.mpA ?_ | refine WO.arrA ?_ | exact WS.u | refine WS.c ?_ | refine WS.a ?_ | refine WS.t ?_ | exact WL.nil | refine WL.cons ?_ ?_ | exact WTL.nil | refine WTL.consC ?_ ?_ | refine WTL.consL ?_ ?_ | exact WC.nils | exact WC.nil rfl | exact WC.nilp | refine WC.fzA | exact WC.ptr rfl (Nat.le_of_ble_eq_true rfl) | exact WC.mpr rfl (Nat.le_of_ble_eq_true rfl) | refine WC.slA | refine WC.intA | refine WC.int ?_ | refine WC.boolA | refine WC.bool ?_ | refine WC.strA | refine WC.str ?_ | exact WC.imm rfl))
            all_goals (rw [fzC_sl rfl]; exact WC.isl rfl (fun _ _ _ _ => rfl) (fun q => by cases q))
          · intro b hb
            rcases (by omega : b = 0 ∨ b = 1 ∨ b = 2) with rfl | rfl | rfl
            · conv => whnf
              repeat' ((first | refine Need.auto ?_ | refine Have.mk (fun _h => ?_)); conv => whnf)
              refine Br.yes (by decide) ?_
              conv => whnf
              repeat' ((first | refine Need.auto ?_ | refine Have.mk (fun _h => ?_)); conv => whnf)
              refine CallN.pureA allowed_body (allowed_spec (zerosM 2) (histM cs) 0 (by omega) ) ?_
              conv => whnf
              repeat' ((first | refine Need.auto ?_ | refine Have.mk (fun _h => ?_)); conv => whnf)
              rw [allowed_eq]
              refine CallN.pureA within_body (within_spec (allowedR (zerosM 2) (histM cs) 0) a0 ) ?_
              conv => whnf
              repeat' ((first | refine Need.auto ?_ | refine Have.mk (fun _h => ?_)); conv => whnf)
              refine CallG.auto within_body (fun _ => within_spec a0 (allowedR (zerosM 2) (histM cs) 0) ) ?_
              conv => whnf
              repeat' ((first | refine Need.auto ?_ | refine Have.mk (fun _h => ?_)); conv => whnf)
              rw [w1, w2]
              refine Br.no rfl ?_
              conv => whnf
              repeat' ((first | refine Need.auto ?_ | refine Have.mk (fun _h => ?_)); conv => whnf)
              refine ⟨1, by omega, by omega, ?_⟩
              refine Mv.mkW ?_ ?_ (Nat.le_of_ble_eq_true rfl) <;> (repeat' (first | exact WA.nil | refine WA.cons rfl ?_ ?_ | exact WB.nil | refine WB.cons ?_ ?_ | exact WT.nil | refine WT.cons ?_ ?_ | exact WH.nil | refine WH.cons ?_ ?_ | exact WR.nil | refine WR.cons rfl ?_ ?_ | refine WO.vr ?_ | exact WO.dead | exact WO.mpS | refine WO.mpA ?_ | refine WO.arrA ?_ | exact WS.u | refine WS.c ?_ | refine WS.a ?_ | refine WS.t ?_ | exact WL.nil | refine WL.cons ?_ ?_ | exact WTL.nil | refine WTL.consC ?_ ?_ | refine WTL.consL ?_ ?_ | exact WC.nils | exact WC.nil rfl | exact WC.nilp | refine WC.fzA | exact WC.ptr rfl (Nat.le_of_ble_eq_true rfl) | exact WC.mpr rfl (Nat.le_of_ble_eq_true rfl) | refine WC.slA | refine WC.intA | refine WC.int ?_ | refine WC.boolA | refine WC.bool ?_ | refine WC.strA | refine WC.str ?_ | exact WC.imm rfl))
            · conv => whnf
              repeat' ((first | refine Need.auto ?_ | refine Have.mk (fun _h => ?_)); conv => whnf)
              refine Br.yes (by decide) ?_
              conv => whnf
              repeat' ((first | refine Need.auto ?_ | refine Have.mk (fun _h => ?_)); conv => whnf)
              refine CallN.pureA allowed_body (allowed_spec (zerosM 2) (histM cs) 1 (by omega) ) ?_
              conv => whnf
              repeat' ((first | refine Need.auto ?_ | refine Have.mk (fun _h => ?_)); conv => whnf)
              rw [allowed_eq]
              refine CallN.pureA within_body (within_spec (allowedR (zerosM 2) (histM cs) 1) a1 ) ?_
              conv => whnf
              repeat' ((first | refine Need.auto ?_ | refine Have.mk (fun _h => ?_)); conv => whnf)
              refine CallG.auto within_body (fun _ => within_spec a1 (allowedR (zerosM 2) (histM cs) 1) ) ?_
              conv => whnf
              repeat' ((first | refine Need.auto ?_ | refine Have.mk (fun _h => ?_)); conv => whnf)
              rw [w3, w4]
              refine Br.no rfl ?_
              conv => whnf
              repeat' ((first | refine Need.auto ?_ | refine Have.mk (fun _h => ?_)); conv => whnf)
              refine ⟨2, by omega, by omega, ?_⟩
              refine Mv.mkW ?_ ?_ (Nat.le_of_ble_eq_true rfl) <;> (repeat' (first | exact WA.nil | refine WA.cons rfl ?_ ?_ | exact WB.nil | refine WB.cons ?_ ?_ | exact WT.nil | refine WT.cons ?_ ?_ | exact WH.nil | refine WH.cons ?_ ?_ | exact WR.nil | refine WR.cons rfl ?_ ?_ | refine WO.vr ?_ | exact WO.dead | exact WO.mpS | refine WO.mpA ?_ | refine WO.arrA ?_ | exact WS.u | refine WS.c ?_ | refine WS.a ?_ | refine WS.t ?_ | exact WL.nil | refine WL.cons ?_ ?_ | exact WTL.nil | refine WTL.consC ?_ ?_ | refine WTL.consL ?_ ?_ | exact WC.nils | exact WC.nil rfl | exact WC.nilp | refine WC.fzA | exact WC.ptr rfl (Nat.le_of_ble_eq_true rfl) | exact WC.mpr rfl (Nat.le_of_ble_eq_true rfl) | refine WC.slA | refine WC.intA | refine WC.int ?_ | refine WC.boolA | refine WC.bool ?_ | refine WC.strA | refine WC.str ?_ | exact WC.imm rfl))
            · conv => whnf
              repeat' ((first | refine Need.auto ?_ | refine Have.mk (fun _h => ?_)); conv => whnf)
              refine Br.no (by decide) ?_
              conv => whnf
              repeat' ((first | refine Need.auto ?_ | refine Have.mk (fun _h => ?_)); conv => whnf)
              refine CallN.pureA check18_body (check18_spec 2 (histM cs) ) ?_
              conv => whnf
              repeat' ((first | refine Need.auto ?_ | refine Have.mk (fun _h => ?_)); conv => whnf)
              rw [w5]
              refine CallG.auto awake20_body (fun _ => awake20_spec ) ?_
              conv => whnf
              repeat' ((first | refine Need.auto ?_ | refine Have.mk (fun _h => ?_)); conv => whnf)
              refine RM.immW rfl ?_; (repeat' (first | exact WA.nil | refine WA.cons rfl ?_ ?_ | exact WB.nil | refine WB.cons ?_ ?_ | exact WT.nil | refine WT.cons ?_ ?_ | exact WH.nil | refine WH.cons ?_ ?_ | exact WR.nil | refine WR.cons rfl ?_ ?_ | refine WO.vr ?_ | exact WO.dead | exact WO.mpS | refine WO.mpA ?_ | refine WO.arrA ?_ | exact WS.u | refine WS.c ?_ | refine WS.a ?_ | refine WS.t ?_ | exact WL.nil | refine WL.cons ?_ ?_ | exact WTL.nil | refine WTL.consC ?_ ?_ | refine WTL.consL ?_ ?_ | exact WC.nils | exact WC.nil rfl | exact WC.nilp | refine WC.fzA | exact WC.ptr rfl (Nat.le_of_ble_eq_true rfl) | exact WC.mpr rfl (Nat.le_of_ble_eq_true rfl) | refine WC.slA | refine WC.intA | refine WC.int ?_ | refine WC.boolA | refine WC.bool ?_ | refine WC.strA | refine WC.str ?_ | exact WC.imm rfl))
      · (try have hz0 := hf0 rfl)
        (try have hz1 := hf1 rfl)
        dsimp only [seqT, seqO]
        conv => whnf
        repeat' ((first | refine Need.auto ?_ | refine Have.mk (fun _h => ?_)); conv => whnf)
        refine CallG.keepQ [0] rest_body (rest_spec d hd) (by (repeat' (first | exact WA.nil | refine WA.cons rfl ?_ ?_ | exact WB.nil | refine WB.cons ?_ ?_ | exact WT.nil | refine WT.cons ?_ ?_ | exact WH.nil | refine WH.cons ?_ ?_ | exact WR.nil | refine WR.cons rfl ?_ ?_ | refine WO.vr ?_ | exact WO.dead | exact WO.mpS | refine WO.mpA ?_ | refine WO.arrA ?_ | exact WS.u | refine WS.c ?_ | refine WS.a ?_ | refine WS.t ?_ | exact WL.nil | refine WL.cons ?_ ?_ | exact WTL.nil | refine WTL.consC ?_ ?_ | refine WTL.consL ?_ ?_ | exact WC.nils | exact WC.nil rfl | exact WC.nilp | refine WC.fzA | exact WC.ptr rfl (Nat.le_of_ble_eq_true rfl) | exact WC.mpr rfl (Nat.le_of_ble_eq_true rfl) | refine WC.slA | refine WC.intA | refine WC.int ?_ | refine WC.boolA | refine WC.bool ?_ | refine WC.strA | refine WC.str ?_ | exact WC.imm rfl))) (by (repeat' (first | exact WA.nil | refine WA.cons rfl ?_ ?_ | exact WB.nil | refine WB.cons ?_ ?_ | exact WT.nil | refine WT.cons ?_ ?_ | exact WH.nil | refine WH.cons ?_ ?_ | exact WR.nil | refine WR.cons rfl ?_ ?_ | refine WO.vr ?_ | exact WO.dead | exact WO.mpS | refine WO.mpA ?_ | refine WO.arrA ?_ | exact WS.u | refine WS.c ?_ | refine WS.a ?_ | refine WS.t ?_ | exact WL.nil | refine WL.cons ?_ ?_ | exact WTL.nil | refine WTL.consC ?_ ?_ | refine WTL.consL ?_ ?_ | exact WC.nils | exact WC.nil rfl | exact WC.nilp | refine WC.fzA | exact WC.ptr rfl (Nat.le_of_ble_eq_true rfl) | exact WC.mpr rfl (Nat.le_of_ble_eq_true rfl) | refine WC.slA | refine WC.intA | refine WC.int ?_ | refine WC.boolA | refine WC.bool ?_ | refine WC.strA | refine WC.str ?_ | exact WC.imm rfl))) ?_
        conv => whnf
        repeat' ((first | refine Need.auto ?_ | refine Have.mk (fun _h => ?_)); conv => whnf)
        refine Br.mk (fun hgo => ?_) (fun hgo => ?_)
        · have hi20 : i < 20 := by
            cases c : decide ((i : Int) < 20) with
            | true => have := of_decide_eq_true c; omega
            | false => rw [c] at hgo; cases hgo
          conv => whnf
          repeat' ((first | refine Need.auto ?_ | refine Have.mk (fun _h => ?_)); conv => whnf)
          rcases hk3 with q3 | q3 | q3
          · rw [q3] at s3
            refine CallN.autoQ [0] next_body s3 ?_
            conv => whnf
            repeat' ((first | refine Need.auto ?_ | refine Have.mk (fun _h => ?_)); conv => whnf)
            refine Br.yes (by decide) ?_
            conv => whnf
            repeat' ((first | refine Need.auto ?_ | refine Have.mk (fun _h => ?_)); conv => whnf)
            rcases hb2 with q2 | q2
            · rw [q2] at s2
              refine CallN.autoQ [0] next_body s2 ?_
              conv => whnf
              repeat' ((first | refine Need.auto ?_ | refine Have.mk (fun _h => ?_)); conv => whnf)
              refine Br.yes (by decide) ?_
              conv => whnf
              repeat' ((first | refine Need.auto ?_ | refine Have.mk (fun _h => ?_)); conv => whnf)
              refine CallN.autoQ [0] next_body (next_spec d.step.step hd.step.step 4) ?_; conv => whnf
              conv => whnf
              repeat' ((first | refine Need.auto ?_ | refine Have.mk (fun _h => ?_)); conv => whnf)
              refine CallN.pureA value_body (value_spec _ ) ?_
              conv => whnf
              repeat' ((first | refine Need.auto ?_ | refine Have.mk (fun _h => ?_)); conv => whnf)
              refine Dr.mkE hΓ hMix [] [(0, 8)] (by kernel_rfl) ?_; conv => whnf
              repeat' ((first | refine Need.auto ?_ | refine Have.mk (fun _h => ?_)); conv => whnf)
              refine Dr.mk hΓ hMix (by kernel_rfl) ?_; conv => whnf
              repeat' ((first | refine Need.auto ?_ | refine Have.mk (fun _h => ?_)); conv => whnf)
              refine CallP.auto returnedE_body (returnedE_spec (seqX i 2 0 (valueS (IntKind.i64.wrap (1 + d.step.step.next 4)))) ) ?_
              conv => whnf
              repeat' ((first | refine Need.auto ?_ | refine Have.mk (fun _h => ?_)); conv => whnf)
              refine ⟨(i + 1, ⟨d.step.step.step, cs ++ [(seqX i 2 0 (valueS (IntKind.i64.wrap (1 + d.step.step.next 4))))], a0 ++ [valueS (IntKind.i64.wrap (1 + d.step.step.next 4))], a1, valueS (IntKind.i64.wrap (1 + d.step.step.next 4)), n1⟩, true, true), ⟨by show i + 1 ≤ 20; omega, (hin.chg0 _ (.inl rfl) rfl), hd.step.step.step, fun q => by first | (cases q; done) | exact hf0 q, fun q => by first | (cases q; done) | exact hf1 q⟩, by show 20 - (i + 1) < 20 - i; omega, ?_⟩
              dsimp only [seqT, seqO]
              rw [hist_snoc]
              refine Mv.renW [0,1,2,3,4,5] (by decide) (fun q hq => absurd hq (Nat.not_lt_zero _)) (Nat.zero_le _) ?_ ?_ <;> (repeat' (first | exact WA.nil | refine WA.cons rfl ?_ ?_ | exact WB.nil | refine WB.cons ?_ ?_ | exact WT.nil | refine WT.cons ?_ ?_ | exact WH.nil | refine WH.cons ?_ ?_ | exact WR.nil | refine WR.cons rfl ?_ ?_ | refine WO.vr ?_ | exact WO.dead | exact WO.mpS | refine WO.mpA ?_ | refine WO.arrA ?_ | exact WS.u | refine WS.c ?_ | refine WS.a ?_ | refine WS.t ?_ | exact WL.nil | refine WL.cons ?_ ?_ | exact WTL.nil | refine WTL.consC ?_ ?_ | refine WTL.consL ?_ ?_ | exact WC.nils | exact WC.nil rfl | exact WC.nilp | refine WC.fzA | exact WC.ptr rfl (Nat.le_of_ble_eq_true rfl) | exact WC.mpr rfl (Nat.le_of_ble_eq_true rfl) | refine WC.slA | refine WC.intA | refine WC.int ?_ | refine WC.boolA | refine WC.bool ?_ | refine WC.strA | refine WC.str ?_ | exact WC.imm rfl))
              all_goals first
                | exact WC.sl rfl (Nat.le_of_ble_eq_true rfl) (lenA (by assumption)) (lenA (by assumption)) (fun q => by cases q)
                | exact WC.sl rfl (Nat.le_of_ble_eq_true rfl) lenT lenT (fun q => by cases q)
                | exact WC.sl rfl (Nat.le_of_ble_eq_true rfl) rfl rfl (fun q => by cases q)
                | exact WC.sl rfl (Nat.le_of_ble_eq_true rfl) lenH lenH (fun q => by cases q)
                | (refine WO.arr lenH ?_; intro q hq j hj; exact WC.eq (ev_snoc2 (x := (seqX i 2 0 (valueS (IntKind.i64.wrap (1 + d.step.step.next 4))))) (y := retE (seqX i 2 0 (valueS (IntKind.i64.wrap (1 + d.step.step.next 4))))) hq hj) (evCell_imm _ _))
                | (refine WO.arr (lenA (by assumption)) ?_; intro q hq j hj; exact WC.eq (strsSnoc1 (by assumption) hq hj) rfl)
                | (refine WO.arr lenT ?_; intro q hq j hj; exact WC.eq (strsSnoc hq hj) rfl)
                | (intro q hq j hj; exact WC.eq (ev_snoc2 (x := (seqX i 2 0 (valueS (IntKind.i64.wrap (1 + d.step.step.next 4))))) (y := retE (seqX i 2 0 (valueS (IntKind.i64.wrap (1 + d.step.step.next 4))))) hq hj) (evCell_imm _ _))
                | (intro q hq j hj; exact WC.eq (strsSnoc1 (by assumption) hq hj) rfl)
                | (intro q hq j hj; exact WC.eq (strsSnoc hq hj) rfl)
                | (intro q hq j hj; exact WC.eq (strsOne hq hj) rfl)
                | (intro q _ j _; exact WC.imm rfl)
                | skip
            · rw [q2] at s2
              refine CallN.autoQ [0] next_body s2 ?_
              conv => whnf
              repeat' ((first | refine Need.auto ?_ | refine Have.mk (fun _h => ?_)); conv => whnf)
              refine Br.yes (by decide) ?_
              conv => whnf
              repeat' ((first | refine Need.auto ?_ | refine Have.mk (fun _h => ?_)); conv => whnf)
              refine CallN.autoQ [0] next_body (next_spec d.step.step hd.step.step 4) ?_; conv => whnf
              conv => whnf
              repeat' ((first | refine Need.auto ?_ | refine Have.mk (fun _h => ?_)); conv => whnf)
              refine CallN.pureA value_body (value_spec _ ) ?_
              conv => whnf
              repeat' ((first | refine Need.auto ?_ | refine Have.mk (fun _h => ?_)); conv => whnf)
              refine Dr.mkE hΓ hMix [] [(0, 8)] (by kernel_rfl) ?_; conv => whnf
              repeat' ((first | refine Need.auto ?_ | refine Have.mk (fun _h => ?_)); conv => whnf)
              refine Dr.mk hΓ hMix (by kernel_rfl) ?_; conv => whnf
              repeat' ((first | refine Need.auto ?_ | refine Have.mk (fun _h => ?_)); conv => whnf)
              refine CallP.auto returnedE_body (returnedE_spec (seqX i 2 1 (valueS (IntKind.i64.wrap (1 + d.step.step.next 4)))) ) ?_
              conv => whnf
              repeat' ((first | refine Need.auto ?_ | refine Have.mk (fun _h => ?_)); conv => whnf)
              refine ⟨(i + 1, ⟨d.step.step.step, cs ++ [(seqX i 2 1 (valueS (IntKind.i64.wrap (1 + d.step.step.next 4))))], a0, a1 ++ [valueS (IntKind.i64.wrap (1 + d.step.step.next 4))], n0, valueS (IntKind.i64.wrap (1 + d.step.step.next 4))⟩, true, true), ⟨by show i + 1 ≤ 20; omega, (hin.chg1 _ (.inl rfl) rfl), hd.step.step.step, fun q => by first | (cases q; done) | exact hf0 q, fun q => by first | (cases q; done) | exact hf1 q⟩, by show 20 - (i + 1) < 20 - i; omega, ?_⟩
              dsimp only [seqT, seqO]
              rw [hist_snoc]
              refine Mv.renW [0,1,2,3,4,5] (by decide) (fun q hq => absurd hq (Nat.not_lt_zero _)) (Nat.zero_le _) ?_ ?_ <;> (repeat' (first | exact WA.nil | refine WA.cons rfl ?_ ?_ | exact WB.nil | refine WB.cons ?_ ?_ | exact WT.nil | refine WT.cons ?_ ?_ | exact WH.nil | refine WH.cons ?_ ?_ | exact WR.nil | refine WR.cons rfl ?_ ?_ | refine WO.vr ?_ | exact WO.dead | exact WO.mpS | refine WO.mpA ?_ | refine WO.arrA ?_ | exact WS.u | refine WS.c ?_ | refine WS.a ?_ | refine WS.t ?_ | exact WL.nil | refine WL.cons ?_ ?_ | exact WTL.nil | refine WTL.consC ?_ ?_ | refine WTL.consL ?_ ?_ | exact WC.nils | exact WC.nil rfl | exact WC.nilp | refine WC.fzA | exact WC.ptr rfl (Nat.le_of_ble_eq_true rfl) | exact WC.mpr rfl (Nat.le_of_ble_eq_true rfl) | refine WC.slA | refine WC.intA | refine WC.int ?_ | refine WC.boolA | refine WC.bool ?_ | refine WC.strA | refine WC.str ?_ | exact WC.imm rfl))
              all_goals first
                | exact WC.sl rfl (Nat.le_of_ble_eq_true rfl) (lenA (by assumption)) (lenA (by assumption)) (fun q => by cases q)
                | exact WC.sl rfl (Nat.le_of_ble_eq_true rfl) lenT lenT (fun q => by cases q)
                | exact WC.sl rfl (Nat.le_of_ble_eq_true rfl) rfl rfl (fun q => by cases q)
                | exact WC.sl rfl (Nat.le_of_ble_eq_true rfl) lenH lenH (fun q => by cases q)
                | (refine WO.arr lenH ?_; intro q hq j hj; exact WC.eq (ev_snoc2 (x := (seqX i 2 1 (valueS (IntKind.i64.wrap (1 + d.step.step.next 4))))) (y := retE (seqX i 2 1 (valueS (IntKind.i64.wrap (1 + d.step.step.next 4))))) hq hj) (evCell_imm _ _))
                | (refine WO.arr (lenA (by assumption)) ?_; intro q hq j hj; exact WC.eq (strsSnoc1 (by assumption) hq hj) rfl)
                | (refine WO.arr lenT ?_; intro q hq j hj; exact WC.eq (strsSnoc hq hj) rfl)
                | (intro q hq j hj; exact WC.eq (ev_snoc2 (x := (seqX i 2 1 (valueS (IntKind.i64.wrap (1 + d.step.step.next 4))))) (y := retE (seqX i 2 1 (valueS (IntKind.i64.wrap (1 + d.step.step.next 4))))) hq hj) (evCell_imm _ _))
                | (intro q hq j hj; exact WC.eq (strsSnoc1 (by assumption) hq hj) rfl)
                | (intro q hq j hj; exact WC.eq (strsSnoc hq hj) rfl)
                | (intro q hq j hj; exact WC.eq (strsOne hq hj) rfl)
                | (intro q _ j _; exact WC.imm rfl)
                | skip
          · rw [q3] at s3
            refine CallN.autoQ [0] next_body s3 ?_
            conv => whnf
            repeat' ((first | refine Need.auto ?_ | refine Have.mk (fun _h => ?_)); conv => whnf)
            refine Br.yes (by decide) ?_
            conv => whnf
            repeat' ((first | refine Need.auto ?_ | refine Have.mk (fun _h => ?_)); conv => whnf)
            rcases hb2 with q2 | q2
            · rw [q2] at s2
              refine CallN.autoQ [0] next_body s2 ?_
              conv => whnf
              repeat' ((first | refine Need.auto ?_ | refine Have.mk (fun _h => ?_)); conv => whnf)
              refine Br.no (by decide) ?_
              conv => whnf
              repeat' ((first | refine Need.auto ?_ | refine Have.mk (fun _h => ?_)); conv => whnf)
              refine Br.yes (by decide) ?_
              conv => whnf
              repeat' ((first | refine Need.auto ?_ | refine Have.mk (fun _h => ?_)); conv => whnf)
              refine Dr.mkE hΓ hMix [] [(0, 8)] (by kernel_rfl) ?_; conv => whnf
              repeat' ((first | refine Need.auto ?_ | refine Have.mk (fun _h => ?_)); conv => whnf)
              refine Dr.mk hΓ hMix (by kernel_rfl) ?_; conv => whnf
              repeat' ((first | refine Need.auto ?_ | refine Have.mk (fun _h => ?_)); conv => whnf)
              refine CallP.auto returnedE_body (returnedE_spec (seqX i 3 0 ByteArray.empty) ) ?_
              conv => whnf
              repeat' ((first | refine Need.auto ?_ | refine Have.mk (fun _h => ?_)); conv => whnf)
              refine ⟨(i + 1, ⟨d.step.step, cs ++ [(seqX i 3 0 ByteArray.empty)], a0 ++ [zeroB], a1, zeroB, n1⟩, true, true), ⟨by show i + 1 ≤ 20; omega, (hin.chg0 _ (.inr rfl) rfl), hd.step.step, fun q => by first | (cases q; done) | exact hf0 q, fun q => by first | (cases q; done) | exact hf1 q⟩, by show 20 - (i + 1) < 20 - i; omega, ?_⟩
              dsimp only [seqT, seqO]
              rw [hist_snoc]
              refine Mv.renW [0,1,2,3,4,5] (by decide) (fun q hq => absurd hq (Nat.not_lt_zero _)) (Nat.zero_le _) ?_ ?_ <;> (repeat' (first | exact WA.nil | refine WA.cons rfl ?_ ?_ | exact WB.nil | refine WB.cons ?_ ?_ | exact WT.nil | refine WT.cons ?_ ?_ | exact WH.nil | refine WH.cons ?_ ?_ | exact WR.nil | refine WR.cons rfl ?_ ?_ | refine WO.vr ?_ | exact WO.dead | exact WO.mpS | refine WO.mpA ?_ | refine WO.arrA ?_ | exact WS.u | refine WS.c ?_ | refine WS.a ?_ | refine WS.t ?_ | exact WL.nil | refine WL.cons ?_ ?_ | exact WTL.nil | refine WTL.consC ?_ ?_ | refine WTL.consL ?_ ?_ | exact WC.nils | exact WC.nil rfl | exact WC.nilp | refine WC.fzA | exact WC.ptr rfl (Nat.le_of_ble_eq_true rfl) | exact WC.mpr rfl (Nat.le_of_ble_eq_true rfl) | refine WC.slA | refine WC.intA | refine WC.int ?_ | refine WC.boolA | refine WC.bool ?_ | refine WC.strA | refine WC.str ?_ | exact WC.imm rfl))
              all_goals first
                | exact WC.sl rfl (Nat.le_of_ble_eq_true rfl) (lenA (by assumption)) (lenA (by assumption)) (fun q => by cases q)
                | exact WC.sl rfl (Nat.le_of_ble_eq_true rfl) lenT lenT (fun q => by cases q)
                | exact WC.sl rfl (Nat.le_of_ble_eq_true rfl) rfl rfl (fun q => by cases q)
                | exact WC.sl rfl (Nat.le_of_ble_eq_true rfl) lenH lenH (fun q => by cases q)
                | (refine WO.arr lenH ?_; intro q hq j hj; exact WC.eq (ev_snoc2 (x := (seqX i 3 0 ByteArray.empty)) (y := retE (seqX i 3 0 ByteArray.empty)) hq hj) (evCell_imm _ _))
                | (refine WO.arr (lenA (by assumption)) ?_; intro q hq j hj; exact WC.eq (strsSnoc1 (by assumption) hq hj) rfl)
                | (refine WO.arr lenT ?_; intro q hq j hj; exact WC.eq (strsSnoc hq hj) rfl)
                | (intro q hq j hj; exact WC.eq (ev_snoc2 (x := (seqX i 3 0 ByteArray.empty)) (y := retE (seqX i 3 0 ByteArray.empty)) hq hj) (evCell_imm _ _))
                | (intro q hq j hj; exact WC.eq (strsSnoc1 (by assumption) hq hj) rfl)
                | (intro q hq j hj; exact WC.eq (strsSnoc hq hj) rfl)
                | (intro q hq j hj; exact WC.eq (strsOne hq hj) rfl)
                | (intro q _ j _; exact WC.imm rfl)
                | skip
            · rw [q2] at s2
              refine CallN.autoQ [0] next_body s2 ?_
              conv => whnf
              repeat' ((first | refine Need.auto ?_ | refine Have.mk (fun _h => ?_)); conv => whnf)
              refine Br.no (by decide) ?_
              conv => whnf
              repeat' ((first | refine Need.auto ?_ | refine Have.mk (fun _h => ?_)); conv => whnf)
              refine Br.yes (by decide) ?_
              conv => whnf
              repeat' ((first | refine Need.auto ?_ | refine Have.mk (fun _h => ?_)); conv => whnf)
              refine Dr.mkE hΓ hMix [] [(0, 8)] (by kernel_rfl) ?_; conv => whnf
              repeat' ((first | refine Need.auto ?_ | refine Have.mk (fun _h => ?_)); conv => whnf)
              refine Dr.mk hΓ hMix (by kernel_rfl) ?_; conv => whnf
              repeat' ((first | refine Need.auto ?_ | refine Have.mk (fun _h => ?_)); conv => whnf)
              refine CallP.auto returnedE_body (returnedE_spec (seqX i 3 1 ByteArray.empty) ) ?_
              conv => whnf
              repeat' ((first | refine Need.auto ?_ | refine Have.mk (fun _h => ?_)); conv => whnf)
              refine ⟨(i + 1, ⟨d.step.step, cs ++ [(seqX i 3 1 ByteArray.empty)], a0, a1 ++ [zeroB], n0, zeroB⟩, true, true), ⟨by show i + 1 ≤ 20; omega, (hin.chg1 _ (.inr rfl) rfl), hd.step.step, fun q => by first | (cases q; done) | exact hf0 q, fun q => by first | (cases q; done) | exact hf1 q⟩, by show 20 - (i + 1) < 20 - i; omega, ?_⟩
              dsimp only [seqT, seqO]
              rw [hist_snoc]
              refine Mv.renW [0,1,2,3,4,5] (by decide) (fun q hq => absurd hq (Nat.not_lt_zero _)) (Nat.zero_le _) ?_ ?_ <;> (repeat' (first | exact WA.nil | refine WA.cons rfl ?_ ?_ | exact WB.nil | refine WB.cons ?_ ?_ | exact WT.nil | refine WT.cons ?_ ?_ | exact WH.nil | refine WH.cons ?_ ?_ | exact WR.nil | refine WR.cons rfl ?_ ?_ | refine WO.vr ?_ | exact WO.dead | exact WO.mpS | refine WO.mpA ?_ | refine WO.arrA ?_ | exact WS.u | refine WS.c ?_ | refine WS.a ?_ | refine WS.t ?_ | exact WL.nil | refine WL.cons ?_ ?_ | exact WTL.nil | refine WTL.consC ?_ ?_ | refine WTL.consL ?_ ?_ | exact WC.nils | exact WC.nil rfl | exact WC.nilp | refine WC.fzA | exact WC.ptr rfl (Nat.le_of_ble_eq_true rfl) | exact WC.mpr rfl (Nat.le_of_ble_eq_true rfl) | refine WC.slA | refine WC.intA | refine WC.int ?_ | refine WC.boolA | refine WC.bool ?_ | refine WC.strA | refine WC.str ?_ | exact WC.imm rfl))
              all_goals first
                | exact WC.sl rfl (Nat.le_of_ble_eq_true rfl) (lenA (by assumption)) (lenA (by assumption)) (fun q => by cases q)
                | exact WC.sl rfl (Nat.le_of_ble_eq_true rfl) lenT lenT (fun q => by cases q)
                | exact WC.sl rfl (Nat.le_of_ble_eq_true rfl) rfl rfl (fun q => by cases q)
                | exact WC.sl rfl (Nat.le_of_ble_eq_true rfl) lenH lenH (fun q => by cases q)
                | (refine WO.arr lenH ?_; intro q hq j hj; exact WC.eq (ev_snoc2 (x := (seqX i 3 1 ByteArray.empty)) (y := retE (seqX i 3 1 ByteArray.empty)) hq hj) (evCell_imm _ _))
                | (refine WO.arr (lenA (by assumption)) ?_; intro q hq j hj; exact WC.eq (strsSnoc1 (by assumption) hq hj) rfl)
                | (refine WO.arr lenT ?_; intro q hq j hj; exact WC.eq (strsSnoc hq hj) rfl)
                | (intro q hq j hj; exact WC.eq (ev_snoc2 (x := (seqX i 3 1 ByteArray.empty)) (y := retE (seqX i 3 1 ByteArray.empty)) hq hj) (evCell_imm _ _))
                | (intro q hq j hj; exact WC.eq (strsSnoc1 (by assumption) hq hj) rfl)
                | (intro q hq j hj; exact WC.eq (strsSnoc hq hj) rfl)
                | (intro q hq j hj; exact WC.eq (strsOne hq hj) rfl)
                | (intro q _ j _; exact WC.imm rfl)
                | skip
          · rw [q3] at s3
            refine CallN.autoQ [0] next_body s3 ?_
            conv => whnf
            repeat' ((first | refine Need.auto ?_ | refine Have.mk (fun _h => ?_)); conv => whnf)
            refine Br.no (by decide) ?_
            conv => whnf
            repeat' ((first | refine Need.auto ?_ | refine Have.mk (fun _h => ?_)); conv => whnf)
            refine Br.no (by decide) ?_
            conv => whnf
            repeat' ((first | refine Need.auto ?_ | refine Have.mk (fun _h => ?_)); conv => whnf)
            refine Br.no (by decide) ?_
            conv => whnf
            repeat' ((first | refine Need.auto ?_ | refine Have.mk (fun _h => ?_)); conv => whnf)
            refine Dr.mk hΓ hMix (by kernel_rfl) ?_; conv => whnf
            repeat' ((first | refine Need.auto ?_ | refine Have.mk (fun _h => ?_)); conv => whnf)
            refine CallP.auto returnedE_body (returnedE_spec (seqX i 4 0 ByteArray.empty) ) ?_
            conv => whnf
            repeat' ((first | refine Need.auto ?_ | refine Have.mk (fun _h => ?_)); conv => whnf)
            refine ⟨(i + 1, ⟨d.step, cs ++ [(seqX i 4 0 ByteArray.empty)], [n0], [n1], n0, n1⟩, true, true), ⟨by show i + 1 ≤ 20; omega, (hin.flush _), hd.step, fun q => by first | (cases q; done) | exact hf0 q, fun q => by first | (cases q; done) | exact hf1 q⟩, by show 20 - (i + 1) < 20 - i; omega, ?_⟩
            dsimp only [seqT, seqO]
            rw [hist_snoc]
            refine Mv.renW [0,1,2,3,7,8] (by decide) (fun q hq => absurd hq (Nat.not_lt_zero _)) (Nat.zero_le _) ?_ ?_ <;> (repeat' (first | exact WA.nil | refine WA.cons rfl ?_ ?_ | exact WB.nil | refine WB.cons ?_ ?_ | exact WT.nil | refine WT.cons ?_ ?_ | exact WH.nil | refine WH.cons ?_ ?_ | exact WR.nil | refine WR.cons rfl ?_ ?_ | refine WO.vr ?_ | exact WO.dead | exact WO.mpS | refine WO.mpA ?_ | refine WO.arrA ?_ | exact WS.u | refine WS.c ?_ | refine WS.a ?_ | refine WS.t ?_ | exact WL.nil | refine WL.cons ?_ ?_ | exact WTL.nil | refine WTL.consC ?_ ?_ | refine WTL.consL ?_ ?_ | exact WC.nils | exact WC.nil rfl | exact WC.nilp | refine WC.fzA | exact WC.ptr rfl (Nat.le_of_ble_eq_true rfl) | exact WC.mpr rfl (Nat.le_of_ble_eq_true rfl) | refine WC.slA | refine WC.intA | refine WC.int ?_ | refine WC.boolA | refine WC.bool ?_ | refine WC.strA | refine WC.str ?_ | exact WC.imm rfl))
            all_goals first
              | exact WC.sl rfl (Nat.le_of_ble_eq_true rfl) (lenA (by assumption)) (lenA (by assumption)) (fun q => by cases q)
              | exact WC.sl rfl (Nat.le_of_ble_eq_true rfl) lenT lenT (fun q => by cases q)
              | exact WC.sl rfl (Nat.le_of_ble_eq_true rfl) rfl rfl (fun q => by cases q)
              | exact WC.sl rfl (Nat.le_of_ble_eq_true rfl) lenH lenH (fun q => by cases q)
              | (refine WO.arr lenH ?_; intro q hq j hj; exact WC.eq (ev_snoc2 (x := (seqX i 4 0 ByteArray.empty)) (y := retE (seqX i 4 0 ByteArray.empty)) hq hj) (evCell_imm _ _))
              | (refine WO.arr (lenA (by assumption)) ?_; intro q hq j hj; exact WC.eq (strsSnoc1 (by assumption) hq hj) rfl)
              | (refine WO.arr lenT ?_; intro q hq j hj; exact WC.eq (strsSnoc hq hj) rfl)
              | (intro q hq j hj; exact WC.eq (ev_snoc2 (x := (seqX i 4 0 ByteArray.empty)) (y := retE (seqX i 4 0 ByteArray.empty)) hq hj) (evCell_imm _ _))
              | (intro q hq j hj; exact WC.eq (strsSnoc1 (by assumption) hq hj) rfl)
              | (intro q hq j hj; exact WC.eq (strsSnoc hq hj) rfl)
              | (intro q hq j hj; exact WC.eq (strsOne hq hj) rfl)
              | (intro q _ j _; exact WC.imm rfl)
              | skip
        · conv => whnf
          repeat' ((first | refine Need.auto ?_ | refine Have.mk (fun _h => ?_)); conv => whnf)
          obtain ⟨w1, w2, w3, w4, w5⟩ := hin.law hgi
          dsimp only at w1 w2 w3 w4 w5
          refine Lp.mkK hΓ (ι := Nat) [4] (fun b => [(11, .c (.int .i64 b)), (5, .c (evC (histM cs))), (6, .c (.ptr 1 0))]) (fun _ => [.vr d.cells, .vr [strsC a0, strsC a1]]) (fun b => b ≤ 2) (fun b => 2 - b) 0 (Nat.zero_le _) (((Mv.fz 3 rfl (Nat.zero_le _) (fun _ _ _ _ => evCell_imm _ _)).trans ((Mv.fz 4 rfl (Nat.zero_le _) (fun _ _ _ _ => rfl)).trans (Mv.fz 5 rfl (Nat.zero_le _) (fun _ _ _ _ => rfl)))).trans (Mv.mkW ?_ ?_ (Nat.le_of_ble_eq_true rfl))) ?_
          · (repeat' (first | exact WA.nil | refine WA.cons rfl ?_ ?_ | exact WB.nil | refine WB.cons ?_ ?_ | exact WT.nil | refine WT.cons ?_ ?_ | exact WH.nil | refine WH.cons ?_ ?_ | exact WR.nil | refine WR.cons rfl ?_ ?_ | refine WO.vr ?_ | exact WO.dead | exact WO.mpS | refine WO.mpA ?_ | refine WO.arrA ?_ | exact WS.u | refine WS.c ?_ | refine WS.a ?_ | refine WS.t ?_ | exact WL.nil | refine WL.cons ?_ ?_ | exact WTL.nil | refine WTL.consC ?_ ?_ | refine WTL.consL ?_ ?_ | exact WC.nils | exact WC.nil rfl | exact WC.nilp | refine WC.fzA | exact WC.ptr rfl (Nat.le_of_ble_eq_true rfl) | exact WC.mpr rfl (Nat.le_of_ble_eq_true rfl) | refine WC.slA | refine WC.intA | refine WC.int ?_ | refine WC.boolA | refine WC.bool ?_ | refine WC.strA | refine WC.str ?_ | exact WC.imm rfl))
            all_goals first
              | exact WC.isl (by assumption) (fun _ _ _ _ => rfl) (fun q => by cases q)
              | exact WC.isl (by symm; assumption) (fun _ _ _ _ => rfl) (fun q => by cases q)
              | (rw [fzC_sl rfl]; exact WC.isl rfl (fun _ _ _ _ => rfl) (fun q => by cases q))
              | (rw [show ∀ n g, fzC 3 n g (C.sl 4 1 a0.length a0.length false) = C.sl 4 1 a0.length a0.length false from fun _ _ => rfl, fzC_sl rfl]; exact WC.isl rfl (fun _ _ _ _ => rfl) (fun q => by cases q))
              | skip
          · (repeat' (first | exact WA.nil | refine WA.cons rfl ?_ ?_ | exact WB.nil | refine WB.cons ?_ ?_ | exact WT.nil | refine WT.cons ?_ ?_ | exact WH.nil | refine WH.cons ?_ ?_ | exact WR.nil | refine WR.cons rfl ?_ ?_ | refine WO.vr ?_ | exact WO.dead | exact WO.mpS | refine WO.mpA ?_ | refine WO.arrA ?_ | exact WS.u | refine WS.c ?_ | refine WS.a ?_ | refine WS.t ?_ | exact WL.nil | refine WL.cons ?_ ?_ | exact WTL.nil | refine WTL.consC ?_ ?_ | refine WTL.consL ?_ ?_ | exact WC.nils | exact WC.nil rfl | exact WC.nilp | refine WC.fzA | exact WC.ptr rfl (Nat.le_of_ble_eq_true rfl) | exact WC.mpr rfl (Nat.le_of_ble_eq_true rfl) | refine WC.slA | refine WC.intA | refine WC.int ?_ | refine WC.boolA | refine WC.bool ?_ | refine WC.strA | refine WC.str ?_ | exact WC.imm rfl))
            all_goals (rw [fzC_sl rfl]; exact WC.isl rfl (fun _ _ _ _ => rfl) (fun q => by cases q))
          · intro b hb
            rcases (by omega : b = 0 ∨ b = 1 ∨ b = 2) with rfl | rfl | rfl
            · conv => whnf
              repeat' ((first | refine Need.auto ?_ | refine Have.mk (fun _h => ?_)); conv => whnf)
              refine Br.yes (by decide) ?_
              conv => whnf
              repeat' ((first | refine Need.auto ?_ | refine Have.mk (fun _h => ?_)); conv => whnf)
              refine CallN.pureA allowed_body (allowed_spec (zerosM 2) (histM cs) 0 (by omega) ) ?_
              conv => whnf
              repeat' ((first | refine Need.auto ?_ | refine Have.mk (fun _h => ?_)); conv => whnf)
              rw [allowed_eq]
              refine CallN.pureA within_body (within_spec (allowedR (zerosM 2) (histM cs) 0) a0 ) ?_
              conv => whnf
              repeat' ((first | refine Need.auto ?_ | refine Have.mk (fun _h => ?_)); conv => whnf)
              refine CallG.auto within_body (fun _ => within_spec a0 (allowedR (zerosM 2) (histM cs) 0) ) ?_
              conv => whnf
              repeat' ((first | refine Need.auto ?_ | refine Have.mk (fun _h => ?_)); conv => whnf)
              rw [w1, w2]
              refine Br.no rfl ?_
              conv => whnf
              repeat' ((first | refine Need.auto ?_ | refine Have.mk (fun _h => ?_)); conv => whnf)
              refine ⟨1, by omega, by omega, ?_⟩
              refine Mv.mkW ?_ ?_ (Nat.le_of_ble_eq_true rfl) <;> (repeat' (first | exact WA.nil | refine WA.cons rfl ?_ ?_ | exact WB.nil | refine WB.cons ?_ ?_ | exact WT.nil | refine WT.cons ?_ ?_ | exact WH.nil | refine WH.cons ?_ ?_ | exact WR.nil | refine WR.cons rfl ?_ ?_ | refine WO.vr ?_ | exact WO.dead | exact WO.mpS | refine WO.mpA ?_ | refine WO.arrA ?_ | exact WS.u | refine WS.c ?_ | refine WS.a ?_ | refine WS.t ?_ | exact WL.nil | refine WL.cons ?_ ?_ | exact WTL.nil | refine WTL.consC ?_ ?_ | refine WTL.consL ?_ ?_ | exact WC.nils | exact WC.nil rfl | exact WC.nilp | refine WC.fzA | exact WC.ptr rfl (Nat.le_of_ble_eq_true rfl) | exact WC.mpr rfl (Nat.le_of_ble_eq_true rfl) | refine WC.slA | refine WC.intA | refine WC.int ?_ | refine WC.boolA | refine WC.bool ?_ | refine WC.strA | refine WC.str ?_ | exact WC.imm rfl))
            · conv => whnf
              repeat' ((first | refine Need.auto ?_ | refine Have.mk (fun _h => ?_)); conv => whnf)
              refine Br.yes (by decide) ?_
              conv => whnf
              repeat' ((first | refine Need.auto ?_ | refine Have.mk (fun _h => ?_)); conv => whnf)
              refine CallN.pureA allowed_body (allowed_spec (zerosM 2) (histM cs) 1 (by omega) ) ?_
              conv => whnf
              repeat' ((first | refine Need.auto ?_ | refine Have.mk (fun _h => ?_)); conv => whnf)
              rw [allowed_eq]
              refine CallN.pureA within_body (within_spec (allowedR (zerosM 2) (histM cs) 1) a1 ) ?_
              conv => whnf
              repeat' ((first | refine Need.auto ?_ | refine Have.mk (fun _h => ?_)); conv => whnf)
              refine CallG.auto within_body (fun _ => within_spec a1 (allowedR (zerosM 2) (histM cs) 1) ) ?_
              conv => whnf
              repeat' ((first | refine Need.auto ?_ | refine Have.mk (fun _h => ?_)); conv => whnf)
              rw [w3, w4]
              refine Br.no rfl ?_
              conv => whnf
              repeat' ((first | refine Need.auto ?_ | refine Have.mk (fun _h => ?_)); conv => whnf)
              refine ⟨2, by omega, by omega, ?_⟩
              refine Mv.mkW ?_ ?_ (Nat.le_of_ble_eq_true rfl) <;> (repeat' (first | exact WA.nil | refine WA.cons rfl ?_ ?_ | exact WB.nil | refine WB.cons ?_ ?_ | exact WT.nil | refine WT.cons ?_ ?_ | exact WH.nil | refine WH.cons ?_ ?_ | exact WR.nil | refine WR.cons rfl ?_ ?_ | refine WO.vr ?_ | exact WO.dead | exact WO.mpS | refine WO.mpA ?_ | refine WO.arrA ?_ | exact WS.u | refine WS.c ?_ | refine WS.a ?_ | refine WS.t ?_ | exact WL.nil | refine WL.cons ?_ ?_ | exact WTL.nil | refine WTL.consC ?_ ?_ | refine WTL.consL ?_ ?_ | exact WC.nils | exact WC.nil rfl | exact WC.nilp | refine WC.fzA | exact WC.ptr rfl (Nat.le_of_ble_eq_true rfl) | exact WC.mpr rfl (Nat.le_of_ble_eq_true rfl) | refine WC.slA | refine WC.intA | refine WC.int ?_ | refine WC.boolA | refine WC.bool ?_ | refine WC.strA | refine WC.str ?_ | exact WC.imm rfl))
            · conv => whnf
              repeat' ((first | refine Need.auto ?_ | refine Have.mk (fun _h => ?_)); conv => whnf)
              refine Br.no (by decide) ?_
              conv => whnf
              repeat' ((first | refine Need.auto ?_ | refine Have.mk (fun _h => ?_)); conv => whnf)
              refine CallN.pureA check18_body (check18_spec 2 (histM cs) ) ?_
              conv => whnf
              repeat' ((first | refine Need.auto ?_ | refine Have.mk (fun _h => ?_)); conv => whnf)
              rw [w5]
              refine CallG.auto awake20_body (fun _ => awake20_spec ) ?_
              conv => whnf
              repeat' ((first | refine Need.auto ?_ | refine Have.mk (fun _h => ?_)); conv => whnf)
              refine RM.immW rfl ?_; (repeat' (first | exact WA.nil | refine WA.cons rfl ?_ ?_ | exact WB.nil | refine WB.cons ?_ ?_ | exact WT.nil | refine WT.cons ?_ ?_ | exact WH.nil | refine WH.cons ?_ ?_ | exact WR.nil | refine WR.cons rfl ?_ ?_ | refine WO.vr ?_ | exact WO.dead | exact WO.mpS | refine WO.mpA ?_ | refine WO.arrA ?_ | exact WS.u | refine WS.c ?_ | refine WS.a ?_ | refine WS.t ?_ | exact WL.nil | refine WL.cons ?_ ?_ | exact WTL.nil | refine WTL.consC ?_ ?_ | refine WTL.consL ?_ ?_ | exact WC.nils | exact WC.nil rfl | exact WC.nilp | refine WC.fzA | exact WC.ptr rfl (Nat.le_of_ble_eq_true rfl) | exact WC.mpr rfl (Nat.le_of_ble_eq_true rfl) | refine WC.slA | refine WC.intA | refine WC.int ?_ | refine WC.boolA | refine WC.bool ?_ | refine WC.strA | refine WC.str ?_ | exact WC.imm rfl))
  · refine Br.yes (by rw [decide_eq_false hl]; rfl) ?_
    conv => whnf
    repeat' ((first | refine Need.auto ?_ | refine Have.mk (fun _h => ?_)); conv => whnf)
    refine CallN.pureA awake20_body (awake20_spec ) ?_
    conv => whnf
    repeat' ((first | refine Need.auto ?_ | refine Have.mk (fun _h => ?_)); conv => whnf)
    refine RM.immW rfl ?_; (repeat' (first | exact WA.nil | refine WA.cons rfl ?_ ?_ | exact WB.nil | refine WB.cons ?_ ?_ | exact WT.nil | refine WT.cons ?_ ?_ | exact WH.nil | refine WH.cons ?_ ?_ | exact WR.nil | refine WR.cons rfl ?_ ?_ | refine WO.vr ?_ | exact WO.dead | exact WO.mpS | refine WO.mpA ?_ | refine WO.arrA ?_ | exact WS.u | refine WS.c ?_ | refine WS.a ?_ | refine WS.t ?_ | exact WL.nil | refine WL.cons ?_ ?_ | exact WTL.nil | refine WTL.consC ?_ ?_ | refine WTL.consL ?_ ?_ | exact WC.nils | exact WC.nil rfl | exact WC.nilp | refine WC.fzA | exact WC.ptr rfl (Nat.le_of_ble_eq_true rfl) | exact WC.mpr rfl (Nat.le_of_ble_eq_true rfl) | refine WC.slA | refine WC.intA | refine WC.int ?_ | refine WC.boolA | refine WC.bool ?_ | refine WC.strA | refine WC.str ?_ | exact WC.imm rfl))
theorem durableSequential_body : HasBody Try.prog 7 := ⟨⟨Try.f7, Try.func7, rfl, by kernel_rfl⟩⟩
end Go.Proofs
end
