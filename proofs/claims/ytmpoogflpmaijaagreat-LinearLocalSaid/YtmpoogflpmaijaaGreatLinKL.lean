/- Part of the proofs of laws of this seat: contracts and plain lemmas; no condition is added to a statement. -/
import Derived.Test.YtmpoogflpmaijaaGreatAmF
import Derived.Test.YtmpoogflpmaijaaGreatP2
import Derived.Test.YtmpoogflpmaijaaGreatLinE
import Derived.Test.YtmpoogflpmaijaaGreatLinHL
set_option linter.unusedSimpArgs false
set_option linter.unusedVariables false
section
open Go Go.Am
namespace Go.Proofs
set_option maxRecDepth 20000
set_option maxHeartbeats 1000000
/-! ### the events that the laws draw -/
structure EvS where
  d : DiceM
  out : List Evt
  opn : List Evt
  ap : List Int
  b : List ByteArray
def evX (d : DiceM) (wrong : Bool) (e : Evt) : Evt × DiceM :=
  if wrong = true then (if d.next 4 = 3 ∧ e.kind = 1 then ({ e with ret := true, rdata := valueS (d.step.next 4) }, d.step.step) else ({ e with ret := true }, d.step)) else ({ e with ret := true }, d)
def evA (s : EvS) (d : DiceM) (k : Nat) (wrong : Bool) : EvS :=
  ⟨(evX d wrong (s.opn.getD k default)).2, s.out ++ [(evX d wrong (s.opn.getD k default)).1], s.opn.take k ++ s.opn.drop (k + 1), s.ap, s.b⟩
def evD (b : List ByteArray) (e : Evt) : Evt := { e with err := appE b.length e.kind e.block e.data, rdata := appD b e.kind e.block e.data }
def evP (s : EvS) (d : DiceM) (k : Nat) : EvS :=
  ⟨d, s.out, s.opn.set k (evD s.b (s.opn.getD k default)), s.ap ++ [(s.opn.getD k default).serial], appB s.b (s.opn.getD k default).kind (s.opn.getD k default).block (s.opn.getD k default).data⟩
def evN (d : DiceM) (n i : Nat) : Evt := ⟨false, d.next 4, i, 1 + d.step.next 3, d.step.step.next n, if 1 + d.step.next 3 = 2 then valueS (1 + d.step.step.step.next 4) else ByteArray.empty, 0, ByteArray.empty⟩
def evB (s : EvS) (d : DiceM) (n i : Nat) : EvS := ⟨if 1 + d.step.next 3 = 2 then d.step.step.step.step else d.step.step.step, s.out ++ [evN d n i], s.opn ++ [evN d n i], s.ap, s.b⟩
def evK0 (s : EvS) : Nat := (s.d.next (max 1 s.opn.length : Nat)).toNat
def evStep (n m : Nat) (wrong : Bool) (i : Nat) (s : EvS) : EvS :=
  if s.d.step.next 3 = 0 ∧ 0 < s.opn.length ∧ (s.opn.getD (evK0 s) default).serial ∈ s.ap then evA s s.d.step.step (evK0 s) wrong
  else if s.d.step.next 3 = 1 ∧ 0 < s.opn.length ∧ (s.opn.getD (evK0 s) default).serial ∉ s.ap then evP s s.d.step.step (evK0 s)
  else if s.opn.length < 5 ∧ s.out.length < 2 * m then evB s s.d.step.step n i
  else ⟨s.d.step.step, s.out, s.opn, s.ap, s.b⟩
def evI (n m : Nat) (wrong : Bool) (l : List Int) : Nat → EvS
  | 0 => ⟨⟨l, 0⟩, [], [], [], zerosM n⟩
  | i + 1 => if 0 < (evI n m wrong l i).d.rest then evStep n m wrong i (evI n m wrong l i) else evI n m wrong l i
def eventsM (n m : Nat) (wrong : Bool) (l : List Int) : List Evt := (evI n m wrong l (3 * m)).out
theorem evStep_ok {n m i : Nat} {wrong : Bool} {s : EvS} (h : s.d.ok) : (evStep n m wrong i s).d.ok := by
  unfold evStep
  split
  · show DiceM.ok (evX _ _ _).2
    unfold evX
    split
    · split
      · exact h.step.step.step.step
      · exact h.step.step.step
    · exact h.step.step
  · split
    · exact h.step.step
    · split
      · show DiceM.ok (if _ then _ else _)
        split
        · exact h.step.step.step.step.step.step
        · exact h.step.step.step.step.step
      · exact h.step.step
structure EvL (n : Nat) (s : EvS) (i : Nat) : Prop where
  out : s.out.length ≤ i
  opn : s.opn.length ≤ 5
  bl : s.b.length = n
theorem evStep_len {n m i : Nat} {wrong : Bool} {s : EvS} (h : EvL n s i) : EvL n (evStep n m wrong i s) (i + 1) := by
  obtain ⟨h1, h2, h3⟩ := h
  unfold evStep
  split
  · refine ⟨by simp only [evA, List.length_append, List.length_singleton]; omega, ?_, h3⟩
    simp only [evA, List.length_append, List.length_take, List.length_drop]
    omega
  · split
    · refine ⟨Nat.le_succ_of_le h1, by simp only [evP, List.length_set]; exact h2, ?_⟩
      simp only [evP]; rw [appB_len]; exact h3
    · split
      · rename_i c
        exact ⟨by simp only [evB, List.length_append, List.length_singleton]; omega, by simp only [evB, List.length_append, List.length_singleton]; omega, h3⟩
      · exact ⟨Nat.le_succ_of_le h1, h2, h3⟩
theorem evI_ok {n m : Nat} {wrong : Bool} {l : List Int} (hl : l.length ≤ 10000000) : ∀ i, (evI n m wrong l i).d.ok
  | 0 => ⟨Nat.zero_le _, hl⟩
  | i + 1 => by
    rw [evI]
    split
    · exact evStep_ok (evI_ok hl i)
    · exact evI_ok hl i
theorem evI_len {n m : Nat} {wrong : Bool} {l : List Int} : ∀ i, EvL n (evI n m wrong l i) i
  | 0 => ⟨Nat.le_refl _, Nat.zero_le _, by simp [evI, zerosM]⟩
  | i + 1 => by
    rw [evI]
    split
    · exact evStep_len (evI_len i)
    · have := evI_len (n := n) (m := m) (wrong := wrong) (l := l) i
      exact ⟨Nat.le_succ_of_le this.out, this.opn, this.bl⟩
theorem evI_stop {n m : Nat} {wrong : Bool} {l : List Int} {i : Nat} (h : ¬ 0 < (evI n m wrong l i).d.rest) : ∀ k, evI n m wrong l (i + k) = evI n m wrong l i
  | 0 => rfl
  | k + 1 => by
    have ih := evI_stop h k
    show evI n m wrong l (i + k + 1) = _
    rw [evI, ih, if_neg h]
/-! the numbers of the operations that were done, as a map -/
def apO (ap : List Int) : O := .mp (.c (some .i64)) [Z.b] false (ap.map fun s => .c (.i .i64 s)) (fun k _ => .bool (decide (keyI k ∈ ap)))
theorem apO_nil {ρ : Nat → Nat} {n : Nat} {val : Key → Nat → C} (h : ∀ k, val k 0 = .bool false) : WO ρ n (.mp (.c (some .i64)) [Z.b] false [] val) (apO []) :=
  WO.mp rfl rfl rfl rfl fun k j _ hj => by
    have hj0 : j = 0 := by simpa using hj
    subst hj0
    exact leF.of_eq ((h k).trans (by simp))
theorem WO.ap_new {ρ : Nat → Nat} {n : Nat} {ap : List Int} {s : Int} (h : s ∉ ap) :
    WO ρ n (.mp (.c (some .i64)) [Z.b] false (updK (ap.map fun s => Key.c (.i .i64 s)) (.c (.i .i64 s))) (updV (fun k _ => C.bool (decide (keyI k ∈ ap))) (.c (.i .i64 s)) (lget [.bool true]))) (apO (ap ++ [s])) := by
  refine WO.mp rfl rfl rfl ?_ fun k j hk hj => ?_
  · unfold updK memK
    rw [decide_eq_false]
    · simp
    · intro q
      obtain ⟨x, h1, h2⟩ := List.mem_map.1 q
      simp only [Key.c.injEq, KC.i.injEq, true_and] at h2
      subst h2
      exact h h1
  · have hj0 : j = 0 := by simpa using hj
    subst hj0
    obtain ⟨x, rfl⟩ := key_i hk
    refine leF.of_eq ?_
    simp only [updV, Key.c.injEq, KC.i.injEq, true_and, keyI_i]
    by_cases c : x = s
    · rw [if_pos c, c]
      simp [lget, getL]
    · rw [if_neg c]
      show C.bool (decide (x ∈ ap)) = C.bool (decide (x ∈ ap ++ [s]))
      congr 1
      exact decide_eq_decide.2 (by simp [c])
end Go.Proofs
end

section
open Go Go.Am
namespace Go.Proofs
set_option maxRecDepth 20000
/-! ### what the drawn events are -/
def EvOk (n : Nat) (e : Evt) : Prop := 1 ≤ e.kind ∧ e.kind ≤ 3 ∧ 0 ≤ e.block ∧ e.block < n
structure EvAll (n : Nat) (s : EvS) : Prop where
  out : ∀ e ∈ s.out, EvOk n e
  opn : ∀ e ∈ s.opn, EvOk n e
theorem evN_ok {d : DiceM} {n i : Nat} (hn : 1 ≤ n ∧ n ≤ 1000) : EvOk n (evN d n i) := by
  have h1 := DiceM.next_range d.step (n := 3) (by omega) (by omega)
  have h2 := DiceM.next_range d.step.step (n := (n : Int)) (by omega) (by omega)
  refine ⟨?_, ?_, h2.1, h2.2⟩
  · show 1 ≤ 1 + d.step.next 3; omega
  · show 1 + d.step.next 3 ≤ 3; omega
theorem evStep_all {n m i : Nat} {wrong : Bool} {s : EvS} (hn : 1 ≤ n ∧ n ≤ 1000) (ho : s.opn.length ≤ 5) (h : EvAll n s) : EvAll n (evStep n m wrong i s) := by
  obtain ⟨h1, h2⟩ := h
  have hk : evK0 s < s.opn.length → EvOk n (s.opn.getD (evK0 s) default) := fun hk => h2 _ (idx_mem hk)
  have hr : 0 < s.opn.length → evK0 s < s.opn.length := fun hp => by
    have := DiceM.next_range s.d (n := ((max 1 s.opn.length : Nat) : Int)) (by omega) (by omega)
    unfold evK0
    omega
  unfold evStep
  split
  · rename_i c
    have hk := hk (hr c.2.1)
    refine ⟨fun e he => ?_, fun e he => ?_⟩
    · simp only [evA, List.mem_append, List.mem_singleton] at he
      rcases he with he | he
      · exact h1 e he
      · subst he
        unfold evX
        split
        · split <;> exact hk
        · exact hk
    · simp only [evA, List.mem_append] at he
      rcases he with he | he
      · exact h2 e (List.mem_of_mem_take he)
      · exact h2 e (List.mem_of_mem_drop he)
  · split
    · rename_i c
      have hk := hk (hr c.2.1)
      refine ⟨h1, fun e he => ?_⟩
      simp only [evP] at he
      rcases List.mem_or_eq_of_mem_set he with q | q
      · exact h2 e q
      · subst q; exact hk
    · split
      · refine ⟨fun e he => ?_, fun e he => ?_⟩
        · simp only [evB, List.mem_append, List.mem_singleton] at he
          rcases he with he | he
          · exact h1 e he
          · subst he; exact evN_ok hn
        · simp only [evB, List.mem_append, List.mem_singleton] at he
          rcases he with he | he
          · exact h2 e he
          · subst he; exact evN_ok hn
      · exact ⟨h1, h2⟩
theorem evI_all {n m : Nat} {wrong : Bool} {l : List Int} (hn : 1 ≤ n ∧ n ≤ 1000) : ∀ i, EvAll n (evI n m wrong l i)
  | 0 => ⟨fun e he => by simp [evI] at he, fun e he => by simp [evI] at he⟩
  | i + 1 => by
    rw [evI]
    split
    · exact evStep_all hn (evI_len (n := n) i).opn (evI_all hn i)
    · exact evI_all hn i
theorem events_ok {n m : Nat} {wrong : Bool} {l : List Int} (hn : 1 ≤ n ∧ n ≤ 1000) : ∀ e ∈ eventsM n m wrong l, EvOk n e := (evI_all hn _).out
theorem events_len (n m : Nat) (wrong : Bool) (l : List Int) : (eventsM n m wrong l).length ≤ 3 * m := (evI_len _).out
theorem begunTo_sub (l : List Evt) : ∀ k, k ≤ l.length → ∀ e ∈ begunTo l k, e ∈ l
  | 0, _, e, he => by simp [begunTo] at he
  | k + 1, hk, e, he => by
    rw [begunTo] at he
    split at he
    · rcases List.mem_append.1 he with q | q
      · exact begunTo_sub l k (by omega) e q
      · simp only [List.mem_singleton] at q
        subst q
        exact idx_mem (by omega)
    · exact begunTo_sub l k (by omega) e he
theorem opOf_cmd (l : List Evt) (e : Evt) : (opOf l e).kind = e.kind ∧ (opOf l e).block = e.block ∧ (opOf l e).data = e.data := by
  unfold opOf
  split <;> exact ⟨rfl, rfl, rfl⟩
theorem ops_sub {l : List Evt} {x : Evt} (hx : x ∈ operationsM l) : ∃ e ∈ l, x.kind = e.kind ∧ x.block = e.block ∧ x.data = e.data := by
  unfold operationsM at hx
  obtain ⟨e, he, rfl⟩ := List.mem_map.1 hx
  exact ⟨e, begunTo_sub l _ (Nat.le_refl _) e he, opOf_cmd l e⟩
/-- Without flushes there is none to be put in order. -/
theorem flushM_none {l : List Evt} (h : ∀ e ∈ l, e.kind ≤ 3) : flushM l = [] := by
  unfold flushM
  rw [List.map_eq_nil_iff, List.filter_eq_nil_iff]
  intro x hx
  obtain ⟨e, he, h1, -⟩ := ops_sub hx
  have := h e he
  unfold flushE
  rw [Bool.and_eq_true, decide_eq_true_eq]
  omega
theorem events_flush {n m : Nat} {wrong : Bool} {l : List Int} (hn : 1 ≤ n ∧ n ≤ 1000) : flushM (eventsM n m wrong l) = [] := flushM_none fun e he => (events_ok hn e he).2.1
end Go.Proofs
end
