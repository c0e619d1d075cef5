/- Part of the proofs of laws of this seat: contracts and plain lemmas; no condition is added to a statement. -/
import Derived.Test.YtmpoogflpmaijaaGreatHistA
set_option linter.unusedSimpArgs false
set_option linter.unusedVariables false
section
open Go Go.Am
namespace Go.Proofs
theorem placesM_has (l : List Evt) (r : Bool) : ∀ (k : Nat) (s : Int), (placesM l r k).has s = true ↔ ∃ i, i < k ∧ (l.getD i default).ret = r ∧ (l.getD i default).serial = s
  | 0, s => by simp [placesM, MapI.has]
  | k + 1, s => by
    have ih := placesM_has l r k
    simp only [placesM]
    split
    · rename_i hc
      rw [lookup_snoc_none hc.1, Bool.or_eq_true, ih s, decide_eq_true_eq]
      constructor
      · rintro (⟨i, h1, h2, h3⟩ | h)
        · exact ⟨i, by omega, h2, h3⟩
        · exact ⟨k, by omega, hc.2, h.symm⟩
      · rintro ⟨i, h1, h2, h3⟩
        by_cases c : i = k
        · subst c; exact .inr h3.symm
        · exact .inl ⟨i, by omega, h2, h3⟩
    · rename_i hc
      rw [ih s]
      constructor
      · rintro ⟨i, h1, h2, h3⟩
        exact ⟨i, by omega, h2, h3⟩
      · rintro ⟨i, h1, h2, h3⟩
        by_cases c : i = k
        · subst c
          have : (placesM l r i).has (l.getD i default).serial = true := by
            cases hh : (placesM l r i).has (l.getD i default).serial with
            | true => rfl
            | false => exact absurd ⟨hh, h2⟩ hc
          rw [h3] at this
          exact (ih s).1 this
        · exact ⟨i, by omega, h2, h3⟩
theorem placesM_not {l : List Evt} {r : Bool} {k : Nat} {s : Int} : (placesM l r k).has s = false ↔ ∀ i, i < k → (l.getD i default).ret = r → (l.getD i default).serial ≠ s := by
  rw [← Bool.not_eq_true, placesM_has]
  simp only [not_exists, not_and, ne_eq]
theorem placesM_get (l : List Evt) (r : Bool) : ∀ (k : Nat) (s : Int), (placesM l r k).has s = true → ∃ i : Nat, i < k ∧ (placesM l r k).get s = i ∧ (l.getD i default).ret = r ∧ (l.getD i default).serial = s ∧ ∀ j, j < i → (l.getD j default).ret = r → (l.getD j default).serial ≠ s
  | 0, s, h => by simp [placesM, MapI.has] at h
  | k + 1, s, h => by
    simp only [placesM] at h ⊢
    split at h
    · rename_i hc
      rw [if_pos hc, get_new hc.1]
      by_cases c : s = (l.getD k default).serial
      · rw [if_pos c]
        refine ⟨k, by omega, rfl, hc.2, c.symm, ?_⟩
        rw [c]
        exact placesM_not.1 hc.1
      · rw [if_neg c]
        rw [lookup_snoc_none hc.1, decide_eq_false c, Bool.or_false] at h
        obtain ⟨i, h1, h2⟩ := placesM_get l r k s h
        exact ⟨i, by omega, h2⟩
    · rename_i hc
      rw [if_neg hc]
      obtain ⟨i, h1, h2⟩ := placesM_get l r k s h
      exact ⟨i, by omega, h2⟩
theorem getD_take {l : List Evt} {n i : Nat} (h : i < n) : (l.take n).getD i default = l.getD i default := by
  simp [List.getD, List.getElem?_take, h]
theorem placesM_take (l : List Evt) (r : Bool) (n : Nat) : ∀ k, k ≤ n → placesM (l.take n) r k = placesM l r k
  | 0, _ => rfl
  | k + 1, h => by
    simp only [placesM]
    rw [placesM_take l r n k (by omega), getD_take (by omega)]
theorem placesF_take {l : List Evt} {r : Bool} {n : Nat} (h : n ≤ l.length) : placesF (l.take n) r = placesM l r n := by
  unfold placesF
  have e : (l.take n).length = n := by rw [List.length_take]; omega
  rw [e]
  exact placesM_take l r n n (Nat.le_refl _)

/-- May the event at this place follow those ahead of it? -/
def rightM (l : List Evt) (k : Nat) : Bool :=
  decide (0 ≤ (l.getD k default).queue ∧ (l.getD k default).queue < 4 ∧ 0 ≤ (l.getD k default).serial) &&
  if (l.getD k default).ret = true then
    (placesM l false k).has (l.getD k default).serial && !(placesM l true k).has (l.getD k default).serial &&
    decide ((l.getD ((placesM l false k).get (l.getD k default).serial).toNat default).queue = (l.getD k default).queue) &&
    decide ((l.getD ((placesM l false k).get (l.getD k default).serial).toNat default).kind = (l.getD k default).kind ∧ (l.getD ((placesM l false k).get (l.getD k default).serial).toNat default).block = (l.getD k default).block ∧ (l.getD ((placesM l false k).get (l.getD k default).serial).toNat default).data = (l.getD k default).data) &&
    fitsM (l.getD k default).kind (l.getD k default).err (l.getD k default).rdata
  else !(placesM l false k).has (l.getD k default).serial && decide ((l.getD k default).err = 0 ∧ (l.getD k default).rdata = ByteArray.empty)
def rightTo (l : List Evt) : Nat → Bool
  | 0 => true
  | k + 1 => rightTo l k && rightM l k
theorem rightTo_iff (l : List Evt) : ∀ k, rightTo l k = true ↔ ∀ i, i < k → rightM l i = true
  | 0 => by simp [rightTo]
  | k + 1 => by
    rw [rightTo, Bool.and_eq_true, rightTo_iff l k]
    constructor
    · rintro ⟨h1, h2⟩ i hi
      by_cases c : i = k
      · subst c; exact h2
      · exact h1 i (by omega)
    · intro h
      exact ⟨fun i hi => h i (by omega), h k (by omega)⟩
theorem rightTo_false {l : List Evt} {k n : Nat} (h : rightM l k = false) (hk : k < n) : rightTo l n = false := by
  rw [← Bool.not_eq_true, rightTo_iff]
  intro h'
  rw [h' k hk] at h
  cases h
def checkM (n : Int) (l : List Evt) : Int := if n < 1 ∨ 128 < n then 1 else if 400 < l.length then 19 else if rightTo l l.length = true then 0 else 17
def sizesM (blocks : List ByteArray) (l : List Evt) : Int := if checkM blocks.length l = 0 then (if blocks.all (fun b => decide (b.size = 16)) = true then 0 else 2) else checkM blocks.length l

/-- What a right history is. -/
structure Right (l : List Evt) : Prop where
  inv : ∀ i j, i < j → j < l.length → (l.getD i default).ret = false → (l.getD j default).ret = false → (l.getD i default).serial ≠ (l.getD j default).serial
  rets : ∀ i j, i < j → j < l.length → (l.getD i default).ret = true → (l.getD j default).ret = true → (l.getD i default).serial ≠ (l.getD j default).serial
  open_ : ∀ j, j < l.length → (l.getD j default).ret = true → ∃ i, i < j ∧ (l.getD i default).ret = false ∧ (l.getD i default).serial = (l.getD j default).serial ∧ (l.getD i default).queue = (l.getD j default).queue ∧
    (l.getD i default).kind = (l.getD j default).kind ∧ (l.getD i default).block = (l.getD j default).block ∧ (l.getD i default).data = (l.getD j default).data ∧ fitsM (l.getD j default).kind (l.getD j default).err (l.getD j default).rdata = true
  plain : ∀ i, i < l.length → (l.getD i default).ret = false → (l.getD i default).err = 0 ∧ (l.getD i default).rdata = ByteArray.empty
  range : ∀ i, i < l.length → 0 ≤ (l.getD i default).queue ∧ (l.getD i default).queue < 4 ∧ 0 ≤ (l.getD i default).serial
theorem Right.of {l : List Evt} (h : rightTo l l.length = true) : Right l := by
  rw [rightTo_iff] at h
  have key : ∀ k, k < l.length → (0 ≤ (l.getD k default).queue ∧ (l.getD k default).queue < 4 ∧ 0 ≤ (l.getD k default).serial) ∧ ((l.getD k default).ret = true → (placesM l false k).has (l.getD k default).serial = true ∧ (placesM l true k).has (l.getD k default).serial = false ∧
      (l.getD ((placesM l false k).get (l.getD k default).serial).toNat default).queue = (l.getD k default).queue ∧
      ((l.getD ((placesM l false k).get (l.getD k default).serial).toNat default).kind = (l.getD k default).kind ∧ (l.getD ((placesM l false k).get (l.getD k default).serial).toNat default).block = (l.getD k default).block ∧ (l.getD ((placesM l false k).get (l.getD k default).serial).toNat default).data = (l.getD k default).data) ∧
      fitsM (l.getD k default).kind (l.getD k default).err (l.getD k default).rdata = true) ∧ ((l.getD k default).ret = false → (placesM l false k).has (l.getD k default).serial = false ∧ ((l.getD k default).err = 0 ∧ (l.getD k default).rdata = ByteArray.empty)) := by
    intro k hk
    have := h k hk
    unfold rightM at this
    rw [Bool.and_eq_true, decide_eq_true_eq] at this
    refine ⟨this.1, fun hr => ?_, fun hr => ?_⟩
    · have h2 := this.2
      rw [if_pos hr] at h2
      simpa only [Bool.and_eq_true, Bool.not_eq_true', decide_eq_true_eq, and_assoc] using h2
    · have h2 := this.2
      rw [if_neg (by rw [hr]; simp)] at h2
      simpa only [Bool.and_eq_true, Bool.not_eq_true', decide_eq_true_eq] using h2
  refine ⟨fun i j hij hj h1 h2 => ?_, fun i j hij hj h1 h2 => ?_, fun j hj hr => ?_, fun i hi hr => ((key i hi).2.2 hr).2, fun i hi => (key i hi).1⟩
  · exact placesM_not.1 ((key j hj).2.2 h2).1 i hij h1
  · exact placesM_not.1 ((key j hj).2.1 h2).2.1 i hij h1
  · obtain ⟨k1, k2, k3, k4, k5⟩ := (key j hj).2.1 hr
    obtain ⟨i, i1, i2, i3, i4, -⟩ := placesM_get l false j _ k1
    rw [i2, Int.toNat_natCast] at k3 k4
    exact ⟨i, i1, i3, i4, k3, k4.1, k4.2.1, k4.2.2, k5⟩
theorem Right.to {l : List Evt} (h : Right l) : rightTo l l.length = true := by
  rw [rightTo_iff]
  intro k hk
  unfold rightM
  rw [Bool.and_eq_true, decide_eq_true_eq]
  refine ⟨h.range k hk, ?_⟩
  by_cases hr : (l.getD k default).ret = true
  · rw [if_pos hr]
    obtain ⟨i, i1, i2, i3, i4, i5, i6, i7, i8⟩ := h.open_ k hk hr
    have k1 : (placesM l false k).has (l.getD k default).serial = true := (placesM_has l false k _).2 ⟨i, i1, i2, i3⟩
    obtain ⟨i', j1, j2, j3, j4, j5⟩ := placesM_get l false k _ k1
    have : i' = i := by
      rcases Nat.lt_trichotomy i i' with c | c | c
      · exact absurd i3 (j5 i c i2)
      · exact c.symm
      · exact absurd (j4.trans i3.symm) (h.inv i' i c (by omega) j3 i2)
    subst this
    have k2 : (placesM l true k).has (l.getD k default).serial = false := placesM_not.2 fun j hj hjr => h.rets j k hj hk hjr hr
    rw [k1, k2, j2, Int.toNat_natCast, i8]
    simp only [Bool.not_false, Bool.and_true, Bool.true_and, Bool.and_eq_true, decide_eq_true_eq]
    exact ⟨i4, i5, i6, i7⟩
  · have hr' : (l.getD k default).ret = false := by simpa using hr
    rw [if_neg hr, Bool.and_eq_true, Bool.not_eq_true', decide_eq_true_eq]
    exact ⟨placesM_not.2 fun i hi hir => h.inv i k hi hk hir hr', h.plain k hk hr'⟩
/-- As long as a history is right, what was answered was begun. -/
theorem right_sub {l : List Evt} {k : Nat} (h : rightTo l k = true) {s : Int} (hs : (placesM l true k).has s = true) : (placesM l false k).has s = true := by
  rw [rightTo_iff] at h
  obtain ⟨i, i1, i2, i3⟩ := (placesM_has l true k s).1 hs
  have := h i i1
  unfold rightM at this
  rw [if_pos i2] at this
  simp only [Bool.and_eq_true] at this
  have k1 := this.2.1.1.1.1
  rw [i3] at k1
  obtain ⟨j, j1, j2, j3⟩ := (placesM_has l false i s).1 k1
  exact (placesM_has l false k s).2 ⟨j, by omega, j2, j3⟩
end Go.Proofs
end

section
open Go Go.Am
namespace Go.Proofs
/-- What is begun: the event with which a number was invoked. -/
def begunV (l : List Evt) (i : Nat) (n : Int) : Evt := if (placesM l false i).has n = true then l.getD ((placesM l false i).get n).toNat default else default
theorem begunV_new {l : List Evt} {i : Nat} {x : Int} {j : Nat} (h : (placesM l false i).has (l.getD i default).serial = false) (hr : (l.getD i default).ret = false) {cs : List C} (hc : ∀ j, lget cs j = (l.getD i default).cell j) :
    updV (fun k (j : Nat) => Evt.cell (begunV l i (keyI k)) j) (.c (.i .i64 (l.getD i default).serial)) (lget cs) (.c (.i .i64 x)) j = Evt.cell (begunV l (i + 1) x) j := by
  have e1 : placesM l false (i + 1) = placesM l false i ++ [((l.getD i default).serial, (i : Int))] := by
    rw [placesM, if_pos ⟨h, hr⟩]
  unfold begunV
  rw [e1, lookup_snoc_none h, get_new h]
  simp only [updV, Key.c.injEq, KC.i.injEq, true_and]
  by_cases c : x = (l.getD i default).serial
  · rw [if_pos c, if_pos c, hc, decide_eq_true c]
    simp
  · rw [if_neg c, if_neg c, decide_eq_false c, Bool.or_false]
    rfl
theorem endedV_new {l : List Evt} {i : Nat} {x : Int} (h : (placesM l true i).has (l.getD i default).serial = false) (hr : (l.getD i default).ret = true) :
    updV (fun k (_ : Nat) => C.bool ((placesM l true i).has (keyI k))) (.c (.i .i64 (l.getD i default).serial)) (lget [.bool true]) (.c (.i .i64 x)) 0 = C.bool ((placesM l true (i + 1)).has x) := by
  have e1 : placesM l true (i + 1) = placesM l true i ++ [((l.getD i default).serial, (i : Int))] := by
    rw [placesM, if_pos ⟨h, hr⟩]
  rw [e1, lookup_snoc_none h]
  simp only [updV, Key.c.injEq, KC.i.injEq, true_and]
  by_cases c : x = (l.getD i default).serial
  · rw [if_pos c, decide_eq_true c]
    simp [lget, getL]
  · rw [if_neg c, decide_eq_false c, Bool.or_false]
    rfl
theorem rightM_ret {l : List Evt} {k : Nat} (h0 : 0 ≤ (l.getD k default).queue ∧ (l.getD k default).queue < 4 ∧ 0 ≤ (l.getD k default).serial) (hr : (l.getD k default).ret = true) :
    rightM l k = !(bif (bif (bif (bif !(placesM l false k).has (l.getD k default).serial then true else (placesM l true k).has (l.getD k default).serial) then true else (begunV l k (l.getD k default).serial).queue != (l.getD k default).queue) then true else
      (decide ((begunV l k (l.getD k default).serial).kind = (l.getD k default).kind) && (decide ((begunV l k (l.getD k default).serial).block = (l.getD k default).block) && (decide ((begunV l k (l.getD k default).serial).data = (l.getD k default).data) && true))) == false) then true else
      !fitsM (l.getD k default).kind (l.getD k default).err (l.getD k default).rdata) := by
  unfold rightM
  rw [if_pos hr, decide_eq_true h0]
  cases hh : (placesM l false k).has (l.getD k default).serial with
  | false => rfl
  | true =>
    cases hR : (placesM l true k).has (l.getD k default).serial with
    | true => rfl
    | false =>
      have e : begunV l k (l.getD k default).serial = l.getD ((placesM l false k).get (l.getD k default).serial).toNat default := by
        unfold begunV; rw [if_pos hh]
      rw [e]
      generalize l.getD ((placesM l false k).get (l.getD k default).serial).toNat default = f
      generalize l.getD k default = e
      cases fitsM e.kind e.err e.rdata <;> by_cases c1 : f.queue = e.queue <;> by_cases c2 : f.kind = e.kind <;> by_cases c3 : f.block = e.block <;> by_cases c4 : f.data = e.data <;> simp [c1, c2, c3, c4]
theorem rightM_inv {l : List Evt} {k : Nat} (h0 : 0 ≤ (l.getD k default).queue ∧ (l.getD k default).queue < 4 ∧ 0 ≤ (l.getD k default).serial) (hr : (l.getD k default).ret = false) :
    rightM l k = !(bif (placesM l false k).has (l.getD k default).serial then true else (decide ((l.getD k default).err = 0) && (decide ((l.getD k default).rdata = ByteArray.empty) && true)) == false) := by
  unfold rightM
  rw [if_neg (by rw [hr]; simp), decide_eq_true h0]
  generalize l.getD k default = e
  cases (placesM l false k).has e.serial <;> by_cases c1 : e.err = 0 <;> by_cases c2 : e.rdata = ByteArray.empty <;> simp [c1, c2]
theorem check_spec (n : Int) (l : List Evt) : PSpec Tryz.prog 53 [.c (.int .i64 n), .c (evC l)] (.c (.int .i64 (checkM n l))) := by
  refine PSpec.rm ?_
  refine ov hΓ Tryz.func53 98 0 [.tmp 4] Tryz.ntmps53 Tryz.results53 ?_
  ((conv=>whnf);(repeat' ((first|refine Nd ?_|refine Hv fun _h=>?_);conv=>whnf)))
  (first|refine Br.od (fun h0=>?_) (fun h0=>?_)|refine Br.mk (fun h0=>?_) (fun h0=>?_)<;>simp [-List.length_eq_zero_iff,-List.getD_eq_getElem?_getD] at h0)<;>(try simp only [Int.toNat_natCast] at h0)<;>(conv=>whnf)
  · ((conv=>whnf);(repeat' ((first|refine Nd ?_|refine Hv fun _h=>?_);conv=>whnf)))
    have : checkM n l = 1 := by unfold checkM; rw [if_pos (by omega)]
    rw [this]
    exact RM.i0
  · ((conv=>whnf);(repeat' ((first|refine Nd ?_|refine Hv fun _h=>?_);conv=>whnf)))
    (first|refine Br.od (fun h1=>?_) (fun h1=>?_)|refine Br.mk (fun h1=>?_) (fun h1=>?_)<;>simp [-List.length_eq_zero_iff,-List.getD_eq_getElem?_getD] at h1)<;>(try simp only [Int.toNat_natCast] at h1)<;>(conv=>whnf)
    · ((conv=>whnf);(repeat' ((first|refine Nd ?_|refine Hv fun _h=>?_);conv=>whnf)))
      have : checkM n l = 19 := by unfold checkM; rw [if_neg (by omega), if_pos (by omega)]
      rw [this]
      exact RM.i0
    · ((conv=>whnf);(repeat' ((first|refine Nd ?_|refine Hv fun _h=>?_);conv=>whnf)))
      refine Lp.mkK hΓ (ι := Nat) [22, 23, 5, 6] (fun i => [(24, .c (.int .i64 i))]) (fun i => [.mp (.c (some .i64)) [Z.b, Z.i .i64, Z.i .i64, Z.i .i64, Z.i .i64, Z.s, Z.i .i64, Z.s] true ((placesM l false i).map fun p => .c (.i .i64 p.1)) (fun k j => Evt.cell (begunV l i (keyI k)) j), .mp (.c (some .i64)) [Z.b] false ((placesM l true i).map fun p => .c (.i .i64 p.1)) (fun k _ => C.bool ((placesM l true i).has (keyI k)))]) (fun i => i ≤ l.length ∧ rightTo l i = true) (fun i => l.length - i) 0 ⟨Nat.zero_le _, rfl⟩ ?_ ?_
      · refine Mv.k2 ?_ ?_
        · intro k j _ hj
          refine leF.of_eq ?_
          have e : begunV l 0 (keyI k) = default := by unfold begunV; rw [if_neg (by simp [placesM, MapI.has])]
          rw [e]
          match j, hj with
          | 0, _ => rfl
          | 1, _ => rfl
          | 2, _ => rfl
          | 3, _ => rfl
          | 4, _ => rfl
          | 5, _ => rfl
          | 6, _ => rfl
          | 7, _ => rfl
        · intro k j _ hj
          have : j = 0 := by simpa using hj
          subst this
          exact leF.of_eq rfl
      · intro k ⟨hk, hr⟩
        ((conv=>whnf);(repeat' ((first|refine Nd ?_|refine Hv fun _h=>?_);conv=>whnf)))
        refine Br.of (fun h2=>?_) (fun h2=>?_)<;>(try simp only [Int.toNat_natCast] at h2)<;>(conv=>whnf)
        · ((conv=>whnf);(repeat' ((first|refine Nd ?_|refine Hv fun _h=>?_);conv=>whnf)))
          have e0 : (k : Int).toNat = k := by simp
          have hk' : k < l.length := by omega
          have fin : rightM l k = false → checkM n l = 17 := fun h => by
            unfold checkM
            rw [if_neg (by omega), if_neg (by omega), if_neg (by rw [rightTo_false h hk']; simp)]
          have go : rightM l k = true → rightTo l (k + 1) = true := fun h => by rw [rightTo, hr, h]; rfl
          simp only [e0]
          (first|refine Br.od (fun h3=>?_) (fun h3=>?_)|refine Br.mk (fun h3=>?_) (fun h3=>?_)<;>simp [-List.length_eq_zero_iff,-List.getD_eq_getElem?_getD] at h3)<;>(try simp only [Int.toNat_natCast] at h3)<;>(conv=>whnf)
          · ((conv=>whnf);(repeat' ((first|refine Nd ?_|refine Hv fun _h=>?_);conv=>whnf)))
            rw [fin (by unfold rightM; rw [decide_eq_false (by omega)]; rfl)]
            exact RM.i0
          · ((conv=>whnf);(repeat' ((first|refine Nd ?_|refine Hv fun _h=>?_);conv=>whnf)))
            (first|refine Br.od (fun h4=>?_) (fun h4=>?_)|refine Br.mk (fun h4=>?_) (fun h4=>?_)<;>simp [-List.length_eq_zero_iff,-List.getD_eq_getElem?_getD] at h4)<;>(try simp only [Int.toNat_natCast] at h4)<;>(conv=>whnf)
            · ((conv=>whnf);(repeat' ((first|refine Nd ?_|refine Hv fun _h=>?_);conv=>whnf)))
              rw [memK_i]
              have hq := rightM_inv (l := l) (k := k) (by omega) h4
              refine Br.mk (fun h5 => ?_) (fun h5 => ?_)
              · rw [h5] at hq
                ((conv=>whnf);(repeat' ((first|refine Nd ?_|refine Hv fun _h=>?_);conv=>whnf)))
                rw [fin hq]
                exact RM.i0
              · rw [h5] at hq
                have hn : (placesM l false k).has (l.getD k default).serial = false := by
                  cases hh : (placesM l false k).has (l.getD k default).serial with
                  | false => rfl
                  | true => rw [hh] at h5; cases h5
                ((conv=>whnf);(repeat' ((first|refine Nd ?_|refine Hv fun _h=>?_);conv=>whnf)))
                refine ⟨k + 1, ⟨by omega, go hq⟩, by omega, ?_⟩
                have e1 : placesM l false (k + 1) = placesM l false k ++ [((l.getD k default).serial, (k : Int))] := by
                  rw [placesM, if_pos ⟨hn, h4⟩]
                have e2 : placesM l true (k + 1) = placesM l true k := by
                  rw [placesM, if_neg (by rw [h4]; simp)]
                rw [e2]
                refine Mv.k1 ?_
                refine WO.mp rfl rfl rfl ((updK_new hn).trans (by rw [e1])) ?_
                intro x j hx hj
                obtain ⟨n, rfl⟩ := key_i hx
                refine leF.of_eq (begunV_new hn h4 ?_)
                intro j
                match j with
                | 0 => rfl
                | 1 => rfl
                | 2 => rfl
                | 3 => rfl
                | 4 => rfl
                | 5 => rfl
                | 6 => rfl
                | 7 => rfl
                | j + 8 => rfl
            · ((conv=>whnf);(repeat' ((first|refine Nd ?_|refine Hv fun _h=>?_);conv=>whnf)))
              refine CallG.auto fits_body (fun _ => fits_spec (l.getD k default).kind (l.getD k default).block (l.getD k default).err (l.getD k default).data (l.getD k default).rdata ) ?_
              ((conv=>whnf);(repeat' ((first|refine Nd ?_|refine Hv fun _h=>?_);conv=>whnf)))
              have hq := rightM_ret (l := l) (k := k) (by omega) h4
              rw [memK_i]
              refine Br.mk (fun h5 => ?_) (fun h5 => ?_)
              · replace hq := hq.trans (congrArg not h5)
                ((conv=>whnf);(repeat' ((first|refine Nd ?_|refine Hv fun _h=>?_);conv=>whnf)))
                rw [fin hq]
                exact RM.i0
              · replace hq := hq.trans (congrArg not h5)
                have hn : (placesM l true k).has (l.getD k default).serial = false := by
                  have hq' := hq
                  unfold rightM at hq'
                  rw [if_pos h4] at hq'
                  simp only [Bool.not_false, Bool.and_eq_true, Bool.not_eq_true'] at hq'
                  exact hq'.2.1.1.1.2
                ((conv=>whnf);(repeat' ((first|refine Nd ?_|refine Hv fun _h=>?_);conv=>whnf)))
                refine ⟨k + 1, ⟨by omega, go hq⟩, by omega, ?_⟩
                have e1 : placesM l true (k + 1) = placesM l true k ++ [((l.getD k default).serial, (k : Int))] := by
                  rw [placesM, if_pos ⟨hn, h4⟩]
                have e2 : placesM l false (k + 1) = placesM l false k := by
                  rw [placesM, if_neg (by rw [h4]; simp)]
                refine Mv.k2 ?_ ?_
                · refine WO.mp rfl rfl rfl (by rw [e2]) ?_
                  intro x j hx hj
                  refine leF.of_eq ?_
                  unfold begunV
                  rw [e2]
                · refine WO.mp rfl rfl rfl ((updK_new hn).trans (by rw [e1])) ?_
                  intro x j hx hj
                  have : j = 0 := by simpa using hj
                  subst this
                  obtain ⟨n, rfl⟩ := key_i hx
                  exact leF.of_eq (endedV_new hn h4)
        · ((conv=>whnf);(repeat' ((first|refine Nd ?_|refine Hv fun _h=>?_);conv=>whnf)))
          have : k = l.length := by omega
          subst this
          have : checkM n l = 0 := by unfold checkM; rw [if_neg (by omega), if_neg (by omega), if_pos hr]
          rw [this]
          exact RM.i0
theorem check_body : HasBody Tryz.prog 53 := hB Tryz.func53
end Go.Proofs
end

section
open Go Go.Am
namespace Go.Proofs
def Evt.s (e : Evt) : S := .a e.cells
theorem firstM_lt (l : List Evt) (r : Bool) (s : Int) : firstM l r s < l.length := by
  unfold firstM
  split
  · rename_i h
    exact (placesF_range h).2
  · omega
theorem WC.evT {ρ : Nat → Nat} {n : Nat} {l : List Evt} {k : Nat} {t : Bool} (h : k ≤ l.length) : WC ρ n (.isl 8 (k : Int).toNat (evG l) t) (evC (l.take k)) := by
  have e : (k : Int).toNat = k := by simp
  rw [e]
  refine WC.isl (by rw [List.length_take]; omega) (fun i hi j _ => ?_) (fun e => by cases e)
  unfold evG rowG
  rw [getD_take hi]
theorem right_spec (l : List Evt) (k : Nat) (hk : k < l.length) (hr : rightTo l k = true) : PSpec Tryz.prog 85 [.c (evC (l.take k)), .a (l.getD k default).cells] (.c (.bool (rightM l k))) := by
  refine PSpec.rm ?_
  refine ov hΓ Tryz.func85 77 0 [.tmp 4] Tryz.ntmps85 Tryz.results85 ?_
  ((conv=>whnf);(repeat' ((first|refine Nd ?_|refine Hv fun _h=>?_);conv=>whnf)))
  have hf : ∀ r s, firstM (l.take k) r s = if (placesM l r k).has s = true then (placesM l r k).get s else -1 := fun r s => by
    unfold firstM
    rw [placesF_take (by omega)]
  (first|refine Br.od (fun h0=>?_) (fun h0=>?_)|refine Br.mk (fun h0=>?_) (fun h0=>?_)<;>simp [-List.length_eq_zero_iff,-List.getD_eq_getElem?_getD] at h0)<;>(try simp only [Int.toNat_natCast] at h0)<;>(conv=>whnf)
  · ((conv=>whnf);(repeat' ((first|refine Nd ?_|refine Hv fun _h=>?_);conv=>whnf)))
    have : rightM l k = false := by unfold rightM; rw [decide_eq_false (by omega)]; rfl
    rw [this]
    exact RM.i0
  · ((conv=>whnf);(repeat' ((first|refine Nd ?_|refine Hv fun _h=>?_);conv=>whnf)))
    refine CallN.pureA invoked_body (invoked_spec (l.take k) (l.getD k default).serial ) ?_
    ((conv=>whnf);(repeat' ((first|refine Nd ?_|refine Hv fun _h=>?_);conv=>whnf)))
    (first|refine Br.od (fun h1=>?_) (fun h1=>?_)|refine Br.mk (fun h1=>?_) (fun h1=>?_)<;>simp [-List.length_eq_zero_iff,-List.getD_eq_getElem?_getD] at h1)<;>(try simp only [Int.toNat_natCast] at h1)<;>(conv=>whnf)
    · ((conv=>whnf);(repeat' ((first|refine Nd ?_|refine Hv fun _h=>?_);conv=>whnf)))
      refine CallG.auto returned_body (fun _ => returned_spec (l.take k) (l.getD k default).serial ) ?_
      ((conv=>whnf);(repeat' ((first|refine Nd ?_|refine Hv fun _h=>?_);conv=>whnf)))
      refine RM.i1 ?_
      rw [rightM_inv (by omega) h1, hf, hf]
      cases hh : (placesM l false k).has (l.getD k default).serial with
      | true =>
        have := places_range l false k _ hh
        rw [if_pos rfl]
        simp [-List.getD_eq_getElem?_getD]; omega
      | false =>
        have h2 : (placesM l true k).has (l.getD k default).serial = false := by
          cases h3 : (placesM l true k).has (l.getD k default).serial with
          | false => rfl
          | true => rw [right_sub hr h3] at hh; cases hh
        rw [h2]
        simp
    · ((conv=>whnf);(repeat' ((first|refine Nd ?_|refine Hv fun _h=>?_);conv=>whnf)))
      refine Dr.mk hΓ hMix (by kernel_rfl) ?_; conv=>whnf
      ((conv=>whnf);(repeat' ((first|refine Nd ?_|refine Hv fun _h=>?_);conv=>whnf)))
      refine CallP.autoG returned_body (fun _ => returned_spec (l.take k) (l.getD k default).serial ) ?_
      ((conv=>whnf);(repeat' ((first|refine Nd ?_|refine Hv fun _h=>?_);conv=>whnf)))
      have hfr := firstM_lt (l.take k) false (l.getD k default).serial
      repeat (first | refine Need.mk (fun _ => hfr) ?_; conv=>whnf | refine Need.auto ?_; conv=>whnf)
      refine CallP.autoG fits18_body (fun _ => fits18_spec (l.getD k default).kind (l.getD k default).block (l.getD k default).err (l.getD k default).data (l.getD k default).rdata ) ?_
      ((conv=>whnf);(repeat' ((first|refine Nd ?_|refine Hv fun _h=>?_);conv=>whnf)))
      refine RM.i1 ?_
      rw [hf, hf, rightM_ret (by omega) h1]
      cases hh : (placesM l false k).has (l.getD k default).serial with
      | false => rfl
      | true =>
        have hg := places_range l false k _ hh
        have e : (l.take k).getD ((placesM l false k).get (l.getD k default).serial).toNat default = begunV l k (l.getD k default).serial := by
          unfold begunV
          rw [if_pos hh, getD_take (by omega)]
        rw [if_pos rfl, e, decide_eq_true hg.1]
        cases hR : (placesM l true k).has (l.getD k default).serial with
        | true =>
          have := places_range l true k _ hR
          rw [if_pos rfl, decide_eq_false (by omega)]
          rfl
        | false =>
          rw [if_neg (by simp)]
          generalize begunV l k (l.getD k default).serial = f
          generalize l.getD k default = e
          cases fitsM e.kind e.err e.rdata <;> by_cases c1 : f.queue = e.queue <;> by_cases c2 : f.kind = e.kind <;> by_cases c3 : f.block = e.block <;> by_cases c4 : f.data = e.data <;> simp [c1, c2, c3, c4, bne]
theorem right_body : HasBody Tryz.prog 85 := hB Tryz.func85
theorem check18_spec (n : Int) (l : List Evt) : PSpec Tryz.prog 65 [.c (.int .i64 n), .c (evC l)] (.c (.int .i64 (checkM n l))) := by
  refine PSpec.rm ?_
  refine ov hΓ Tryz.func65 30 0 [.tmp 4] Tryz.ntmps65 Tryz.results65 ?_
  ((conv=>whnf);(repeat' ((first|refine Nd ?_|refine Hv fun _h=>?_);conv=>whnf)))
  (first|refine Br.od (fun h0=>?_) (fun h0=>?_)|refine Br.mk (fun h0=>?_) (fun h0=>?_)<;>simp [-List.length_eq_zero_iff,-List.getD_eq_getElem?_getD] at h0)<;>(try simp only [Int.toNat_natCast] at h0)<;>(conv=>whnf)
  · ((conv=>whnf);(repeat' ((first|refine Nd ?_|refine Hv fun _h=>?_);conv=>whnf)))
    have : checkM n l = 1 := by unfold checkM; rw [if_pos (by omega)]
    rw [this]
    exact RM.i0
  · ((conv=>whnf);(repeat' ((first|refine Nd ?_|refine Hv fun _h=>?_);conv=>whnf)))
    (first|refine Br.od (fun h1=>?_) (fun h1=>?_)|refine Br.mk (fun h1=>?_) (fun h1=>?_)<;>simp [-List.length_eq_zero_iff,-List.getD_eq_getElem?_getD] at h1)<;>(try simp only [Int.toNat_natCast] at h1)<;>(conv=>whnf)
    · ((conv=>whnf);(repeat' ((first|refine Nd ?_|refine Hv fun _h=>?_);conv=>whnf)))
      have : checkM n l = 19 := by unfold checkM; rw [if_neg (by omega), if_pos (by omega)]
      rw [this]
      exact RM.i0
    · ((conv=>whnf);(repeat' ((first|refine Nd ?_|refine Hv fun _h=>?_);conv=>whnf)))
      refine Lp.mkK hΓ (ι := Nat) [1] (fun i => [(5, .c (.int .i64 i))]) (fun i => []) (fun i => i ≤ l.length ∧ rightTo l i = true) (fun i => l.length - i) 0 ⟨Nat.zero_le _, rfl⟩ ?_ ?_
      · exact Mv.k0
      · intro k ⟨hk, hr⟩
        ((conv=>whnf);(repeat' ((first|refine Nd ?_|refine Hv fun _h=>?_);conv=>whnf)))
        refine Br.of (fun h2=>?_) (fun h2=>?_)<;>(try simp only [Int.toNat_natCast] at h2)<;>(conv=>whnf)
        · ((conv=>whnf);(repeat' ((first|refine Nd ?_|refine Hv fun _h=>?_);conv=>whnf)))
          have hk' : k < l.length := by omega
          refine Dr.mk hΓ hMix (by kernel_rfl) ?_; conv=>whnf
          ((conv=>whnf);(repeat' ((first|refine Nd ?_|refine Hv fun _h=>?_);conv=>whnf)))
          refine CallP.mkW right_body (right_spec l k hk' hr) (by (first|exact wb0|refine wb1 ?_|refine wb2 ?_ ?_|refine wb3 ?_ ?_ ?_|refine wb4 ?_ ?_ ?_ ?_); exact WC.evT hk) rfl ?_
          ((conv=>whnf);(repeat' ((first|refine Nd ?_|refine Hv fun _h=>?_);conv=>whnf)))
          cases hq : rightM l k with
          | false =>
            refine Br.yes rfl ?_; conv=>whnf
            ((conv=>whnf);(repeat' ((first|refine Nd ?_|refine Hv fun _h=>?_);conv=>whnf)))
            have : checkM n l = 17 := by
              unfold checkM
              rw [if_neg (by omega), if_neg (by omega), if_neg (by rw [rightTo_false hq hk']; simp)]
            rw [this]
            exact RM.i0
          | true =>
            refine Br.no rfl ?_; conv=>whnf
            ((conv=>whnf);(repeat' ((first|refine Nd ?_|refine Hv fun _h=>?_);conv=>whnf)))
            refine ⟨k + 1, ⟨by omega, by rw [rightTo, hr, hq]; rfl⟩, by omega, ?_⟩
            exact Mv.k0
        · ((conv=>whnf);(repeat' ((first|refine Nd ?_|refine Hv fun _h=>?_);conv=>whnf)))
          have : k = l.length := by omega
          subst this
          have : checkM n l = 0 := by unfold checkM; rw [if_neg (by omega), if_neg (by omega), if_pos hr]
          rw [this]
          exact RM.i0
theorem check18_body : HasBody Tryz.prog 65 := hB Tryz.func65
end Go.Proofs
end

section
open Go Go.Am
namespace Go.Proofs
def sz16 (b : ByteArray) : Bool := decide (b.size = 16)
theorem all_step {bs : List ByteArray} {k : Nat} (h : (bs.take k).all sz16 = true) (hk : k < bs.length) (h2 : (bs.getD k ByteArray.empty).size = 16) : (bs.take (k + 1)).all sz16 = true := by
  have e : bs.getD k ByteArray.empty = bs[k] := by simp [List.getD, hk]
  rw [List.take_succ_eq_append_getElem hk, List.all_append, h]
  rw [e] at h2
  simp [sz16, h2]
theorem all_stop {bs : List ByteArray} {k : Nat} (hk : k < bs.length) (h2 : (bs.getD k ByteArray.empty).size ≠ 16) : bs.all sz16 = false := by
  have e : bs.getD k ByteArray.empty = bs[k] := by simp [List.getD, hk]
  rw [e] at h2
  rw [← Bool.not_eq_true, List.all_eq_true]
  intro h
  have := h _ (List.getElem_mem hk)
  simp [sz16] at this
  exact h2 this
theorem sizesM_1 {bs : List ByteArray} {l : List Evt} (h : checkM bs.length l ≠ 0) : sizesM bs l = checkM bs.length l := by unfold sizesM; rw [if_neg h]
theorem sizesM_2 {bs : List ByteArray} {l : List Evt} (h : checkM bs.length l = 0) (h2 : bs.all sz16 = false) : sizesM bs l = 2 := by
  unfold sizesM; rw [if_pos h]
  exact if_neg (by rw [show (bs.all fun b => decide (b.size = 16)) = false from h2]; simp)
theorem sizesM_3 {bs : List ByteArray} {l : List Evt} (h : checkM bs.length l = 0) (h2 : bs.all sz16 = true) : sizesM bs l = 0 := by
  unfold sizesM; rw [if_pos h]
  exact if_pos h2
theorem sizes_spec (bs : List ByteArray) (l : List Evt) : PSpec Tryz.prog 37 [.c (strsC bs), .c (evC l)] (.c (.int .i64 (sizesM bs l))) := by
  refine PSpec.rm ?_
  refine ov hΓ Tryz.func37 26 0 [.tmp 4] Tryz.ntmps37 Tryz.results37 ?_
  ((conv=>whnf);(repeat' ((first|refine Nd ?_|refine Hv fun _h=>?_);conv=>whnf)))
  refine CallN.pureA check18_body (check18_spec bs.length l ) ?_
  ((conv=>whnf);(repeat' ((first|refine Nd ?_|refine Hv fun _h=>?_);conv=>whnf)))
  refine Br.of (fun h0=>?_) (fun h0=>?_)<;>(try simp only [Int.toNat_natCast] at h0)<;>(conv=>whnf)
  · ((conv=>whnf);(repeat' ((first|refine Nd ?_|refine Hv fun _h=>?_);conv=>whnf)))
    rw [sizesM_1 h0]
    exact RM.i0
  · ((conv=>whnf);(repeat' ((first|refine Nd ?_|refine Hv fun _h=>?_);conv=>whnf)))
    refine Lp.mkK hΓ (ι := Nat) [0] (fun i => [(6, .c (.int .i64 i))]) (fun i => []) (fun i => i ≤ bs.length ∧ (bs.take i).all sz16 = true) (fun i => bs.length - i) 0 ⟨Nat.zero_le _, rfl⟩ ?_ ?_
    · exact Mv.k0
    · intro k ⟨hk, hr⟩
      ((conv=>whnf);(repeat' ((first|refine Nd ?_|refine Hv fun _h=>?_);conv=>whnf)))
      refine Br.of (fun h2=>?_) (fun h2=>?_)<;>(try simp only [Int.toNat_natCast] at h2)<;>(conv=>whnf)
      · ((conv=>whnf);(repeat' ((first|refine Nd ?_|refine Hv fun _h=>?_);conv=>whnf)))
        have hk' : k < bs.length := by omega
        have e0 : (k : Int).toNat = k := by simp
        rw [e0]
        (first|refine Br.od (fun h3=>?_) (fun h3=>?_)|refine Br.mk (fun h3=>?_) (fun h3=>?_)<;>simp [-List.length_eq_zero_iff,-List.getD_eq_getElem?_getD] at h3)<;>(try simp only [Int.toNat_natCast] at h3)<;>(conv=>whnf)
        · ((conv=>whnf);(repeat' ((first|refine Nd ?_|refine Hv fun _h=>?_);conv=>whnf)))
          rw [sizesM_2 h0 (all_stop hk' (by omega))]
          exact RM.i0
        · ((conv=>whnf);(repeat' ((first|refine Nd ?_|refine Hv fun _h=>?_);conv=>whnf)))
          refine ⟨k + 1, ⟨by omega, all_step hr hk' (by omega)⟩, by omega, ?_⟩
          exact Mv.k0
      · ((conv=>whnf);(repeat' ((first|refine Nd ?_|refine Hv fun _h=>?_);conv=>whnf)))
        have : k = bs.length := by omega
        subst this
        rw [List.take_length] at hr
        rw [sizesM_3 h0 hr]
        exact RM.i0
theorem sizes_body : HasBody Tryz.prog 37 := hB Tryz.func37
theorem lbase_spec (bs : List ByteArray) (l : List Evt) : PSpec Tryz.prog 30 [.c (strsC bs), .c (evC l)] (.c (.int .i64 (sizesM bs l))) := by
  refine PSpec.rm ?_
  refine ov hΓ Tryz.func30 25 0 [.tmp 4] Tryz.ntmps30 Tryz.results30 ?_
  ((conv=>whnf);(repeat' ((first|refine Nd ?_|refine Hv fun _h=>?_);conv=>whnf)))
  refine CallN.pureA check_body (check_spec bs.length l ) ?_
  ((conv=>whnf);(repeat' ((first|refine Nd ?_|refine Hv fun _h=>?_);conv=>whnf)))
  refine Br.of (fun h0=>?_) (fun h0=>?_)<;>(try simp only [Int.toNat_natCast] at h0)<;>(conv=>whnf)
  · ((conv=>whnf);(repeat' ((first|refine Nd ?_|refine Hv fun _h=>?_);conv=>whnf)))
    rw [sizesM_1 h0]
    exact RM.i0
  · ((conv=>whnf);(repeat' ((first|refine Nd ?_|refine Hv fun _h=>?_);conv=>whnf)))
    refine Lp.mkK hΓ (ι := Nat) [15,16] (fun i => [(17, .c (.int .i64 i))]) (fun i => []) (fun i => i ≤ bs.length ∧ (bs.take i).all sz16 = true) (fun i => bs.length - i) 0 ⟨Nat.zero_le _, rfl⟩ ?_ ?_
    · exact Mv.k0
    · intro k ⟨hk, hr⟩
      ((conv=>whnf);(repeat' ((first|refine Nd ?_|refine Hv fun _h=>?_);conv=>whnf)))
      refine Br.of (fun h2=>?_) (fun h2=>?_)<;>(try simp only [Int.toNat_natCast] at h2)<;>(conv=>whnf)
      · ((conv=>whnf);(repeat' ((first|refine Nd ?_|refine Hv fun _h=>?_);conv=>whnf)))
        have hk' : k < bs.length := by omega
        have e0 : (k : Int).toNat = k := by simp
        rw [e0]
        (first|refine Br.od (fun h3=>?_) (fun h3=>?_)|refine Br.mk (fun h3=>?_) (fun h3=>?_)<;>simp [-List.length_eq_zero_iff,-List.getD_eq_getElem?_getD] at h3)<;>(try simp only [Int.toNat_natCast] at h3)<;>(conv=>whnf)
        · ((conv=>whnf);(repeat' ((first|refine Nd ?_|refine Hv fun _h=>?_);conv=>whnf)))
          rw [sizesM_2 h0 (all_stop hk' (by omega))]
          exact RM.i0
        · ((conv=>whnf);(repeat' ((first|refine Nd ?_|refine Hv fun _h=>?_);conv=>whnf)))
          refine ⟨k + 1, ⟨by omega, all_step hr hk' (by omega)⟩, by omega, ?_⟩
          exact Mv.k0
      · ((conv=>whnf);(repeat' ((first|refine Nd ?_|refine Hv fun _h=>?_);conv=>whnf)))
        have : k = bs.length := by omega
        subst this
        rw [List.take_length] at hr
        rw [sizesM_3 h0 hr]
        exact RM.i0
theorem lbase_body : HasBody Tryz.prog 30 := hB Tryz.func30
end Go.Proofs
end

section
open Go Go.Am
namespace Go.Proofs
theorem get_iff {l : List Evt} {k : Nat} (hk : k < l.length) (hr : (l.getD k default).ret = false) : (placesF l false).get (l.getD k default).serial = k ↔ (placesM l false k).has (l.getD k default).serial = false := by
  have hh : (placesM l false l.length).has (l.getD k default).serial = true := (placesM_has l false _ _).2 ⟨k, hk, hr, rfl⟩
  obtain ⟨i, i1, i2, i3, i4, i5⟩ := placesM_get l false _ _ hh
  unfold placesF
  rw [i2, placesM_not]
  constructor
  · intro e
    have : i = k := by omega
    subst this
    exact i5
  · intro h
    rcases Nat.lt_trichotomy i k with c | c | c
    · exact absurd i4 (h i c i3)
    · rw [c]
    · exact absurd rfl (i5 k c hr)
theorem begunTo_yes {l : List Evt} {k : Nat} (hk : k < l.length) (hr : (l.getD k default).ret = false) (h : (placesM l false k).has (l.getD k default).serial = false) : begunTo l (k + 1) = begunTo l k ++ [l.getD k default] := by
  rw [begunTo, if_pos ⟨hr, (get_iff hk hr).2 h⟩]
theorem begunTo_no {l : List Evt} {k : Nat} (hk : k < l.length) (h : (l.getD k default).ret = true ∨ (placesM l false k).has (l.getD k default).serial = true) : begunTo l (k + 1) = begunTo l k := by
  rw [begunTo, if_neg]
  rintro ⟨h1, h2⟩
  rcases h with h | h
  · rw [h1] at h; cases h
  · rw [(get_iff hk h1).1 h2] at h; cases h
def opsTo (l : List Evt) (k : Nat) : List Evt := (begunTo l k).map (opOf l)
theorem opsTo_len (l : List Evt) (k : Nat) : (opsTo l k).length ≤ k := by
  unfold opsTo; rw [List.length_map]; exact begunTo_len l k
theorem operations18_spec (l : List Evt) (hl : l.length ≤ 10000000) : PSpec Tryz.prog 38 [.c (evC l)] (.c (evC (operationsM l))) := by
  refine PSpec.rm ?_
  refine ov hΓ Tryz.func38 52 0 [.tmp 2] Tryz.ntmps38 Tryz.results38 ?_
  ((conv=>whnf);(repeat' ((first|refine Nd ?_|refine Hv fun _h=>?_);conv=>whnf)))
  refine Lp.reserve 52 8 (evG []) 3 rfl ?_
  refine Lp.mkK hΓ (ι := Nat) [0] (fun k => [(4, .c (.int .i64 k)), (3, .c (.sl 0 8 (opsTo l k).length (opsTo l k).length false))]) (fun k => [.arr 52 8 (opsTo l k).length (evG (opsTo l k))]) (fun k => k ≤ l.length) (fun k => l.length - k) 0 (Nat.zero_le _) ?_ ?_
  · refine Mv.k1 ?_
    intro i hi; omega
  · intro k hk
    have hbl := opsTo_len l k
    ((conv=>whnf);(repeat' ((first|refine Nd ?_|refine Hv fun _h=>?_);conv=>whnf)))
    refine Br.of (fun h1=>?_) (fun h1=>?_)<;>(try simp only [Int.toNat_natCast] at h1)<;>(conv=>whnf)
    · ((conv=>whnf);(repeat' ((first|refine Nd ?_|refine Hv fun _h=>?_);conv=>whnf)))
      have hk' : k < l.length := by omega
      have e0 : (k : Int).toNat = k := by simp
      refine Dr.mk hΓ hMix (by kernel_rfl) ?_; conv=>whnf
      ((conv=>whnf);(repeat' ((first|refine Nd ?_|refine Hv fun _h=>?_);conv=>whnf)))
      refine CallP.mkGW invoked_body (fun _ => invoked_spec (l.take k) (l.getD k default).serial) (by (first|exact wb0|refine wb1 ?_|refine wb2 ?_ ?_|refine wb3 ?_ ?_ ?_|refine wb4 ?_ ?_ ?_ ?_); exact WC.evT hk) rfl ?_
      ((conv=>whnf);(repeat' ((first|refine Nd ?_|refine Hv fun _h=>?_);conv=>whnf)))
      have hf : firstM (l.take k) false (l.getD k default).serial = if (placesM l false k).has (l.getD k default).serial = true then (placesM l false k).get (l.getD k default).serial else -1 := by
        unfold firstM
        rw [placesF_take (by omega)]
      rw [e0, hf]
      have hcond : ((bif (l.getD k default).ret then true else decide ((if (placesM l false k).has (l.getD k default).serial = true then (placesM l false k).get (l.getD k default).serial else -1) ≥ 0)) = true) ↔ ((l.getD k default).ret = true ∨ (placesM l false k).has (l.getD k default).serial = true) := by
        cases hr : (l.getD k default).ret with
        | true => simp
        | false =>
          cases hh : (placesM l false k).has (l.getD k default).serial with
          | true =>
            have := places_range l false k _ hh
            simp [-List.getD_eq_getElem?_getD]; omega
          | false => simp
      refine Br.mk (fun h2 => ?_) (fun h2 => ?_)
      · ((conv=>whnf);(repeat' ((first|refine Nd ?_|refine Hv fun _h=>?_);conv=>whnf)))
        have h2' := hcond.1 h2
        refine ⟨k + 1, by omega, by omega, ?_⟩
        have e1 : opsTo l (k + 1) = opsTo l k := by unfold opsTo; rw [begunTo_no hk' h2']
        rw [e1]
        refine Mv.mkW ?_ ?_ leN <;> (first|exact wb0|refine wb1 ?_|refine wb2 ?_ ?_|refine wb3 ?_ ?_ ?_|refine wb4 ?_ ?_ ?_ ?_)
        all_goals (intro i _ j _; exact WC.imm (evCell_imm _ _))
      · have h2' : (l.getD k default).ret = false ∧ (placesM l false k).has (l.getD k default).serial = false := by
          constructor
          · cases hr : (l.getD k default).ret with
            | false => rfl
            | true => rw [hcond.2 (.inl hr)] at h2; cases h2
          · cases hr : (placesM l false k).has (l.getD k default).serial with
            | false => rfl
            | true => rw [hcond.2 (.inr hr)] at h2; cases h2
        ((conv=>whnf);(repeat' ((first|refine Nd ?_|refine Hv fun _h=>?_);conv=>whnf)))
        simp only [e0]
        refine CallN.pureA returned_body (returned_spec l (l.getD k default).serial ) ?_
        ((conv=>whnf);(repeat' ((first|refine Nd ?_|refine Hv fun _h=>?_);conv=>whnf)))
        have e1 : opsTo l (k + 1) = opsTo l k ++ [opOf l (l.getD k default)] := by unfold opsTo; rw [begunTo_yes hk' h2'.1 h2'.2, List.map_append]; rfl
        have hfn := first_neg l true (l.getD k default).serial
        cases hh : (placesF l true).has (l.getD k default).serial with
        | true =>
          rw [hh] at hfn
          refine Br.yes hfn ?_
          ((conv=>whnf);(repeat' ((first|refine Nd ?_|refine Hv fun _h=>?_);conv=>whnf)))
          have hp : firstM l true (l.getD k default).serial = (placesF l true).get (l.getD k default).serial := by unfold firstM; rw [if_pos hh]
          have hr := placesF_range hh
          have hi : opOf l (l.getD k default) = { l.getD k default with ret := true, err := (l.getD ((placesF l true).get (l.getD k default).serial).toNat default).err, rdata := (l.getD ((placesF l true).get (l.getD k default).serial).toNat default).rdata } := by unfold opOf; rw [if_pos hh]
          rw [hp]
          refine Dr.mkE hΓ hMix [] [(0, 6), (1, 6), (2, 6), (3, 6), (4, 6)] (by kernel_rfl) ?_; conv=>whnf
          ((conv=>whnf);(repeat' ((first|refine Nd ?_|refine Hv fun _h=>?_);conv=>whnf)))
          refine ⟨k + 1, by omega, by omega, ?_⟩
          rw [e1, hi]
          refine Mv.k1 ?_
          intro i hi' j hj
          exact WC.eq (ev_snoc (x := { l.getD k default with ret := true, err := (l.getD ((placesF l true).get (l.getD k default).serial).toNat default).err, rdata := (l.getD ((placesF l true).get (l.getD k default).serial).toNat default).rdata }) rfl (by simpa using hi') hj) (evCell_imm _ _)
        | false =>
          rw [hh] at hfn
          refine Br.no hfn ?_
          ((conv=>whnf);(repeat' ((first|refine Nd ?_|refine Hv fun _h=>?_);conv=>whnf)))
          have hi : opOf l (l.getD k default) = l.getD k default := by unfold opOf; rw [if_neg (by rw [hh]; simp)]
          refine ⟨k + 1, by omega, by omega, ?_⟩
          rw [e1, hi]
          refine Mv.k1 ?_
          intro i hi' j hj
          exact WC.eq (ev_snoc rfl (by simpa using hi') hj) (evCell_imm _ _)
    · ((conv=>whnf);(repeat' ((first|refine Nd ?_|refine Hv fun _h=>?_);conv=>whnf)))
      have : k = l.length := by omega
      subst this
      refine RM.fz 0 rfl (Nat.zero_le _) (fun _ _ _ _ => (by first | exact rfl | exact evCell_imm _ _ | exact zoneAt_imm _ _ _ | exact zoneAtT_imm _ _ _)) ?_; refine RM.wkW ?_ ?_ (Nat.zero_le _) <;> (first|exact wb0|refine wb1 ?_|refine wb2 ?_ ?_|refine wb3 ?_ ?_ ?_|refine wb4 ?_ ?_ ?_ ?_)
theorem operations18_body : HasBody Tryz.prog 38 := hB Tryz.func38
end Go.Proofs
end
