/- Part of the proofs of laws of this seat: contracts and plain lemmas; no condition is added to a statement. -/
import Derived.Test.YtmpoogflpmaijaaGreatLinE
set_option linter.unusedSimpArgs false
set_option linter.unusedVariables false
section
open Go Go.Am
namespace Go.Proofs
set_option maxRecDepth 20000
set_option maxHeartbeats 2000000
theorem inB_not (b : Int) (e : Evt) : (bif bif decide (e.kind < 1) then true else decide (e.kind > 3) then true else e.block != b) = !inB b e := by
  unfold inB
  by_cases c0 : e.block = b <;> by_cases c1 : e.kind < 1 <;> by_cases c3 : e.kind > 3 <;> by_cases d1 : e.kind = 1 <;> by_cases d2 : e.kind = 2 <;> by_cases d3 : e.kind = 3 <;> simp [c0, c1, c3, d1, d2, d3] <;> omega
def capB (b : Int) : C := .fn (.func 56) 1 fun _ => .ip 1 fun _ => .int .i64 b
theorem rst1_spec (e : Evt) (b : Int) : PSpec Tryz.prog 56 [.a e.cells, .c (.ip 1 fun _ => .int .i64 b)] (.c (.bool (!inB b e))) := by
  refine PSpec.rm ?_
  refine ov hΓ Tryz.func56 21 0 [.tmp 3] Tryz.ntmps56 Tryz.results56 ?_
  ((conv=>whnf);(repeat' ((first|refine Nd ?_|refine Hv fun _h=>?_);conv=>whnf)))
  refine RM.i1 ?_
  · exact inB_not b e
theorem rst1_body : HasBody Tryz.prog 56 := hB Tryz.func56
def firstNot (l : List Evt) (b : Int) : Nat → Option Nat
  | 0 => none
  | k + 1 => match firstNot l b k with
    | some i => some i
    | none => if inB b (l.getD k default) = true then none else some k
def idxI : Option Nat → Int
  | none => -1
  | some i => i
theorem firstNot_stay {l : List Evt} {b : Int} {k i : Nat} (h : firstNot l b k = some i) : ∀ m, firstNot l b (k + m) = some i
  | 0 => h
  | m + 1 => by rw [show k + (m + 1) = (k + m) + 1 by omega, firstNot, firstNot_stay h m]
theorem idxE_spec (l : List Evt) (b : Int) (hl : l.length ≤ 10000000) : PSpec Tryz.prog 77 [.c (evC l), .c (capB b)] (.c (.int .i64 (idxI (firstNot l b l.length)))) := by
  refine PSpec.rm ?_
  refine ov hΓ Tryz.func77 19 0 [.tmp 4] Tryz.ntmps77 Tryz.results77 ?_
  ((conv=>whnf);(repeat' ((first|refine Nd ?_|refine Hv fun _h=>?_);conv=>whnf)))
  refine Lp.mkK hΓ (ι := Nat) [0, 1, 7] (fun k => [(8, .c (.int .i64 k))]) (fun k => []) (fun k => k ≤ l.length ∧ firstNot l b k = none) (fun k => l.length - k) 0 ⟨Nat.zero_le _, rfl⟩ ?_ ?_
  · refine Mv.k1 ?_
    · exact WC.fnI fun _ _ => rfl
  · rintro k ⟨hk, hno⟩
    ((conv=>whnf);(repeat' ((first|refine Nd ?_|refine Hv fun _h=>?_);conv=>whnf)))
    refine Br.of (fun h1=>?_) (fun h1=>?_)<;>(try simp only [Int.toNat_natCast] at h1)<;>(conv=>whnf)
    · ((conv=>whnf);(repeat' ((first|refine Nd ?_|refine Hv fun _h=>?_);conv=>whnf)))
      have hk' : k < l.length := by omega
      have e0 : (k : Int).toNat = k := by simp
      rw [e0]
      have hst : firstNot l b (k + 1) = if inB b (l.getD k default) = true then none else some k := by rw [firstNot, hno]
      generalize hx : l.getD k default = x at *
      refine CallN.pureA rst1_body (rst1_spec x b ) ?_
      ((conv=>whnf);(repeat' ((first|refine Nd ?_|refine Hv fun _h=>?_);conv=>whnf)))
      cases hi : inB b x with
      | true =>
        rw [hi, if_pos rfl] at hst
        refine Br.no rfl ?_
        ((conv=>whnf);(repeat' ((first|refine Nd ?_|refine Hv fun _h=>?_);conv=>whnf)))
        refine ⟨k + 1, ⟨by omega, hst⟩, by omega, ?_⟩
        refine Mv.k1 ?_
        · exact WC.fnI fun _ _ => rfl
      | false =>
        rw [hi, if_neg (by simp)] at hst
        refine Br.yes rfl ?_
        ((conv=>whnf);(repeat' ((first|refine Nd ?_|refine Hv fun _h=>?_);conv=>whnf)))
        have := firstNot_stay hst (l.length - (k + 1))
        rw [show k + 1 + (l.length - (k + 1)) = l.length by omega] at this
        rw [this]
        exact RM.i0
    · ((conv=>whnf);(repeat' ((first|refine Nd ?_|refine Hv fun _h=>?_);conv=>whnf)))
      have hkn : k = l.length := by omega
      subst hkn
      rw [hno]
      exact RM.i0
theorem idxE_body : HasBody Tryz.prog 77 := hB Tryz.func77
end Go.Proofs
end

section
open Go Go.Am
namespace Go.Proofs
set_option maxRecDepth 20000
set_option maxHeartbeats 2000000
def blkB (l : List Evt) (o0 : Int) (s : Int) : Bool := decide (s ≠ o0) && beforeM l s o0
theorem merge11_spec (l : List Evt) (o : List Int) (s : Int) (ho : 0 < o.length) : PSpec Tryz.prog 62 [.c (.int .i64 s), .c (.ip 1 fun _ => intsC o), .c (.ip 1 fun _ => evC l)] (.c (.bool (blkB l (o.getD 0 default) s))) := by
  refine PSpec.rm ?_
  refine ov hΓ Tryz.func62 18 0 [.tmp 4] Tryz.ntmps62 Tryz.results62 ?_
  ((conv=>whnf);(repeat' ((first|refine Nd ?_|refine Hv fun _h=>?_);conv=>whnf)))
  refine Dr.mk hΓ hMix (by kernel_rfl) ?_; conv=>whnf
  ((conv=>whnf);(repeat' ((first|refine Nd ?_|refine Hv fun _h=>?_);conv=>whnf)))
  refine CallP.autoG before_body (fun _ => before_spec l s (o.getD 0 default) ) ?_
  ((conv=>whnf);(repeat' ((first|refine Nd ?_|refine Hv fun _h=>?_);conv=>whnf)))
  refine RM.i1 ?_
  · unfold blkB
    have e : (s != o.getD 0 default) = decide (s ≠ o.getD 0 default) := by rw [Bool.eq_iff_iff, bne_iff_ne, decide_eq_true_eq]
    show (bif s != o.getD 0 default then beforeM l s (o.getD 0 default) else false) = _
    rw [e]
    cases decide (s ≠ o.getD 0 default) <;> rfl
theorem merge11_body : HasBody Tryz.prog 62 := hB Tryz.func62
def capM (l : List Evt) (o : List Int) : Nat → C
  | 0 => .ip 1 fun _ => intsC o
  | _ => .ip 1 fun _ => evC l
theorem capM_imm {l : List Evt} {o : List Int} (j : Nat) : (capM l o j).imm = true := by cases j <;> rfl
theorem capM_WC {ρ : Nat → Nat} {n : Nat} {f : Fn} {l : List Evt} {o : List Int} : WC ρ n (.fn f 2 (lget [.ip 1 fun _ => intsC o, .ip 1 fun _ => evC l])) (.fn f 2 (capM l o)) :=
  ⟨⟨rfl, rfl, fun j hj => by
    match j, hj with
    | 0, _ => exact wkC.imm rfl
    | 1, _ => exact wkC.imm rfl⟩⟩
def idxP (p : Int → Bool) (xs : List Int) : Nat → Option Nat
  | 0 => none
  | k + 1 => match idxP p xs k with
    | some i => some i
    | none => if p (xs.getD k default) = true then some k else none
theorem idxP_stay {p : Int → Bool} {xs : List Int} {k i : Nat} (h : idxP p xs k = some i) : ∀ m, idxP p xs (k + m) = some i
  | 0 => h
  | m + 1 => by rw [show k + (m + 1) = (k + m) + 1 by omega, idxP, idxP_stay h m]
theorem idxInt_spec (l : List Evt) (o xs : List Int) (ho : 0 < o.length) (hx : xs.length ≤ 10000000) : PSpec Tryz.prog 79 [.c (intsC xs), .c (.fn (.func 62) 2 (capM l o))] (.c (.int .i64 (idxI (idxP (blkB l (o.getD 0 default)) xs xs.length)))) := by
  refine PSpec.rm ?_
  refine ov hΓ Tryz.func79 19 0 [.tmp 4] Tryz.ntmps79 Tryz.results79 ?_
  ((conv=>whnf);(repeat' ((first|refine Nd ?_|refine Hv fun _h=>?_);conv=>whnf)))
  refine Lp.mkK hΓ (ι := Nat) [0, 1, 7] (fun k => [(8, .c (.int .i64 k))]) (fun k => []) (fun k => k ≤ xs.length ∧ idxP (blkB l (o.getD 0 default)) xs k = none) (fun k => xs.length - k) 0 ⟨Nat.zero_le _, rfl⟩ ?_ ?_
  · refine Mv.k1 ?_
    · exact WC.fnI fun j _ => capM_imm j
  · rintro k ⟨hk, hno⟩
    ((conv=>whnf);(repeat' ((first|refine Nd ?_|refine Hv fun _h=>?_);conv=>whnf)))
    refine Br.of (fun h1=>?_) (fun h1=>?_)<;>(try simp only [Int.toNat_natCast] at h1)<;>(conv=>whnf)
    · ((conv=>whnf);(repeat' ((first|refine Nd ?_|refine Hv fun _h=>?_);conv=>whnf)))
      have hk' : k < xs.length := by omega
      have e0 : (k : Int).toNat = k := by simp
      rw [e0]
      have hst : idxP (blkB l (o.getD 0 default)) xs (k + 1) = if blkB l (o.getD 0 default) (xs.getD k default) = true then some k else none := by rw [idxP, hno]
      generalize hx : xs.getD k default = x at *
      refine CallN.pureA merge11_body (merge11_spec l o x ho ) ?_
      ((conv=>whnf);(repeat' ((first|refine Nd ?_|refine Hv fun _h=>?_);conv=>whnf)))
      cases hi : blkB l (o.getD 0 default) x with
      | true =>
        rw [hi, if_pos rfl] at hst
        refine Br.yes rfl ?_
        ((conv=>whnf);(repeat' ((first|refine Nd ?_|refine Hv fun _h=>?_);conv=>whnf)))
        have := idxP_stay hst (xs.length - (k + 1))
        rw [show k + 1 + (xs.length - (k + 1)) = xs.length by omega] at this
        rw [this]
        exact RM.i0
      | false =>
        rw [hi, if_neg (by simp)] at hst
        refine Br.no rfl ?_
        ((conv=>whnf);(repeat' ((first|refine Nd ?_|refine Hv fun _h=>?_);conv=>whnf)))
        refine ⟨k + 1, ⟨by omega, hst⟩, by omega, ?_⟩
        refine Mv.k1 ?_
        · exact WC.fnI fun j _ => capM_imm j
    · ((conv=>whnf);(repeat' ((first|refine Nd ?_|refine Hv fun _h=>?_);conv=>whnf)))
      have hkn : k = xs.length := by omega
      subst hkn
      rw [hno]
      exact RM.i0
theorem idxInt_body : HasBody Tryz.prog 79 := hB Tryz.func79
theorem idxP_any {p : Int → Bool} {xs : List Int} : decide (idxI (idxP p xs xs.length) ≥ 0) = xs.any p := by
  have key : ∀ k, k ≤ xs.length → (idxP p xs k = none ↔ ∀ i, i < k → p (xs.getD i default) = false) := by
    intro k
    induction k with
    | zero => exact fun _ => ⟨fun _ i hi => absurd hi (Nat.not_lt_zero i), fun _ => rfl⟩
    | succ k ih =>
      intro hk
      have ih := ih (by omega)
      rw [idxP]
      cases hc : idxP p xs k with
      | some i =>
        rw [hc] at ih
        refine ⟨fun q => (by cases q), fun q => ?_⟩
        have := ih.2 fun i hi => q i (by omega)
        cases this
      | none =>
        have hall := ih.1 hc
        by_cases c : p (xs.getD k default) = true
        · simp only [c, if_true]
          refine ⟨fun q => by simp at q, fun q => ?_⟩
          have := q k (by omega)
          rw [c] at this; cases this
        · simp only [c]
          refine ⟨fun _ i hi => ?_, fun _ => rfl⟩
          by_cases ci : i = k
          · subst ci; simpa using c
          · exact hall i (by omega)
  rw [Bool.eq_iff_iff, decide_eq_true_eq, List.any_eq_true]
  constructor
  · intro h
    refine Classical.byContradiction fun hno => ?_
    have : idxP p xs xs.length = none := (key _ (Nat.le_refl _)).2 fun i hi => by
      cases hp : p (xs.getD i default) with
      | false => rfl
      | true => exact absurd ⟨xs.getD i default, by rw [getD_at hi]; exact List.getElem_mem hi, hp⟩ hno
    rw [this] at h
    simp [idxI] at h
  · rintro ⟨x, hx, hp⟩
    cases hi : idxP p xs xs.length with
    | some i => simp [idxI]
    | none =>
      obtain ⟨i, hi', rfl⟩ := List.getElem_of_mem hx
      have := (key _ (Nat.le_refl _)).1 hi i hi'
      rw [getD_at hi', hp] at this; cases this
theorem hasInt_spec (l : List Evt) (o xs : List Int) (ho : 0 < o.length) (hx : xs.length ≤ 10000000) : PSpec Tryz.prog 61 [.c (intsC xs), .c (.fn (.func 62) 2 (capM l o))] (.c (.bool (xs.any (blkB l (o.getD 0 default))))) := by
  refine PSpec.rm ?_
  refine ov hΓ Tryz.func61 9 0 [.tmp 4] Tryz.ntmps61 Tryz.results61 ?_
  ((conv=>whnf);(repeat' ((first|refine Nd ?_|refine Hv fun _h=>?_);conv=>whnf)))
  refine CallN.reads (args' := [.c (intsC xs), .c (.fn (.func 62) 2 (capM l o))]) idxInt_body (idxInt_spec l o xs ho hx) (BwA.cons (BwS.c (Bw.same rfl)) (BwA.cons (BwS.c (Bw.fn2 (Bw.same rfl) (Bw.same rfl))) BwA.nil)) rfl ?_
  ((conv=>whnf);(repeat' ((first|refine Nd ?_|refine Hv fun _h=>?_);conv=>whnf)))
  rw [idxP_any]
  exact RM.i0
theorem hasInt_body : HasBody Tryz.prog 61 := hB Tryz.func61
theorem merge1_spec (l : List Evt) (o xs : List Int) (ho : 0 < o.length) (hx : xs.length ≤ 10000000) : PSpec Tryz.prog 60 [.c (intsC xs), .c (.ip 1 fun _ => intsC o), .c (.ip 1 fun _ => evC l)] (.c (.bool (xs.any (blkB l (o.getD 0 default))))) := by
  refine PSpec.rm ?_
  refine ov hΓ Tryz.func60 8 0 [.tmp 4] Tryz.ntmps60 Tryz.results60 ?_
  ((conv=>whnf);(repeat' ((first|refine Nd ?_|refine Hv fun _h=>?_);conv=>whnf)))
  refine CallN.reads (args' := [.c (intsC xs), .c (.fn (.func 62) 2 (capM l o))]) hasInt_body (hasInt_spec l o xs ho hx) ?_ (r := .c _) rfl ?_
  · exact BwA.cons (BwS.c (Bw.same rfl)) (BwA.cons (BwS.c (Bw.fn2 (Bw.same rfl) (Bw.same rfl))) BwA.nil)
  ((conv=>whnf);(repeat' ((first|refine Nd ?_|refine Hv fun _h=>?_);conv=>whnf)))
  exact RM.i0
theorem merge1_body : HasBody Tryz.prog 60 := hB Tryz.func60
end Go.Proofs
end

section
open Go Go.Am
namespace Go.Proofs
set_option maxRecDepth 20000
set_option maxHeartbeats 2000000
def ordG (os : List (List Int)) : Nat → Nat → C := fun i _ => intsC (os.getD i default)
def ordC (os : List (List Int)) : C := .isl 1 os.length (ordG os) false
def blkL (l : List Evt) (o0 : Int) (xs : List Int) : Bool := xs.any (blkB l o0)
def idxL (p : List Int → Bool) (xs : List (List Int)) : Nat → Option Nat
  | 0 => none
  | k + 1 => match idxL p xs k with
    | some i => some i
    | none => if p (xs.getD k default) = true then some k else none
theorem idxL_stay {p : List Int → Bool} {xs : List (List Int)} {k i : Nat} (h : idxL p xs k = some i) : ∀ m, idxL p xs (k + m) = some i
  | 0 => h
  | m + 1 => by rw [show k + (m + 1) = (k + m) + 1 by omega, idxL, idxL_stay h m]
theorem idxOrd_spec (l : List Evt) (o : List Int) (xs : List (List Int)) (ho : 0 < o.length) (hx : xs.length ≤ 10000000) (hy : ∀ x ∈ xs, x.length ≤ 10000000) : PSpec Tryz.prog 78 [.c (ordC xs), .c (.fn (.func 60) 2 (capM l o))] (.c (.int .i64 (idxI (idxL (blkL l (o.getD 0 default)) xs xs.length)))) := by
  refine PSpec.rm ?_
  refine ov hΓ Tryz.func78 19 0 [.tmp 4] Tryz.ntmps78 Tryz.results78 ?_
  ((conv=>whnf);(repeat' ((first|refine Nd ?_|refine Hv fun _h=>?_);conv=>whnf)))
  refine Lp.mkK hΓ (ι := Nat) [0, 1, 7] (fun k => [(8, .c (.int .i64 k))]) (fun k => []) (fun k => k ≤ xs.length ∧ idxL (blkL l (o.getD 0 default)) xs k = none) (fun k => xs.length - k) 0 ⟨Nat.zero_le _, rfl⟩ ?_ ?_
  · refine Mv.k1 ?_
    · exact WC.fnI fun j _ => capM_imm j
  · rintro k ⟨hk, hno⟩
    ((conv=>whnf);(repeat' ((first|refine Nd ?_|refine Hv fun _h=>?_);conv=>whnf)))
    refine Br.of (fun h1=>?_) (fun h1=>?_)<;>(try simp only [Int.toNat_natCast] at h1)<;>(conv=>whnf)
    · ((conv=>whnf);(repeat' ((first|refine Nd ?_|refine Hv fun _h=>?_);conv=>whnf)))
      have hk' : k < xs.length := by omega
      have e0 : (k : Int).toNat = k := by simp
      rw [e0]
      have hst : idxL (blkL l (o.getD 0 default)) xs (k + 1) = if blkL l (o.getD 0 default) (xs.getD k default) = true then some k else none := by rw [idxL, hno]
      generalize hx' : xs.getD k default = x at *
      have hxl : x.length ≤ 10000000 := by
        rw [← hx']
        rw [getD_at hk']
        exact hy _ (List.getElem_mem hk')
      refine CallN.pureA merge1_body (merge1_spec l o x ho hxl ) ?_
      ((conv=>whnf);(repeat' ((first|refine Nd ?_|refine Hv fun _h=>?_);conv=>whnf)))
      cases hi : blkL l (o.getD 0 default) x with
      | true =>
        rw [hi, if_pos rfl] at hst
        refine Br.yes hi ?_
        ((conv=>whnf);(repeat' ((first|refine Nd ?_|refine Hv fun _h=>?_);conv=>whnf)))
        have := idxL_stay hst (xs.length - (k + 1))
        rw [show k + 1 + (xs.length - (k + 1)) = xs.length by omega] at this
        rw [this]
        exact RM.i0
      | false =>
        rw [hi, if_neg (by simp)] at hst
        refine Br.no hi ?_
        ((conv=>whnf);(repeat' ((first|refine Nd ?_|refine Hv fun _h=>?_);conv=>whnf)))
        refine ⟨k + 1, ⟨by omega, hst⟩, by omega, ?_⟩
        refine Mv.k1 ?_
        · exact WC.fnI fun j _ => capM_imm j
    · ((conv=>whnf);(repeat' ((first|refine Nd ?_|refine Hv fun _h=>?_);conv=>whnf)))
      have hkn : k = xs.length := by omega
      subst hkn
      rw [hno]
      exact RM.i0
theorem idxOrd_body : HasBody Tryz.prog 78 := hB Tryz.func78
theorem idxL_any {p : List Int → Bool} {xs : List (List Int)} : decide (idxI (idxL p xs xs.length) ≥ 0) = xs.any p := by
  have key : ∀ k, k ≤ xs.length → (idxL p xs k = none ↔ ∀ i, i < k → p (xs.getD i default) = false) := by
    intro k
    induction k with
    | zero => exact fun _ => ⟨fun _ i hi => absurd hi (Nat.not_lt_zero i), fun _ => rfl⟩
    | succ k ih =>
      intro hk
      have ih := ih (by omega)
      rw [idxL]
      cases hc : idxL p xs k with
      | some i =>
        rw [hc] at ih
        refine ⟨fun q => (by cases q), fun q => ?_⟩
        have := ih.2 fun i hi => q i (by omega)
        cases this
      | none =>
        have hall := ih.1 hc
        by_cases c : p (xs.getD k default) = true
        · simp only [c, if_true]
          refine ⟨fun q => by simp at q, fun q => ?_⟩
          have := q k (by omega)
          rw [c] at this; cases this
        · simp only [c]
          refine ⟨fun _ i hi => ?_, fun _ => rfl⟩
          by_cases ci : i = k
          · subst ci; simpa using c
          · exact hall i (by omega)
  rw [Bool.eq_iff_iff, decide_eq_true_eq, List.any_eq_true]
  constructor
  · intro h
    refine Classical.byContradiction fun hno => ?_
    have : idxL p xs xs.length = none := (key _ (Nat.le_refl _)).2 fun i hi => by
      cases hp : p (xs.getD i default) with
      | false => rfl
      | true => exact absurd ⟨xs.getD i default, by rw [getD_at hi]; exact List.getElem_mem hi, hp⟩ hno
    rw [this] at h
    simp [idxI] at h
  · rintro ⟨x, hx, hp⟩
    cases hi : idxL p xs xs.length with
    | some i => simp [idxI]
    | none =>
      obtain ⟨i, hi', rfl⟩ := List.getElem_of_mem hx
      have := (key _ (Nat.le_refl _)).1 hi i hi'
      rw [getD_at hi', hp] at this; cases this
theorem hasOrd_spec (l : List Evt) (o : List Int) (xs : List (List Int)) (ho : 0 < o.length) (hx : xs.length ≤ 10000000) (hy : ∀ x ∈ xs, x.length ≤ 10000000) : PSpec Tryz.prog 59 [.c (ordC xs), .c (.fn (.func 60) 2 (capM l o))] (.c (.bool (xs.any (blkL l (o.getD 0 default))))) := by
  refine PSpec.rm ?_
  refine ov hΓ Tryz.func59 9 0 [.tmp 4] Tryz.ntmps59 Tryz.results59 ?_
  ((conv=>whnf);(repeat' ((first|refine Nd ?_|refine Hv fun _h=>?_);conv=>whnf)))
  refine CallN.reads (args' := [.c (ordC xs), .c (.fn (.func 60) 2 (capM l o))]) idxOrd_body (idxOrd_spec l o xs ho hx hy) (BwA.cons (BwS.c (Bw.same rfl)) (BwA.cons (BwS.c (Bw.fn2 (Bw.same rfl) (Bw.same rfl))) BwA.nil)) rfl ?_
  ((conv=>whnf);(repeat' ((first|refine Nd ?_|refine Hv fun _h=>?_);conv=>whnf)))
  rw [idxL_any]
  exact RM.i0
theorem hasOrd_body : HasBody Tryz.prog 59 := hB Tryz.func59
end Go.Proofs
end

section
open Go Go.Am
namespace Go.Proofs
/-! ### the merge of orders -/
def freeB (l : List Evt) (os : List (List Int)) (o : List Int) : Bool := decide (0 < o.length) && !os.any (blkL l (o.getD 0 default))
def totM : List (List Int) → Nat
  | [] => 0
  | o :: r => o.length + totM r
def mergeM (l : List Evt) : Nat → List (List Int) → List Int → List Int
  | 0, _, out => out
  | f + 1, os, out => match idxL (freeB l os) os os.length with
    | none => out
    | some i => mergeM l f (os.set i ((os.getD i default).drop 1)) (out ++ [(os.getD i default).getD 0 default])
theorem totM_set : ∀ {os : List (List Int)} {i : Nat}, i < os.length → 0 < (os.getD i default).length → totM (os.set i ((os.getD i default).drop 1)) + 1 = totM os
  | o :: r, 0, _, h => by
    simp only [List.getD_cons_zero] at h
    simp only [List.set_cons_zero, List.getD_cons_zero, totM, List.length_drop]
    omega
  | o :: r, i + 1, hi, h => by
    simp only [List.getD_cons_succ] at h
    have := totM_set (os := r) (i := i) (by simpa using hi) h
    simp only [List.set_cons_succ, List.getD_cons_succ, totM]
    omega
theorem idxL_some {p : List Int → Bool} {xs : List (List Int)} : ∀ {k i : Nat}, idxL p xs k = some i → i < k ∧ p (xs.getD i default) = true
  | 0, i, h => by cases h
  | k + 1, i, h => by
    rw [idxL] at h
    cases hc : idxL p xs k with
    | some j =>
      rw [hc] at h
      obtain ⟨h1, h2⟩ := idxL_some hc
      have e : j = i := by simpa using h
      subst e
      exact ⟨by omega, h2⟩
    | none =>
      rw [hc] at h
      by_cases c : p (xs.getD k default) = true
      · simp only [c, if_true, Option.some.injEq] at h
        subst h
        exact ⟨by omega, c⟩
      · simp only [c] at h
        simp at h
end Go.Proofs
end
