/- Part of the proofs of laws of this seat: contracts and plain lemmas; no condition is added to a statement. -/
import Derived.Test.YtmpoogflpmaijaaGreatLinB
import Derived.Test.YtmpoogflpmaijaaGreatLinA
set_option linter.unusedSimpArgs false
set_option linter.unusedVariables false
section
open Go Go.Am
namespace Go.Proofs
/-! ### sets as bits -/
theorem wrap_nat {n : Nat} (h : n < 2 ^ 63) : IntKind.i64.wrap (n : Int) = n := wrap_id _ (by omega) (by omega)
theorem bv_nat (a : Nat) : BitVec.ofInt IntKind.i64.bits (a : Int) = BitVec.ofNat 64 a := by
  show BitVec.ofInt 64 _ = _
  simp
theorem bits_or {a b : Nat} (ha : a < 2 ^ 63) (hb : b < 2 ^ 63) : IntKind.i64.wrap (BitVec.ofInt IntKind.i64.bits (a : Int) ||| BitVec.ofInt IntKind.i64.bits (b : Int)).toNat = ((a ||| b : Nat) : Int) := by
  rw [bv_nat, bv_nat]
  have : (BitVec.ofNat 64 a ||| BitVec.ofNat 64 b).toNat = a ||| b := by
    rw [BitVec.toNat_or, BitVec.toNat_ofNat, BitVec.toNat_ofNat, Nat.mod_eq_of_lt (by omega), Nat.mod_eq_of_lt (by omega)]
  show IntKind.i64.wrap ((BitVec.ofNat 64 a ||| BitVec.ofNat 64 b).toNat : Int) = _
  rw [this]
  exact wrap_nat (Nat.or_lt_two_pow ha hb)
theorem bits_and {a b : Nat} (ha : a < 2 ^ 63) (hb : b < 2 ^ 63) : IntKind.i64.wrap (BitVec.ofInt IntKind.i64.bits (a : Int) &&& BitVec.ofInt IntKind.i64.bits (b : Int)).toNat = ((a &&& b : Nat) : Int) := by
  rw [bv_nat, bv_nat]
  have : (BitVec.ofNat 64 a &&& BitVec.ofNat 64 b).toNat = a &&& b := by
    rw [BitVec.toNat_and, BitVec.toNat_ofNat, BitVec.toNat_ofNat, Nat.mod_eq_of_lt (by omega), Nat.mod_eq_of_lt (by omega)]
  show IntKind.i64.wrap ((BitVec.ofNat 64 a &&& BitVec.ofNat 64 b).toNat : Int) = _
  rw [this]
  exact wrap_nat (Nat.and_lt_two_pow a hb)
/-- What is in the one and not in the other. -/
def mdiff (a b : Nat) : Nat := a ^^^ (a &&& b)
theorem mdiff_bit (a b i : Nat) : (mdiff a b).testBit i = (a.testBit i && !b.testBit i) := by
  unfold mdiff
  rw [Nat.testBit_xor, Nat.testBit_and]
  cases a.testBit i <;> cases b.testBit i <;> rfl
theorem mdiff_lt {a b : Nat} (ha : a < 2 ^ 63) : mdiff a b < 2 ^ 63 := Nat.xor_lt_two_pow ha (Nat.lt_of_le_of_lt Nat.and_le_left ha)
theorem bits_diff {a b : Nat} (ha : a < 2 ^ 63) (hb : b < 2 ^ 63) : IntKind.i64.wrap (BitVec.ofInt IntKind.i64.bits (a : Int) &&& ~~~ BitVec.ofInt IntKind.i64.bits (b : Int)).toNat = ((mdiff a b : Nat) : Int) := by
  rw [bv_nat, bv_nat]
  have : (BitVec.ofNat 64 a &&& ~~~ BitVec.ofNat 64 b).toNat = mdiff a b := by
    refine Nat.eq_of_testBit_eq fun i => ?_
    rw [mdiff_bit, BitVec.testBit_toNat, BitVec.getLsbD_and, BitVec.getLsbD_not, BitVec.getLsbD_ofNat, BitVec.getLsbD_ofNat]
    by_cases c : i < 64
    · simp [c]
    · have : a.testBit i = false := Nat.testBit_lt_two_pow (Nat.lt_of_lt_of_le ha (Nat.pow_le_pow_right (by omega) (by omega)))
      simp [c, this]
  show IntKind.i64.wrap ((BitVec.ofNat 64 a &&& ~~~ BitVec.ofNat 64 b).toNat : Int) = _
  rw [this]
  exact wrap_nat (mdiff_lt ha)
theorem bits_shl {i : Nat} (h : i < 62) : IntKind.i64.wrap (1 * 2 ^ (min ((i : Int).toNat) IntKind.i64.bits)) = ((2 ^ i : Nat) : Int) := by
  have : min ((i : Int).toNat) IntKind.i64.bits = i := by show min ((i : Int).toNat) 64 = i; omega
  rw [this, Int.one_mul]
  have h2 : (2 : Nat) ^ i < 2 ^ 63 := Nat.pow_lt_pow_right (by omega) (by omega)
  have := wrap_nat h2
  push_cast at this ⊢
  exact this
theorem bits_shr {d i : Nat} (h : i < 62) : ((d : Int).fdiv (2 ^ (min ((i : Int).toNat) IntKind.i64.bits))) = ((d / 2 ^ i : Nat) : Int) := by
  have : min ((i : Int).toNat) IntKind.i64.bits = i := by show min ((i : Int).toNat) 64 = i; omega
  rw [this, Int.fdiv_eq_ediv_of_nonneg _ (Int.le_of_lt (Int.pow_pos (by omega)))]
  have : ((2 : Int) ^ i) = ((2 ^ i : Nat) : Int) := by push_cast; rfl
  rw [this]
  rfl
theorem bit_at {d i : Nat} : (d / 2 ^ i &&& 1 = 1) ↔ d.testBit i = true := by
  rw [Nat.testBit_eq_decide_div_mod_eq, decide_eq_true_eq, Nat.and_one_is_mod]
theorem mdiff_zero {a b : Nat} : mdiff a b = 0 ↔ ∀ i, a.testBit i = true → b.testBit i = true := by
  constructor
  · intro h i hi
    have := mdiff_bit a b i
    rw [h, Nat.zero_testBit, hi] at this
    simpa using this.symm
  · intro h
    refine Nat.eq_of_testBit_eq fun i => ?_
    rw [mdiff_bit, Nat.zero_testBit]
    cases hi : a.testBit i with
    | false => rfl
    | true => rw [h i hi]; rfl
theorem and_eq_right {a b : Nat} : a &&& b = b ↔ ∀ i, b.testBit i = true → a.testBit i = true := by
  constructor
  · intro h i hi
    have := Nat.testBit_and a b i
    rw [h, hi] at this
    simpa using this.symm
  · intro h
    refine Nat.eq_of_testBit_eq fun i => ?_
    rw [Nat.testBit_and]
    cases hi : b.testBit i with
    | false => simp
    | true => rw [h i hi]; rfl
/-- The set of the places below k at which something holds. -/
def maskB (p : Nat → Bool) : Nat → Nat
  | 0 => 0
  | k + 1 => if p k = true then maskB p k ||| 2 ^ k else maskB p k
theorem maskB_bit (p : Nat → Bool) : ∀ k i, (maskB p k).testBit i = (decide (i < k) && p i)
  | 0, i => by simp [maskB]
  | k + 1, i => by
    have ih := maskB_bit p k i
    simp only [maskB]
    by_cases c : p k = true
    · rw [if_pos c, Nat.testBit_or, ih, Nat.testBit_two_pow]
      by_cases e : k = i
      · subst e; simp [c]
      · by_cases l : i < k
        · simp [l, e, (by omega : i < k + 1)]
        · simp [l, e]; omega
    · rw [if_neg c, ih]
      by_cases e : k = i
      · subst e; simp [c]
      · by_cases l : i < k
        · simp [l, (by omega : i < k + 1)]
        · simp [l]; omega
theorem maskB_lt (p : Nat → Bool) : ∀ k, maskB p k < 2 ^ k
  | 0 => by simp [maskB]
  | k + 1 => by
    have ih := maskB_lt p k
    simp only [maskB]
    have h1 : maskB p k < 2 ^ (k + 1) := Nat.lt_trans ih (Nat.pow_lt_pow_right (by omega) (by omega))
    split
    · exact Nat.or_lt_two_pow h1 (Nat.pow_lt_pow_right (by omega) (by omega))
    · exact h1
theorem maskB_small {p : Nat → Bool} {k : Nat} (h : k ≤ 60) : maskB p k < 2 ^ 62 := Nat.lt_of_lt_of_le (maskB_lt p k) (Nat.pow_le_pow_right (by omega) (by omega))
end Go.Proofs
end

section
open Go Go.Am
namespace Go.Proofs
/-! ### the search -/
instance memDec {α : Type} [DecidableEq α] (a : α) (l : List α) : Decidable (a ∈ l) := @List.instDecidableMemOfLawfulBEq α instBEqOfDecidableEq inferInstance a l
structure Prob where
  ops : List Evt
  first : List Nat
  must : Nat
abbrev Sg := List (Nat × ByteArray) × List (ByteArray × List Int)
def stepI (pr : Prob) (d : Nat) (v : ByteArray) (i : Nat) : Bool := !d.testBit i && decide (mdiff (pr.first.getD i default) d = 0) && stepOk [v] (pr.ops.getD i default)
def nextV (v : ByteArray) (x : Evt) : ByteArray := (stepB [v] x).getD 0 ByteArray.empty
def enterW (pr : Prob) (d : Nat) (v : ByteArray) (o : List Int) (σ : Sg) : Sg :=
  (σ.1 ++ [(d, v)], if (!decide (v ∈ σ.2.map Prod.fst) && decide (d &&& pr.must = pr.must)) = true then σ.2 ++ [(v, o)] else σ.2)
def loopW (g : Nat → Sg → Sg) (σ : Sg) : Nat → Sg
  | 0 => σ
  | k + 1 => g k (loopW g σ k)
def walkM (pr : Prob) (one : Bool) : Nat → Nat → ByteArray → List Int → Sg → Sg
  | 0, _, _, _, σ => σ
  | f + 1, d, v, o, σ =>
    if (decide ((d, v) ∈ σ.1) || (one && decide (0 < σ.2.length))) = true then σ else
      loopW (fun i σ => if stepI pr d v i = true then walkM pr one f (d ||| 2 ^ i) (nextV v (pr.ops.getD i default)) (o ++ [(pr.ops.getD i default).serial]) σ else σ) (enterW pr d v o σ) pr.ops.length
def tryW (pr : Prob) (one : Bool) (f d : Nat) (v : ByteArray) (o : List Int) (i : Nat) (σ : Sg) : Sg :=
  if stepI pr d v i = true then walkM pr one f (d ||| 2 ^ i) (nextV v (pr.ops.getD i default)) (o ++ [(pr.ops.getD i default).serial]) σ else σ
theorem walkM_succ (pr : Prob) (one : Bool) (f d : Nat) (v : ByteArray) (o : List Int) (σ : Sg) : walkM pr one (f + 1) d v o σ =
    if (decide ((d, v) ∈ σ.1) || (one && decide (0 < σ.2.length))) = true then σ else loopW (tryW pr one f d v o) (enterW pr d v o σ) pr.ops.length := rfl
/-- How many operations are not done. -/
def rankN (d : Nat) : Nat → Nat
  | 0 => 0
  | k + 1 => rankN d k + if d.testBit k = true then 0 else 1
theorem rankN_or {d i : Nat} (hd : d.testBit i = false) : ∀ n, i < n → rankN (d ||| 2 ^ i) n + 1 = rankN d n
  | 0, h => by omega
  | n + 1, h => by
    simp only [rankN, Nat.testBit_or, Nat.testBit_two_pow]
    by_cases c : i = n
    · subst c
      have : ∀ k, k ≤ i → rankN (d ||| 2 ^ i) k = rankN d k := by
        intro k
        induction k with
        | zero => intro _; rfl
        | succ k ih =>
          intro hk
          simp only [rankN, Nat.testBit_or, Nat.testBit_two_pow]
          rw [ih (by omega)]
          have : ¬ i = k := by omega
          simp [this]
      rw [this i (Nat.le_refl _)]
      simp [hd]
    · have := rankN_or hd n (by omega)
      have hc : ¬ i = n := c
      simp only [hc, decide_false, Bool.or_false]
      omega
theorem rankN_le (d : Nat) : ∀ n, rankN d n ≤ n
  | 0 => Nat.le_refl _
  | n + 1 => by
    have := rankN_le d n
    simp only [rankN]
    split <;> omega
/-! its objects -/
def keyD (p : Nat × ByteArray) : Key := .a [.i .i64 p.1, .s p.2]
def seenO (l : List (Nat × ByteArray)) : O := .mp (.a [some .i64, none]) [Z.b] false (l.map keyD) (fun k _ => .bool (memK (l.map keyD) k))
def keyV : Key → ByteArray
  | .c (.s b) => b
  | _ => ByteArray.empty
def endOf (l : List (ByteArray × List Int)) (v : ByteArray) : List Int := ((l.find? fun p => decide (p.1 = v)).map Prod.snd).getD []
def keyN (p : ByteArray × List Int) : Key := .c (.s p.1)
def endsO (l : List (ByteArray × List Int)) : O := .mp (.c none) [Z.sl] false (l.map keyN) (fun k _ => intsC (endOf l (keyV k)))
def firstL (l : List Nat) : List Int := l.map Int.ofNat
def probO (pr : Prob) (one : Bool) : O := .vr [evC pr.ops, intsC (firstL pr.first), .int .i64 pr.must, .mpr 1, .mpr 2, .bool one]
theorem keyD_inj {p q : Nat × ByteArray} (h : keyD p = keyD q) : p = q := by
  simp only [keyD, Key.a.injEq, List.cons.injEq, KC.i.injEq, KC.s.injEq, true_and, and_true] at h
  exact Prod.ext (by omega) h.2
theorem mem_keyD {l : List (Nat × ByteArray)} {p : Nat × ByteArray} : memK (l.map keyD) (keyD p) = decide (p ∈ l) := by
  unfold memK
  rw [Bool.eq_iff_iff, decide_eq_true_eq, decide_eq_true_eq, List.mem_map]
  constructor
  · rintro ⟨q, h1, h2⟩; rw [← keyD_inj h2]; exact h1
  · intro h; exact ⟨p, h, rfl⟩
theorem mem_keyN {l : List (ByteArray × List Int)} {v : ByteArray} : memK (l.map keyN) (.c (.s v)) = decide (v ∈ l.map Prod.fst) := by
  unfold memK
  rw [Bool.eq_iff_iff, decide_eq_true_eq, decide_eq_true_eq, List.mem_map, List.mem_map]
  constructor
  · rintro ⟨q, h1, h2⟩
    simp only [keyN, Key.c.injEq, KC.s.injEq] at h2
    exact ⟨q, h1, h2⟩
  · rintro ⟨q, h1, rfl⟩; exact ⟨q, h1, rfl⟩
theorem WO.seen_new {ρ : Nat → Nat} {n : Nat} {l : List (Nat × ByteArray)} {p : Nat × ByteArray} (h : p ∉ l) :
    WO ρ n (.mp (.a [some .i64, none]) [Z.b] false (updK (l.map keyD) (keyD p)) (updV (fun k _ => .bool (memK (l.map keyD) k)) (keyD p) (lget [.bool true]))) (seenO (l ++ [p])) := by
  refine WO.mp rfl rfl rfl ?_ fun k j hk hj => ?_
  · unfold updK
    rw [mem_keyD, decide_eq_false h]
    simp
  · have hj0 : j = 0 := by simpa using hj
    subst hj0
    refine leF.of_eq ?_
    simp only [updV]
    by_cases c : k = keyD p
    · rw [if_pos c, c, mem_keyD]; simp [lget, getL]
    · rw [if_neg c]
      congr 1
      unfold memK
      rw [Bool.eq_iff_iff, decide_eq_true_eq, decide_eq_true_eq]
      simp [c]
theorem endOf_new {l : List (ByteArray × List Int)} {v : ByteArray} {o : List Int} (h : v ∉ l.map Prod.fst) (x : ByteArray) : endOf (l ++ [(v, o)]) x = if x = v then o else endOf l x := by
  unfold endOf
  rw [List.find?_append]
  by_cases c : x = v
  · subst c
    have : l.find? (fun p => decide (p.1 = x)) = none := by
      rw [List.find?_eq_none]
      intro p hp hq
      exact h (List.mem_map.2 ⟨p, hp, of_decide_eq_true hq⟩)
    simp [this]
  · have : List.find? (fun p : ByteArray × List Int => decide (p.1 = x)) [(v, o)] = none := by simp; exact fun q => c q.symm
    simp [this, c]
theorem WO.ends_new {ρ : Nat → Nat} {n : Nat} {l : List (ByteArray × List Int)} {v : ByteArray} {o : List Int} (h : v ∉ l.map Prod.fst) :
    WO ρ n (.mp (.c none) [Z.sl] false (updK (l.map keyN) (.c (.s v))) (updV (fun k _ => intsC (endOf l (keyV k))) (.c (.s v)) (lget [intsC o]))) (endsO (l ++ [(v, o)])) := by
  refine WO.mp rfl rfl rfl ?_ fun k j hk hj => ?_
  · unfold updK
    rw [mem_keyN, decide_eq_false h]
    simp [keyN]
  · have hj0 : j = 0 := by simpa using hj
    subst hj0
    refine leF.of_eq ?_
    simp only [updV]
    by_cases c : k = .c (.s v)
    · rw [if_pos c, c]
      show _ = intsC (endOf (l ++ [(v, o)]) v)
      rw [endOf_new h, if_pos rfl]; rfl
    · rw [if_neg c, endOf_new h, if_neg]
      intro q
      apply c
      cases k with
      | a _ => cases hk
      | c y => cases y with
        | i _ _ => cases hk
        | s b => simp only [keyV] at q; rw [q]
end Go.Proofs
namespace Go.Proofs
open Go Go.Am
theorem maskB_congr {p q : Nat → Bool} : ∀ {k : Nat}, (∀ i, i < k → p i = q i) → maskB p k = maskB q k
  | 0, _ => rfl
  | k + 1, h => by
    simp only [maskB]
    rw [maskB_congr (k := k) (fun i hi => h i (by omega)), h k (by omega)]
theorem getD_snoc_lt {α : Type} [Inhabited α] {l : List α} {x : α} {i : Nat} (h : i < l.length) : (l ++ [x]).getD i default = l.getD i default := by
  simp [List.getD, List.getElem?_append_left h]
theorem getD_snoc_eq {α : Type} [Inhabited α] {l : List α} {x : α} : (l ++ [x]).getD l.length default = x := by
  simp [List.getD]
theorem maskB_snoc {f : Evt → Bool} {l : List Evt} {x : Evt} : maskB (fun i => f ((l ++ [x]).getD i default)) (l ++ [x]).length = if f x = true then maskB (fun i => f (l.getD i default)) l.length ||| 2 ^ l.length else maskB (fun i => f (l.getD i default)) l.length := by
  rw [show (l ++ [x]).length = l.length + 1 by simp]
  simp only [maskB, getD_snoc_eq]
  rw [maskB_congr (fun i hi => by rw [getD_snoc_lt hi])]
theorem seenO_nil {ρ : Nat → Nat} {n : Nat} {val : Key → Nat → C} (h : ∀ k, val k 0 = .bool false) : WO ρ n (.mp (.a [some .i64, none]) [Z.b] false [] val) (seenO []) :=
  WO.mp rfl rfl rfl rfl fun k j _ hj => by
    have hj0 : j = 0 := by simpa using hj
    subst hj0
    exact leF.of_eq ((h k).trans (by simp [memK]))
theorem endsO_nil {ρ : Nat → Nat} {n : Nat} {val : Key → Nat → C} (h : ∀ k, val k 0 = .nils) : WO ρ n (.mp (.c none) [Z.sl] false [] val) (endsO []) :=
  WO.mp rfl rfl rfl rfl fun k j _ hj => by
    have hj0 : j = 0 := by simpa using hj
    subst hj0
    rw [h k]
    exact leF.nil rfl
end Go.Proofs
namespace Go.Proofs
open Go Go.Am
theorem intsG_snoc {l : List Int} {n : Nat} {x : Int} {t : List C} (hn : n = l.length) {i j : Nat} (hi : i < l.length + 1) (hj : j < 1) : appG (intsG .i64 l) n (flatG 1 (C.int .i64 x :: t)) i j = intsG .i64 (l ++ [x]) i j :=
  rowG_snoc (f := intC .i64) hn (fun j hj => by
    match j with
    | 0 => rfl
    | j + 1 => omega) hi hj
theorem firstL_snoc {l : List Nat} {x : Nat} : firstL (l ++ [x]) = firstL l ++ [(x : Int)] := by simp [firstL]
end Go.Proofs
namespace Go.Proofs
open Go Go.Am
theorem testC {d k : Nat} (hk : k < 62) (hd : d < 2 ^ 62) : (IntKind.i64.wrap (BitVec.ofInt IntKind.i64.bits ((d : Int).fdiv (2 ^ min (k : Int).toNat IntKind.i64.bits)) &&& BitVec.ofInt IntKind.i64.bits 1).toNat == 1) = d.testBit k := by
  rw [bits_shr hk, show (1 : Int) = ((1 : Nat) : Int) from rfl, bits_and (by have := Nat.div_le_self d (2 ^ k); omega) (by omega), Bool.eq_iff_iff, beq_iff_eq]
  rw [show (((d / 2 ^ k &&& 1 : Nat) : Int) = ((1 : Nat) : Int)) ↔ (d / 2 ^ k &&& 1 = 1) by omega]
  exact bit_at
theorem diffC {a d : Nat} (ha : a < 2 ^ 62) (hd : d < 2 ^ 62) : (IntKind.i64.wrap (BitVec.ofInt IntKind.i64.bits (a : Int) &&& ~~~ BitVec.ofInt IntKind.i64.bits (d : Int)).toNat != 0) = !decide (mdiff a d = 0) := by
  rw [bits_diff (by omega) (by omega), Bool.eq_iff_iff]
  simp only [bne_iff_ne, Bool.not_eq_true', decide_eq_false_iff_not, ne_eq]
  omega
theorem orC {d k : Nat} (hk : k < 62) (hd : d < 2 ^ 62) : IntKind.i64.wrap (BitVec.ofInt IntKind.i64.bits (d : Int) ||| BitVec.ofInt IntKind.i64.bits (IntKind.i64.wrap (1 * 2 ^ min (k : Int).toNat IntKind.i64.bits))).toNat = ((d ||| 2 ^ k : Nat) : Int) := by
  rw [bits_shl hk, bits_or (by omega) (Nat.pow_lt_pow_right (by omega) (by omega))]
theorem firstL_get {l : List Nat} {k : Nat} (h : k < l.length) : (firstL l).getD k default = (l.getD k default : Nat) := by
  simp [firstL, List.getD, h]
theorem firstL_len {l : List Nat} : (firstL l).length = l.length := by simp [firstL]
end Go.Proofs
end

section
open Go Go.Am
namespace Go.Proofs
/-- What holds of a search at its end, if it holds at its beginning and each step keeps it. -/
theorem walkM_inv {pr : Prob} {one : Bool} (P : Sg → Prop) (Q : Nat → ByteArray → List Int → Prop)
    (he : ∀ d v o σ, Q d v o → P σ → (d, v) ∉ σ.1 → (one = true → σ.2 = []) → P (enterW pr d v o σ))
    (hs : ∀ d v o i, Q d v o → i < pr.ops.length → stepI pr d v i = true → Q (d ||| 2 ^ i) (nextV v (pr.ops.getD i default)) (o ++ [(pr.ops.getD i default).serial])) :
    ∀ (f d : Nat) (v : ByteArray) (o : List Int) (σ : Sg), Q d v o → P σ → P (walkM pr one f d v o σ)
  | 0, _, _, _, _, _, h => h
  | f + 1, d, v, o, σ, hq, hp => by
    rw [walkM_succ]
    by_cases hc : (decide ((d, v) ∈ σ.1) || (one && decide (0 < σ.2.length))) = true
    · rw [if_pos hc]; exact hp
    · rw [if_neg hc]
      simp only [Bool.or_eq_true, Bool.and_eq_true, decide_eq_true_eq, not_or, not_and] at hc
      have h0 := he d v o σ hq hp hc.1 (fun h1 => by
        have := hc.2 h1
        exact List.length_eq_zero_iff.1 (by omega))
      generalize enterW pr d v o σ = σ0 at h0
      have key : ∀ k, k ≤ pr.ops.length → P (loopW (tryW pr one f d v o) σ0 k) := by
        intro k
        induction k with
        | zero => intro _; exact h0
        | succ k ih =>
          intro hk
          have h1 := ih (by omega)
          show P (tryW pr one f d v o k (loopW (tryW pr one f d v o) σ0 k))
          unfold tryW
          by_cases c : stepI pr d v k = true
          · rw [if_pos c]
            exact walkM_inv P Q he hs f _ _ _ _ (hs d v o k hq (by omega) c) h1
          · rw [if_neg c]; exact h1
      exact key _ (Nat.le_refl _)
theorem appB_size {v : ByteArray} {k b : Int} {d : ByteArray} (h : v.size = 16) : ((appB [v] k b d).getD 0 ByteArray.empty).size = 16 := by
  unfold appB
  by_cases c0 : cmdV (([v] : List ByteArray).length : Int) k b d ≠ 0
  · rw [if_pos c0]; exact h
  · rw [if_neg c0]
    have hc := cmdV_kind (Decidable.not_not.1 c0)
    by_cases c2 : k = 2
    · rw [if_pos c2]
      have hb := hc.2.2.1 (by omega)
      have : b = 0 := by simp at hb; omega
      subst this
      exact hc.2.2.2 c2
    · rw [if_neg c2]
      by_cases c3 : k = 3
      · rw [if_pos c3]
        have hb := hc.2.2.1 (by omega)
        have : b = 0 := by simp at hb; omega
        subst this
        rfl
      · rw [if_neg c3]; exact h
theorem nextV_size {v : ByteArray} {x : Evt} (h : v.size = 16) : (nextV v x).size = 16 := appB_size h
theorem walk_sizes {pr : Prob} {one : Bool} {f : Nat} {v : ByteArray} (hv : v.size = 16) : ∀ p ∈ (walkM pr one f 0 v [] ([], [])).2, p.1.size = 16 :=
  walkM_inv (P := fun σ => ∀ p ∈ σ.2, p.1.size = 16) (Q := fun _ v _ => v.size = 16) (fun d v o σ hq hp _ _ => by
    intro p hp'
    simp only [enterW] at hp'
    split at hp'
    · rcases List.mem_append.1 hp' with h | h
      · exact hp p h
      · simp at h; subst h; exact hq
    · exact hp p hp') (fun d v o i hq _ _ => nextV_size hq) f 0 v [] ([], []) hv (by simp)
theorem walk_nodup {pr : Prob} {one : Bool} {f : Nat} {v : ByteArray} : ((walkM pr one f 0 v [] ([], [])).2.map Prod.fst).Nodup :=
  walkM_inv (P := fun σ => (σ.2.map Prod.fst).Nodup) (Q := fun _ _ _ => True) (fun d v o σ _ hp _ _ => by
    simp only [enterW]
    split
    · rename_i h
      simp only [Bool.and_eq_true, Bool.not_eq_true', decide_eq_false_iff_not] at h
      rw [List.map_append, List.nodup_append]
      refine ⟨hp, by simp, fun a ha b hb => ?_⟩
      simp at hb; subst hb
      exact fun q => h.1 (q ▸ ha)
    · exact hp) (fun _ _ _ _ _ _ _ => trivial) f 0 v [] ([], []) trivial (by simp)
theorem walk_one {pr : Prob} {f : Nat} {v : ByteArray} : (walkM pr true f 0 v [] ([], [])).2.length ≤ 1 :=
  walkM_inv (P := fun σ => σ.2.length ≤ 1) (Q := fun _ _ _ => True) (fun d v o σ _ hp _ h1 => by
    simp only [enterW]
    have := h1 rfl
    rw [this]
    split <;> simp) (fun _ _ _ _ _ _ _ => trivial) f 0 v [] ([], []) trivial (by simp)
theorem sortB_perm_eq {a b : List ByteArray} (h : a.Perm b) (hn : b.Nodup) : sortB a = sortB b := by
  have asc_of : ∀ l : List ByteArray, l.Nodup → asc (sortB l) := fun l hl => by
    have hs := sortB_sorted l
    have hd : (sortB l).Nodup := (sortB_perm l).nodup_iff.2 hl
    unfold asc
    refine (hs.and hd).imp fun {x y} hxy => ?_
    exact strLt_tri hxy.1 (Ne.symm hxy.2)
  refine asc_ext (asc_of a (h.nodup_iff.2 hn)) (asc_of b hn) fun x => ?_
  rw [(sortB_perm a).mem_iff, (sortB_perm b).mem_iff, h.mem_iff]
end Go.Proofs
namespace Go.Proofs
open Go Go.Am
theorem nodup_len {α : Type} [DecidableEq α] : ∀ {a b : List α}, a.Nodup → (∀ x ∈ a, x ∈ b) → a.length ≤ b.length
  | [], _, _, _ => Nat.zero_le _
  | x :: a, b, h, hs => by
    rw [List.nodup_cons] at h
    have hx := hs x (by simp)
    have := nodup_len (a := a) (b := b.erase x) h.2 (fun y hy => by
      have hne : y ≠ x := fun q => h.1 (q ▸ hy)
      exact (List.mem_erase_of_ne hne).2 (hs y (by simp [hy])))
    rw [List.length_erase_of_mem hx] at this
    have := List.length_pos_of_mem hx
    simp only [List.length_cons]
    omega
theorem nextV_cases (v : ByteArray) (x : Evt) : nextV v x = v ∨ nextV v x = x.data ∨ nextV v x = zeroB := by
  show (appB [v] x.kind x.block x.data).getD 0 ByteArray.empty = v ∨ _ = x.data ∨ _ = zeroB
  unfold nextV stepB appB
  by_cases c0 : cmdV (([v] : List ByteArray).length : Int) x.kind x.block x.data ≠ 0
  · rw [if_pos c0]; exact .inl rfl
  · rw [if_neg c0]
    have hc := cmdV_kind (Decidable.not_not.1 c0)
    by_cases c2 : x.kind = 2
    · rw [if_pos c2]
      have hb := hc.2.2.1 (by omega)
      have : x.block = 0 := by simp at hb; omega
      rw [this]
      exact .inr (.inl rfl)
    · rw [if_neg c2]
      by_cases c3 : x.kind = 3
      · rw [if_pos c3]
        have hb := hc.2.2.1 (by omega)
        have : x.block = 0 := by simp at hb; omega
        rw [this]
        exact .inr (.inr rfl)
      · rw [if_neg c3]; exact .inl rfl
theorem walk_few {pr : Prob} {one : Bool} {f : Nat} {v : ByteArray} : (walkM pr one f 0 v [] ([], [])).2.length ≤ pr.ops.length + 2 := by
  have h : ∀ x ∈ (walkM pr one f 0 v [] ([], [])).2.map Prod.fst, x ∈ v :: zeroB :: pr.ops.map Evt.data :=
    walkM_inv (P := fun σ => ∀ x ∈ σ.2.map Prod.fst, x ∈ v :: zeroB :: pr.ops.map Evt.data) (Q := fun _ u _ => u ∈ v :: zeroB :: pr.ops.map Evt.data) (fun d u o σ hq hp _ _ => by
      intro x hx
      simp only [enterW] at hx
      split at hx
      · rw [List.map_append] at hx
        rcases List.mem_append.1 hx with h | h
        · exact hp x h
        · simp at h; subst h; exact hq
      · exact hp x hx) (fun d u o i hq hi _ => by
      rcases nextV_cases u (pr.ops.getD i default) with h | h | h
      · rw [h]; exact hq
      · rw [h]
        refine List.mem_cons_of_mem _ (List.mem_cons_of_mem _ (List.mem_map.2 ⟨_, ?_, rfl⟩))
        rw [getD_at hi]; exact List.getElem_mem hi
      · rw [h]; simp) f 0 v [] ([], []) (by simp) (by simp)
  have := nodup_len (walk_nodup (pr := pr) (one := one) (f := f) (v := v)) h
  simpa using this
end Go.Proofs
end

section
open Go Go.Am
namespace Go.Proofs
/-! ### what the search finds -/
inductive Reach (pr : Prob) (v0 : ByteArray) : Nat → ByteArray → List Int → Prop
  | nil : Reach pr v0 0 v0 []
  | step {d : Nat} {v : ByteArray} {o : List Int} {i : Nat} (h : Reach pr v0 d v o) (hi : i < pr.ops.length) (hs : stepI pr d v i = true) : Reach pr v0 (d ||| 2 ^ i) (nextV v (pr.ops.getD i default)) (o ++ [(pr.ops.getD i default).serial])
theorem walk_sound {pr : Prob} {one : Bool} {f : Nat} {v0 : ByteArray} : ∀ p ∈ (walkM pr one f 0 v0 [] ([], [])).2, ∃ d, Reach pr v0 d p.1 p.2 ∧ d &&& pr.must = pr.must :=
  walkM_inv (P := fun σ => ∀ p ∈ σ.2, ∃ d, Reach pr v0 d p.1 p.2 ∧ d &&& pr.must = pr.must) (Q := fun d v o => Reach pr v0 d v o) (fun d v o σ hq hp _ _ => by
    intro p hp'
    simp only [enterW] at hp'
    split at hp'
    · rename_i h
      simp only [Bool.and_eq_true, decide_eq_true_eq] at h
      rcases List.mem_append.1 hp' with h1 | h1
      · exact hp p h1
      · simp at h1; subst h1; exact ⟨d, hq, h.2⟩
    · exact hp p hp') (fun d v o i hq hi hs => Reach.step hq hi hs) f 0 v0 [] ([], []) Reach.nil (by simp)
/-- One state leads to another one. -/
inductive Sub (pr : Prob) : Nat × ByteArray → Nat × ByteArray → Prop
  | refl (x : Nat × ByteArray) : Sub pr x x
  | head {d : Nat} {v : ByteArray} {i : Nat} {y : Nat × ByteArray} (hi : i < pr.ops.length) (hs : stepI pr d v i = true) (h : Sub pr (d ||| 2 ^ i, nextV v (pr.ops.getD i default)) y) : Sub pr (d, v) y
theorem Sub.tail {pr : Prob} {x : Nat × ByteArray} {d : Nat} {v : ByteArray} {i : Nat} (h : Sub pr x (d, v)) (hi : i < pr.ops.length) (hs : stepI pr d v i = true) : Sub pr x (d ||| 2 ^ i, nextV v (pr.ops.getD i default)) := by
  generalize hy : (d, v) = y at h
  induction h with
  | refl x => subst hy; exact .head hi hs (.refl _)
  | head hi' hs' _ ih => exact .head hi' hs' (ih hy)
theorem Reach.sub {pr : Prob} {v0 : ByteArray} {d : Nat} {v : ByteArray} {o : List Int} (h : Reach pr v0 d v o) : Sub pr (0, v0) (d, v) := by
  induction h with
  | nil => exact .refl _
  | step _ hi hs ih => exact ih.tail hi hs
def Full (pr : Prob) (σ : Sg) (x : Nat × ByteArray) : Prop := ∀ y, Sub pr x y → y ∈ σ.1
def Stop (one : Bool) (σ : Sg) : Prop := one = true ∧ σ.2 ≠ []
def Inv (pr : Prob) (σ : Sg) (r : Nat) : Prop := ∀ x ∈ σ.1, rankN x.1 pr.ops.length ≤ r → Full pr σ x
theorem stepI_rank {pr : Prob} {d : Nat} {v : ByteArray} {i : Nat} (hi : i < pr.ops.length) (hs : stepI pr d v i = true) : rankN (d ||| 2 ^ i) pr.ops.length + 1 = rankN d pr.ops.length := by
  unfold stepI at hs
  simp only [Bool.and_eq_true, Bool.not_eq_true'] at hs
  exact rankN_or hs.1.1 _ hi
theorem walk_complete {pr : Prob} {one : Bool} : ∀ (f d : Nat) (v : ByteArray) (o : List Int) (σ : Sg), rankN d pr.ops.length < f → Inv pr σ (rankN d pr.ops.length) →
    (∀ x ∈ σ.1, x ∈ (walkM pr one f d v o σ).1) ∧ (Stop one σ → Stop one (walkM pr one f d v o σ)) ∧
    (∀ x ∈ (walkM pr one f d v o σ).1, x ∈ σ.1 ∨ rankN x.1 pr.ops.length ≤ rankN d pr.ops.length) ∧
    (Stop one (walkM pr one f d v o σ) ∨ (Inv pr (walkM pr one f d v o σ) (rankN d pr.ops.length) ∧ (d, v) ∈ (walkM pr one f d v o σ).1))
  | 0, _, _, _, _, h, _ => absurd h (Nat.not_lt_zero _)
  | f + 1, d, v, o, σ, hf, hI => by
    rw [walkM_succ]
    by_cases hc : (decide ((d, v) ∈ σ.1) || (one && decide (0 < σ.2.length))) = true
    · rw [if_pos hc]
      refine ⟨fun x hx => hx, fun h => h, fun x hx => .inl hx, ?_⟩
      simp only [Bool.or_eq_true, Bool.and_eq_true, decide_eq_true_eq] at hc
      rcases hc with hc | hc
      · exact .inr ⟨hI, hc⟩
      · exact .inl ⟨hc.1, fun e => by rw [e] at hc; simp at hc⟩
    · rw [if_neg hc]
      have h0 : (enterW pr d v o σ).1 = σ.1 ++ [(d, v)] := rfl
      have hs0 : Stop one σ → Stop one (enterW pr d v o σ) := fun h => ⟨h.1, fun e => by
        have : (enterW pr d v o σ).2 = if (!decide (v ∈ σ.2.map Prod.fst) && decide (d &&& pr.must = pr.must)) = true then σ.2 ++ [(v, o)] else σ.2 := rfl
        rw [this] at e
        split at e
        · simp at e
        · exact h.2 e⟩
      generalize hσ : enterW pr d v o σ = σ0 at *
      -- the loop
      have key : ∀ k, k ≤ pr.ops.length → (∀ x ∈ σ0.1, x ∈ (loopW (tryW pr one f d v o) σ0 k).1) ∧ (Stop one σ0 → Stop one (loopW (tryW pr one f d v o) σ0 k)) ∧
          (∀ x ∈ (loopW (tryW pr one f d v o) σ0 k).1, x ∈ σ0.1 ∨ rankN x.1 pr.ops.length ≤ rankN d pr.ops.length) ∧
          (Stop one (loopW (tryW pr one f d v o) σ0 k) ∨ ((∀ x ∈ (loopW (tryW pr one f d v o) σ0 k).1, rankN x.1 pr.ops.length ≤ rankN d pr.ops.length → x = (d, v) ∨ Full pr (loopW (tryW pr one f d v o) σ0 k) x) ∧
            ∀ i, i < k → stepI pr d v i = true → (d ||| 2 ^ i, nextV v (pr.ops.getD i default)) ∈ (loopW (tryW pr one f d v o) σ0 k).1)) := by
        intro k
        induction k with
        | zero =>
          intro _
          refine ⟨fun x hx => hx, fun h => h, fun x hx => .inl hx, .inr ⟨fun x hx hr => ?_, fun i hi => absurd hi (Nat.not_lt_zero _)⟩⟩
          have hx' : x ∈ σ0.1 := hx
          rw [h0] at hx'
          rcases List.mem_append.1 hx' with h | h
          · refine .inr fun y hy => ?_
            show y ∈ σ0.1
            rw [h0]
            exact List.mem_append.2 (.inl (hI x h hr y hy))
          · simp at h; exact .inl h
        | succ k ih =>
          intro hk
          obtain ⟨i1, i2, i3, i4⟩ := ih (by omega)
          show (∀ x ∈ σ0.1, x ∈ (tryW pr one f d v o k (loopW (tryW pr one f d v o) σ0 k)).1) ∧ (Stop one σ0 → Stop one (tryW pr one f d v o k (loopW (tryW pr one f d v o) σ0 k))) ∧
            (∀ x ∈ (tryW pr one f d v o k (loopW (tryW pr one f d v o) σ0 k)).1, x ∈ σ0.1 ∨ rankN x.1 pr.ops.length ≤ rankN d pr.ops.length) ∧
            (Stop one (tryW pr one f d v o k (loopW (tryW pr one f d v o) σ0 k)) ∨ ((∀ x ∈ (tryW pr one f d v o k (loopW (tryW pr one f d v o) σ0 k)).1, rankN x.1 pr.ops.length ≤ rankN d pr.ops.length → x = (d, v) ∨ Full pr (tryW pr one f d v o k (loopW (tryW pr one f d v o) σ0 k)) x) ∧
              ∀ i, i < k + 1 → stepI pr d v i = true → (d ||| 2 ^ i, nextV v (pr.ops.getD i default)) ∈ (tryW pr one f d v o k (loopW (tryW pr one f d v o) σ0 k)).1))
          generalize loopW (tryW pr one f d v o) σ0 k = W at *
          by_cases hst : stepI pr d v k = true
          · have hrk := stepI_rank (by omega) hst
            rw [show tryW pr one f d v o k W = walkM pr one f (d ||| 2 ^ k) (nextV v (pr.ops.getD k default)) (o ++ [(pr.ops.getD k default).serial]) W by unfold tryW; rw [if_pos hst]]
            by_cases hW : Stop one W
            · -- stopped before: nothing more happens
              have hsame : walkM pr one f (d ||| 2 ^ k) (nextV v (pr.ops.getD k default)) (o ++ [(pr.ops.getD k default).serial]) W = W := by
                cases f with
                | zero => rfl
                | succ f =>
                  rw [walkM_succ, if_pos]
                  have hpos : 0 < W.2.length := List.length_pos_iff.2 hW.2
                  rw [hW.1, decide_eq_true hpos]; simp
              rw [hsame]
              exact ⟨i1, i2, i3, .inl hW⟩
            · have i4 := i4.resolve_left hW
              have hInv : Inv pr W (rankN (d ||| 2 ^ k) pr.ops.length) := fun x hx hr => by
                rcases i4.1 x hx (by omega) with h | h
                · rw [h] at hr; simp only at hr; omega
                · exact h
              obtain ⟨j1, j2, j3, j4⟩ := walk_complete f (d ||| 2 ^ k) (nextV v (pr.ops.getD k default)) (o ++ [(pr.ops.getD k default).serial]) W (by omega) hInv
              generalize walkM pr one f (d ||| 2 ^ k) (nextV v (pr.ops.getD k default)) (o ++ [(pr.ops.getD k default).serial]) W = V at *
              refine ⟨fun x hx => j1 x (i1 x hx), fun h => j2 (i2 h), fun x hx => ?_, ?_⟩
              · rcases j3 x hx with h | h
                · exact i3 x h
                · exact .inr (by omega)
              · rcases j4 with h | ⟨h, h'⟩
                · exact .inl h
                · refine .inr ⟨fun x hx hr => ?_, fun i hi hsi => ?_⟩
                  · rcases j3 x hx with hx' | hx'
                    · rcases i4.1 x hx' hr with e | e
                      · exact .inl e
                      · exact .inr fun y hy => j1 y (e y hy)
                    · exact .inr (h x hx hx')
                  · by_cases c : i = k
                    · subst c; exact h'
                    · exact j1 _ (i4.2 i (by omega) hsi)
          · rw [show tryW pr one f d v o k W = W by unfold tryW; rw [if_neg hst]]
            refine ⟨i1, i2, i3, i4.imp id fun h => ⟨h.1, fun i hi hsi => ?_⟩⟩
            by_cases c : i = k
            · subst c; exact absurd hsi hst
            · exact h.2 i (by omega) hsi
      obtain ⟨k1, k2, k3, k4⟩ := key _ (Nat.le_refl _)
      generalize loopW (tryW pr one f d v o) σ0 pr.ops.length = V at *
      have hdv : (d, v) ∈ V.1 := k1 _ (by rw [h0]; simp)
      refine ⟨fun x hx => k1 x (by rw [h0]; exact List.mem_append.2 (.inl hx)), fun h => k2 (hs0 h), fun x hx => ?_, ?_⟩
      · rcases k3 x hx with h | h
        · rw [h0] at h
          rcases List.mem_append.1 h with h | h
          · exact .inl h
          · simp at h; subst h; exact .inr (Nat.le_refl _)
        · exact .inr h
      · rcases k4 with h | ⟨h, h'⟩
        · exact .inl h
        · refine .inr ⟨fun x hx hr => ?_, hdv⟩
          have hfull : Full pr V (d, v) := fun y hy => by
            generalize hz : (d, v) = z at hy
            cases hy with
            | refl => rw [← hz]; exact hdv
            | head hi hs hsub =>
              cases hz
              have hm := h' _ hi hs
              have hrk := stepI_rank hi hs
              rcases h _ hm (Nat.le_of_succ_le (Nat.le_of_eq hrk)) with e | e
              · exfalso
                have := congrArg (fun p => rankN p.1 pr.ops.length) e
                simp only at this
                omega
              · exact e y hsub
          rcases h x hx hr with e | e
          · rw [e]; exact hfull
          · exact e
theorem walk_keys {pr : Prob} {one : Bool} {f : Nat} {v0 : ByteArray} : ∀ p ∈ (walkM pr one f 0 v0 [] ([], [])).1, p.1 &&& pr.must = pr.must → p.2 ∈ (walkM pr one f 0 v0 [] ([], [])).2.map Prod.fst :=
  walkM_inv (P := fun σ => ∀ p ∈ σ.1, p.1 &&& pr.must = pr.must → p.2 ∈ σ.2.map Prod.fst) (Q := fun _ _ _ => True) (fun d v o σ _ hp _ _ => by
    intro p hp' hm
    simp only [enterW] at hp' ⊢
    rcases List.mem_append.1 hp' with h | h
    · have := hp p h hm
      split
      · rw [List.map_append]; exact List.mem_append.2 (.inl this)
      · exact this
    · simp at h
      subst h
      by_cases c : v ∈ σ.2.map Prod.fst
      · split
        · rw [List.map_append]; exact List.mem_append.2 (.inl c)
        · exact c
      · rw [if_pos (by rw [decide_eq_false c, decide_eq_true hm]; rfl), List.map_append]
        simp) (fun _ _ _ _ _ _ _ => trivial) f 0 v0 [] ([], []) trivial (by simp)
/-- What is reached with all that must be done is among the ends, unless one was enough. -/
theorem walk_all {pr : Prob} {one : Bool} {v0 : ByteArray} (hn : pr.ops.length ≤ 20) {d : Nat} {v : ByteArray} {o : List Int} (h : Reach pr v0 d v o) (hm : d &&& pr.must = pr.must) :
    (one = true ∧ (walkM pr one 21 0 v0 [] ([], [])).2 ≠ []) ∨ v ∈ (walkM pr one 21 0 v0 [] ([], [])).2.map Prod.fst := by
  obtain ⟨-, -, -, h4⟩ := walk_complete (pr := pr) (one := one) 21 0 v0 [] ([], []) (by have := rankN_le 0 pr.ops.length; omega) (fun x hx => by simp at hx)
  rcases h4 with h4 | ⟨h4, h5⟩
  · exact .inl h4
  · exact .inr (walk_keys _ (h4 _ h5 (Nat.le_refl _) _ h.sub) hm)
end Go.Proofs
end
