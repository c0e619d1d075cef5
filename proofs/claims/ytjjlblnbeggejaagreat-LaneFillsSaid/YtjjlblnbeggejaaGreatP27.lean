/- Contracts, lemmas; no condition. -/
import Derived.Test.YtjjlblnbeggejaaGreatP26
import Derived.Test.YtjjlblnbeggejaaGreatP17
import Derived.Test.YtjjlblnbeggejaaGreatP20
import Derived.Test.YtjjlblnbeggejaaGreatP15
import Derived.Test.YtjjlblnbeggejaaGreatP16
import Derived.Test.YtjjlblnbeggejaaGreatEnv
import Derived.Test.YtjjlblnbeggejaaGreatP12
import Derived.Test.YtjjlblnbeggejaaGreatP10
import Derived.Shelf.Strings.Repeat
import Derived.Shelf.Strings.OnBuilder
import Derived.Shelf.Strconv.Clone
import Derived.Test.YtjjlblnbeggejaaGreatA27
import Derived.Test.YtjjlblnbeggejaaGreatP25
set_option linter.all false
section
open Go Go.Am
namespace Go.Proofs
set_option maxRecDepth 20000
theorem Qfc (free : List Int) (h l : Int) (hf : free.length ≤ 1000000) : PS 163 [.a [Qh free, .int .i64 h, .int .i64 l]] (.a [Qh free, .int .i64 h, .int .i64 l]) := by
 refine PSpec.rm ?_
 refine ov hΓ Tryz.func163 16 0 [.cell 2 41] Tryz.ntmps163 Tryz.results163 ?_
 refine Go1 fun _h=>?_
 exact RM.allA (FwL.cons (Fw.ints rfl rfl rfl (fun i hi j hj => by
  have hi : i < free.length := hi
  show Qd6 _ (min free.length free.length) _ i j = _
  unfold Qd6
  rw [Nat.min_self, if_pos hi])) (FwL.cons (Fw.same rfl) (FwL.cons (Fw.same rfl) FwL.nil)))
theorem Qfa : HB 163 := hB Tryz.func163
def QdC (free : List Int) (k : Int) : List Int := if free.length ≤ k then free else free.drop 1
def QcD (free : List Int) (k : Int) : Int := if free.length ≤ k then -1 else free.getD 0 default
theorem Qhz (free : List Int) (h l : Int) (k : Int) (hf : free.length ≤ 1000000) (hk : 0 ≤ k) (hk2 : k ≤ 1000000) : CS 185 [.c (.ptr 0 0), .c (.int .i64 k)] [.vr [Qh free, .int .i64 h, .int .i64 l]] fun x H => x = .t [.inl (.int .i64 (QcD free k)), .inl (.bool (decide (k < free.length)))] ∧ H = [.vr [Qh (QdC free k), .int .i64 h, .int .i64 l]] := by
 refine CSpec.rm ?_
 refine ov hΓ Tryz.func185 29 1 [.tmp 4, .tmp 5] Tryz.ntmps185 Tryz.results185 ?_
 refine Go1 fun _h=>?_
 unfold QdC QcD
 by_cases c : (free.length : Int) ≤ k
 ·refine Br.yes (by simpa using c) (Go0 ?_)
  rw [if_pos c, if_pos c, decide_eq_false (by omega)]
  refine ⟨_, _, ?_, rfl, rfl⟩
  exact RM.w0
 ·refine Br.no (by simpa using c) (Go0 ?_)
  rw [if_neg c, if_neg c, decide_eq_true (by omega)]
  refine ⟨_, _, ?_, rfl, rfl⟩
  refine RM.w1 ?_
  refine WC.isl (by simp) (fun i hi j hj => ?_) (fun e => by cases e)
  show C.int .i64 (free.getD (1 + i) default) = C.int .i64 ((free.drop 1).getD i default)
  rw [show 1 + i = i + 1 by omega]; simp [List.getD, List.getElem?_drop]
theorem QhA : HB 185 := hB Tryz.func185
def Qcp (c : Conf) (free : List Int) (h l : Int) : (List Int × Int × Int) × Bool :=
 if poolOk c free h l = true ∧ h = -1 then ((QdC free 2, QcD free 2, l), decide ((2 : Int) < free.length)) else ((free, h, l), false)
def QaU (c : Conf) (free : List Int) (h l : Int) : (List Int × Int × Int) × Bool :=
 if poolOk c free h l = true ∧ l = -1 then ((QdC free 0, h, QcD free 0), decide ((0 : Int) < free.length)) else ((free, h, l), false)
def Qa5 (c : Conf) (free : List Int) (h l : Int) (b : Bool) : (List Int × Int × Int) × Bool :=
 if poolOk c free h l = true ∧ (if b = true then h else l) ≠ -1 then (if b = true then (free, -1, l) else (free, h, -1), true) else ((free, h, l), false)
theorem Qqx (c : Conf) (free : List Int) (h l : Int) (hf : free.length ≤ 1000000) : PS 106 [.a [Qh free, .int .i64 h, .int .i64 l], .a c.cells] (.t [.inr [Qh (Qcp c free h l).1.1, .int .i64 (Qcp c free h l).1.2.1, .int .i64 (Qcp c free h l).1.2.2], .inl (.bool (Qcp c free h l).2)]) := by
 refine PSpec.rm ?_
 refine ov0 hΓ Tryz.func106 29 0 [.cell 4 41, .tmp 5] Tryz.ntmps106 Tryz.results106 ?_
 refine CallN.pureA Qfa (Qfc free h l hf ) (Go0 ?_)
 refine CallN.pureA QbE (QbG c free h l hf ) (Go0 ?_)
 by_cases h0 : poolOk c free h l = true ∧ h = -1
 ·refine Br.no (by rw [h0.1, h0.2]; rfl) (Go0 ?_)
  refine CallN.autoQ [3] QhA (Qhz free h l 2 hf (by omega) (by omega)) (Go0 ?_)
  rw [show Qcp c free h l = _ from if_pos h0]
  exact RM.i0
 ·refine Br.yes (by
   cases q : poolOk c free h l with
   | false => rfl
   | true =>
    have : h ≠ -1 := fun e => h0 ⟨q, e⟩
    simpa using this) ?_
  refine Go0 ?_
  rw [show Qcp c free h l = ((free, h, l), false) from if_neg h0]
  exact RM.i0
theorem Qpe : HB 106 := hB Tryz.func106
theorem Qly (c : Conf) (free : List Int) (h l : Int) (hf : free.length ≤ 1000000) : PS 107 [.a [Qh free, .int .i64 h, .int .i64 l], .a c.cells] (.t [.inr [Qh (QaU c free h l).1.1, .int .i64 (QaU c free h l).1.2.1, .int .i64 (QaU c free h l).1.2.2], .inl (.bool (QaU c free h l).2)]) := by
 refine PSpec.rm ?_
 refine ov0 hΓ Tryz.func107 29 0 [.cell 4 41, .tmp 5] Tryz.ntmps107 Tryz.results107 ?_
 refine CallN.pureA Qfa (Qfc free h l hf ) (Go0 ?_)
 refine CallN.pureA QbE (QbG c free h l hf ) (Go0 ?_)
 by_cases h0 : poolOk c free h l = true ∧ l = -1
 ·refine Br.no (by rw [h0.1, h0.2]; rfl) (Go0 ?_)
  refine CallN.autoQ [3] QhA (Qhz free h l 0 hf (by omega) (by omega)) (Go0 ?_)
  rw [show QaU c free h l = _ from if_pos h0]
  exact RM.i0
 ·refine Br.yes (by
   cases q : poolOk c free h l with
   | false => rfl
   | true =>
    have : l ≠ -1 := fun e => h0 ⟨q, e⟩
    simpa using this) ?_
  refine Go0 ?_
  rw [show QaU c free h l = ((free, h, l), false) from if_neg h0]
  exact RM.i0
theorem Qlj : HB 107 := hB Tryz.func107
theorem Qds (c : Conf) (free : List Int) (h l : Int) (b : Bool) (hf : free.length ≤ 1000000) : PS 109 [.a [Qh free, .int .i64 h, .int .i64 l], .a c.cells, .c (.bool b)] (.t [.inr [Qh (Qa5 c free h l b).1.1, .int .i64 (Qa5 c free h l b).1.2.1, .int .i64 (Qa5 c free h l b).1.2.2], .inl (.bool (Qa5 c free h l b).2)]) := by
 refine PSpec.rm ?_
 refine ov0 hΓ Tryz.func109 29 0 [.cell 6 41, .tmp 7] Tryz.ntmps109 Tryz.results109 ?_
 refine CallN.pureA Qfa (Qfc free h l hf ) (Go0 ?_)
 cases b with
 | true =>
  refine Br.yes rfl (Go0 ?_)
  refine CallN.pureA QbE (QbG c free h l hf ) (Go0 ?_)
  by_cases h0 : poolOk c free h l = true ∧ h ≠ -1
  ·refine Br.no (by rw [h0.1]; simpa using h0.2) (Go0 ?_)
   rw [show Qa5 c free h l true = ((free, -1, l), true) from if_pos h0]
   exact RM.i0
  ·refine Br.yes (by
    cases q : poolOk c free h l with
    | false => rfl
    | true =>
     have : h = -1 := Decidable.byContradiction fun e => h0 ⟨q, e⟩
     simpa using this) ?_
   refine Go0 ?_
   rw [show Qa5 c free h l true = ((free, h, l), false) from if_neg h0]
   exact RM.i0
 | false =>
  refine Br.no rfl (Go0 ?_)
  refine CallN.pureA QbE (QbG c free h l hf ) (Go0 ?_)
  by_cases h0 : poolOk c free h l = true ∧ l ≠ -1
  ·refine Br.no (by rw [h0.1]; simpa using h0.2) (Go0 ?_)
   rw [show Qa5 c free h l false = ((free, h, -1), true) from if_pos h0]
   exact RM.i0
  ·refine Br.yes (by
    cases q : poolOk c free h l with
    | false => rfl
    | true =>
     have : l = -1 := Decidable.byContradiction fun e => h0 ⟨q, e⟩
     simpa using this) ?_
   refine Go0 ?_
   rw [show Qa5 c free h l false = ((free, h, l), false) from if_neg h0]
   exact RM.i0
theorem QdB : HB 109 := hB Tryz.func109
theorem Qdz (cs : List C) (off : Nat) (b : Bool) : CS 104 [.c (.ptr 0 off), .c (.bool b)] [.vr cs] fun x H => x = .c (.ptr 0 (off + if b then 1 else 2)) ∧ H = [.vr cs] := by
 refine CSpec.rm ?_
 refine ov0 hΓ Tryz.func104 12 1 [.tmp 4] Tryz.ntmps104 Tryz.results104 ?_
 cases b with
 | true =>
  refine Br.yes rfl (Go0 ?_)
  refine ⟨_, _, ?_, rfl, rfl⟩
  exact RM.refl
 | false =>
  refine Br.no rfl (Go0 ?_)
  refine ⟨_, _, ?_, rfl, rfl⟩
  exact RM.refl
theorem QcC : HB 104 := hB Tryz.func104
theorem QnS (s : St) (b : Bool) : PS 30 [.a s.cells, .c (.bool b)] (.c (.int .i64 (if b then s.host else s.lane))) := by
 refine PSpec.rm ?_
 refine ov0 hΓ Tryz.func30 12 0 [.tmp 4] Tryz.ntmps30 Tryz.results30 ?_
 cases b with
 | true =>
  refine Br.yes rfl (Go0 ?_)
  exact RM.i0
 | false =>
  refine Br.no rfl (Go0 ?_)
  exact RM.i0
theorem QnJ : HB 30 := hB Tryz.func30
def QcX (s : St) (z : Int) : Bool := decide (0 ≤ z) && (decide (((s.dev.zones.getD z.toNat default).sectors.length : Int) < s.dev.size - 1) && decide ((s.dev.zones.getD z.toNat default).state ≠ 4))
theorem QdX (s : St) (z : Int) (hs : s.dev.zones.length ≤ 1000000) (hq : ∀ i, i < s.dev.zones.length → (s.dev.zones.getD i default).sectors.length ≤ 1000000) (hz0 : 0 ≤ s.dev.size) (hz1 : s.dev.size ≤ 1000000) (hz : z < s.dev.zones.length) : PS 105 [.a s.cells, .c (.int .i64 z)] (.c (.bool (QcX s z))) := by
 refine PSpec.rm ?_
 refine ov0 hΓ Tryz.func105 32 0 [.tmp 4] Tryz.ntmps105 Tryz.results105 ?_
 refine Dr.mk hΓ hMix (by kernel_rfl) (Go0 ?_)
 have w0 := Qa (s.dev.size - 1) (by omega) (by omega)
 refine RM.i1 ?_
 unfold QcX
 rw [w0]
 by_cases h0 : 0 ≤ z
 ·rw [decide_eq_true h0]
  by_cases h1 : ((s.dev.zones.getD z.toNat default).sectors.length : Int) < s.dev.size - 1
  ·rw [decide_eq_true h1]
   show (!((s.dev.zones.getD z.toNat default).state == 4)) = (true && (true && decide ((s.dev.zones.getD z.toNat default).state ≠ 4)))
   by_cases h2 : (s.dev.zones.getD z.toNat default).state = 4
   ·rw [h2]; rfl
   ·rw [beq_eq_false_iff_ne.2 h2, decide_eq_true h2]; rfl
  ·rw [decide_eq_false h1]; rfl
 ·rw [decide_eq_false h0]; rfl
theorem Qd1 : HB 105 := hB Tryz.func105
def bitN (x : Nat) : Nat := if x % 2 = 1 then (x / 2) ^^^ 3988292384 else x / 2
def Qcv : Nat → Nat → Nat
 | 0, x => x
 | n + 1, x => bitN (Qcv n x)
theorem Qgb {a b : Nat} (ha : a < 4294967296) (hb : b < 4294967296) : a ^^^ b < 4294967296 := Nat.xor_lt_two_pow (n := 32) ha hb
theorem QtW {x : Nat} (h : x < 4294967296) : bitN x < 4294967296 := by
 unfold bitN
 split
 ·exact Qgb (by omega) (by decide)
 ·omega
theorem Qs3 (a b : Nat) : bitN (a ^^^ b) = bitN a ^^^ bitN b := by
 have h2 : (a ^^^ b) / 2 = a / 2 ^^^ b / 2 := Nat.xor_div_two
 have h3 : (a ^^^ b) % 2 = (a + b) % 2 := by
  have h4 := Nat.testBit_xor a b 0
  simp only [Nat.testBit_zero] at h4
  have h5 := Nat.mod_two_eq_zero_or_one (a ^^^ b)
  rcases Nat.mod_two_eq_zero_or_one a with e | e <;> rcases Nat.mod_two_eq_zero_or_one b with f | f <;> rcases h5 with g | g <;> simp [e, f, g] at h4 <;> omega
 unfold bitN
 rw [h2, h3]
 have hc : ∀ x y p : Nat, (x ^^^ p) ^^^ (y ^^^ p) = x ^^^ y := fun x y p => by
  rw [Nat.xor_comm y p, Nat.xor_assoc, ← Nat.xor_assoc p p y, Nat.xor_self, Nat.zero_xor]
 rcases Nat.mod_two_eq_zero_or_one a with e | e <;> rcases Nat.mod_two_eq_zero_or_one b with f | f
 ·rw [if_neg (by omega), if_neg (by omega), if_neg (by omega)]
 ·rw [if_pos (by omega), if_neg (by omega), if_pos (by omega), Nat.xor_assoc]
 ·rw [if_pos (by omega), if_pos (by omega), if_neg (by omega), Nat.xor_assoc, Nat.xor_assoc, Nat.xor_comm 3988292384]
 ·rw [if_neg (by omega), if_pos (by omega), if_pos (by omega), hc]
theorem Qru (n a b : Nat) : Qcv n (a ^^^ b) = Qcv n a ^^^ Qcv n b := by
 induction n with
 | zero => rfl
 | succ n ih => simp only [Qcv]; rw [ih, Qs3]
theorem Qij {n x : Nat} (h : x < 4294967296) : Qcv n x < 4294967296 := by
 induction n with
 | zero => exact h
 | succ n ih => exact QtW ih
theorem Qn4 (n z : Nat) : Qcv n (z * 2 ^ n) = z := by
 have key : ∀ n m z, Qcv n (z * 2 ^ (n + m)) = z * 2 ^ m := by
  intro n
  induction n with
  | zero => intro m z; rw [Nat.zero_add]; rfl
  | succ n ih =>
   intro m z
   simp only [Qcv]
   rw [show n + 1 + m = n + (m + 1) by omega, ih (m + 1) z]
   unfold bitN
   rw [Nat.pow_succ, ← Nat.mul_assoc, if_neg (by omega), Nat.mul_div_cancel _ (by omega)]
 have := key n 0 z
 simpa using this
theorem Qsq {x b : Nat} (hb : b < 256) : Qcv 8 (x ^^^ b) = (x / 256) ^^^ Qcv 8 ((x % 256) ^^^ b) := by
 have e : x ^^^ b = (x / 256 * 2 ^ 8) ^^^ ((x % 256) ^^^ b) := by
  rw [← Nat.xor_assoc]
  congr 1
  apply Nat.eq_of_testBit_eq
  intro i
  rw [Nat.testBit_xor, Nat.testBit_mul_two_pow, show (256 : Nat) = 2 ^ 8 by decide, Nat.testBit_mod_two_pow, Nat.testBit_div_two_pow]
  by_cases c : i < 8
  ·simp [c, Nat.not_le.2 c]
  ·have : 8 ≤ i := by omega
   simp [c, this]
 rw [e, Qru, Qn4]
theorem QeD {a b : Nat} (ha : a < 4294967296) (hb : b < 4294967296) : xorU a b = ((a ^^^ b : Nat) : Int) := by
 have := Qgb ha hb
 unfold xorU
 rw [IntKind.wrap_u32]
 have e : (BitVec.ofInt IntKind.u32.bits (a : Int) ^^^ BitVec.ofInt IntKind.u32.bits (b : Int)).toNat = a ^^^ b := by
  show (BitVec.ofInt 32 (a : Int) ^^^ BitVec.ofInt 32 (b : Int)).toNat = _
  rw [BitVec.toNat_xor, BitVec.toNat_ofInt, BitVec.toNat_ofInt]
  congr 1 <;> omega
 rw [e]
 omega
theorem Qpy {a : Nat} (ha : a < 4294967296) : QaL a = (bitN a : Nat) := by
 have h1 : andU a 1 = ((a % 2 : Nat) : Int) := by
  unfold andU
  rw [IntKind.wrap_u32]
  have e : (BitVec.ofInt IntKind.u32.bits (a : Int) &&& BitVec.ofInt IntKind.u32.bits (1 : Int)).toNat = a % 2 := by
   show (BitVec.ofInt 32 (a : Int) &&& BitVec.ofInt 32 (1 : Int)).toNat = _
   rw [BitVec.toNat_and, BitVec.toNat_ofInt, BitVec.toNat_ofInt]
   have q : ((a : Int) % ((2 ^ 32 : Nat) : Int)).toNat = a := by omega
   rw [q]
   show a &&& 1 = _
   exact Nat.and_one_is_mod a
  rw [e]
  omega
 have h2 : Qho a = ((a / 2 : Nat) : Int) := by
  unfold Qho
  show (a : Int).fdiv 2 = _
  rw [Int.fdiv_eq_ediv_of_nonneg _ (by omega)]
  omega
 unfold QaL bitN
 rw [h1, h2]
 by_cases c : a % 2 = 1
 ·rw [if_pos (by omega), if_pos c]
  exact QeD (by omega) (by decide)
 ·rw [if_neg (by omega), if_neg c]
theorem Qhe {a : Nat} (ha : a < 4294967296) (n : Nat) : QaX QaL n a = (Qcv n a : Nat) := by
 induction n with
 | zero => rfl
 | succ n ih => simp only [QaX, Qcv]; rw [ih]; exact Qpy (Qij ha)
def tabI (i : Int) : Int := QaX QaL 8 i
theorem Qsn {x : Int} (h0 : 0 ≤ x) (h1 : x < 4294967296) {b : Nat} (hb : b < 256) : xorU (x.fdiv 256) (tabI ((x.toNat % 256 ^^^ b : Nat) : Int)) = QaX QaL 8 (xorU x b) := by
 obtain ⟨a, rfl⟩ : ∃ a : Nat, x = a := ⟨x.toNat, by omega⟩
 have ha : a < 4294967296 := by omega
 have hm : a % 256 ^^^ b < 256 := Nat.xor_lt_two_pow (n := 8) (by omega) hb
 rw [QeD ha (by omega), Qhe (Qgb ha (by omega)), Qsq hb]
 unfold tabI
 rw [show ((a : Int)).toNat = a from rfl, Qhe (by omega), Int.fdiv_eq_ediv_of_nonneg _ (by omega), show (a : Int) / 256 = ((a / 256 : Nat) : Int) by omega, QeD (by omega) (Qij (by omega))]
set_option maxHeartbeats 1000000 in
theorem Qgh (b : ByteArray) (p n : Nat) (h1 : 1 ≤ n) (h7 : n ≤ 7) (hp : p ≤ 1000) (hb : b.size ≤ 10000000) : PS 240 [.c (.str b), .c (.int .i64 p), .c (.int .i64 n)] (.t [.inl (.int .i64 (getS b p n)), .inl (.int .i64 (getE b p n))]) := by
 refine PSpec.rm ?_
 refine ov0 hΓ Tryz.func240 50 0 [.tmp 6, .tmp 7] Tryz.ntmps240 Tryz.results240 ?_
 refine Br.no (by simp; omega) (Go1 fun _h=>?_)
 have w0 := Qa ((b.size : Int) - p) (by omega) (by omega)
 by_cases h : b.size < p + n
 ·refine Br.yes (by rw [w0]; simp; omega) (Go0 ?_)
  rw [show getS b p n = 0 from if_pos h, show getE b p n = 2 from if_pos h]
  exact RM.i0
 ·refine Br.no (by rw [w0]; simp; omega) (Go0 ?_)
  have w1 := Qa ((n : Int) - 1) (by omega) (by omega)
  refine Lp.mkK hΓ (ι := Nat) [0, 1, 6, 7] (fun k => [(9, .c (.int .i64 ((n : Int) - 1 - k))), (8, .c (.int .i64 (Qdx b p n k)))]) (fun k => []) (fun k => k ≤ n) (fun k => n - k) 0 (Nat.zero_le _) ?_ ?_
  ·exact Mv.k0
  ·intro k hk
   refine Go0 ?_
   refine Br.of (fun h2=>?_) (fun h2=>?_)<;>(try simp only [Int.toNat_natCast] at h2)<;>(conv=>whnf)
   ·have e1 : IntKind.i64.wrap ((p : Int) + ((n : Int) - 1 - k)) = ((p + (n - 1 - k) : Nat) : Int) := by rw [Qa _ (by omega) (by omega)]; omega
    have w2 := Qa ((n : Int) - 1 - k - 1) (by omega) (by omega)
    refine Go0 ?_
    rw [e1]
    refine Go0 ?_
    refine ⟨k + 1, by omega, by omega, ?_⟩
    exact Mv.k0
   ·refine Go0 ?_
    have : k = n := by omega
    subst this
    rw [show getS b p k = Qdx b p k k from if_neg h, show getE b p k = 0 from if_neg h]
    exact RM.i0
theorem Qgz : HB 240 := hB Tryz.func240
def tabC (k : Nat) : List C := (List.range 256).map fun i => .int .u32 (if i < k then tabI i else 0)
theorem WL.same {ρ : Nat → Nat} {n : Nat} : ∀ (cs : List C), (∀ x ∈ cs, x.imm = true) → WL ρ n cs cs
 | [], _ => WL.nil
 | x :: r, h => WL.cons (WC.imm (h x (List.mem_cons_self ..))) (WL.same r fun y hy => h y (List.mem_cons_of_mem _ hy))
theorem Qnb (k : Nat) : ∀ x ∈ tabC k, x.imm = true := fun x hx => by
 unfold tabC at hx
 obtain ⟨i, -, rfl⟩ := List.mem_map.1 hx
 rfl
theorem WO.tab {ρ : Nat → Nat} {n k : Nat} : WO ρ n (.vr (tabC k)) (.vr (tabC k)) := WO.vr (WL.same _ (Qnb k))
theorem QiI {α : Type} : ∀ (l : List α) (k : Nat) (y : α), k < l.length → splice l k [y] = some (l.set k y)
 | [], _, _, h => absurd h (Nat.not_lt_zero _)
 | _ :: r, 0, y, _ => by
  cases r <;> rfl
 | x :: r, k + 1, y, h => by
  show (match splice r k [y] with | some l => some (x :: l) | none => none) = _
  rw [QiI r k y (by simpa using h)]
  rfl
theorem QsX {k : Nat} (hk : k < 256) : splice (tabC k) k [.int .u32 (tabI k)] = some (tabC (k + 1)) := by
 rw [QiI _ _ _ (by simpa [tabC] using hk)]
 congr 1
 refine List.ext_getElem (by simp [tabC]) fun i h1 h2 => ?_
 simp only [tabC, List.getElem_set, List.getElem_map, List.getElem_range]
 by_cases c : k = i
 ·subst c
  simp
 ·rw [if_neg c]
  by_cases d : i < k
  ·rw [if_pos d, if_pos (by omega)]
  ·rw [if_neg d, if_neg (by omega)]
theorem Qur {Γ : Env} {ts : Ts} {t : Nat} {a x : Operand} {i : TI} {id off : Nat} {cs cs' ys : List C} {H H' : List O} {s : S} (ht : Γ.at t = some i) (ha : bare (opnd ts a) = ([], .c (.ptr id off))) (hx : bare (opnd ts x) = ([], s)) (hs : s.cells = some ys)
  (hl : Nat.beq ys.length i.size = true) (hg : getL H id = some (.vr cs)) (hH : setL H id (.vr cs') = some H') (hsp : splice cs off ys = some cs') : eff Γ ts H (.store t a x) = some ([], .u, H') := by
 simp only [eff, ht, ha, hx, hs, hl, Qen, hg, hsp, hH, List.append_nil]
set_option maxHeartbeats 4000000 in
theorem Qps : PS 292 [] (.a (tabC 256)) := by
 refine PSpec.rm ?_
 refine ov0 hΓ Tryz.func292 26 0 [.cell 0 344] Tryz.ntmps292 Tryz.results292 ?_
 refine Lp.mkK hΓ (ι := Nat) [0, 1] (fun k => [(5, .c (.int .i64 k))]) (fun k => [.vr (tabC 0), .vr (tabC k)]) (fun k => k ≤ 256) (fun k => 256 - k) 0 (Nat.zero_le _) ?_ ?_
 ·exact Mv.mkW (WH.cons (WO.tab (k := 0)) (WH.cons (WO.tab (k := 0)) WH.nil)) wb0 leN
 ·intro k hk
  refine Go0 ?_
  refine Br.of (fun h1=>Go0 ?_) (fun h1=>Go0 ?_)
  ·have w0 := Qa (↑k + 1) (by omega) (by omega)
   have w1 : IntKind.u32.wrap (k : Int) = k := by rw [IntKind.wrap_u32]; omega
   refine Lp.mkK hΓ (ι := Nat) [0, 1, 2, 5] (fun j => [(10, .c (.int .i64 j)), (3, .c (.int .u32 (QaX QaL j k)))]) (fun _ => [.vr (tabC 0), .vr (tabC k)]) (fun j => j ≤ 8) (fun j => 8 - j) 0 (Nat.zero_le _) ?_ ?_
   ·exact Mv.mkW (WH.cons WO.tab (WH.cons WO.tab WH.nil)) (by rw [w1]; exact wb0) leN
   ·intro j hj
    refine Go0 ?_
    have w2 := Qa (↑j + 1) (by omega) (by omega)
    refine Br.of (fun h2=>Go0 ?_) (fun h2=>Go0 ?_)
    ·refine Br.of (fun h3=>Go0 ?_) (fun h3=>Go0 ?_)
     ·refine ⟨j + 1, by omega, by omega, Mv.mkW (WH.cons WO.tab (WH.cons WO.tab WH.nil)) ?_ leN⟩
      rw [w2, show QaX QaL (j + 1) k = xorU (Qho (QaX QaL j k)) 3988292384 from if_pos h3]
      exact wb0
     ·refine ⟨j + 1, by omega, by omega, Mv.mkW (WH.cons WO.tab (WH.cons WO.tab WH.nil)) ?_ leN⟩
      rw [w2, show QaX QaL (j + 1) k = Qho (QaX QaL j k) from if_neg h3]
      exact wb0
    ·have : j = 8 := by omega
     subst this
     generalize hE : eff _ _ _ _ = E
     obtain rfl : E = some ([], .u, [.vr (tabC 0), .vr (tabC (k + 1))]) := hE.symm.trans (Qur (cs := tabC k) rfl rfl rfl rfl rfl rfl rfl (by
      rw [show 0 + ((k : Nat) : Int).toNat * 1 = k by omega]
      exact QsX (by omega)))
     refine Go0 ?_
     rw [w0]
     refine ⟨k + 1, by omega, by omega, Mv.mkW (WH.cons WO.tab (WH.cons WO.tab WH.nil)) wb0 leN⟩
  ·have : k = 256 := by omega
   subst this
   show RM 0 (.a (tabC 256)) _ _ _
   exact RM.immW rfl (WS.a (WL.same _ (Qnb 256)))
theorem Qp7 : HB 292 := hB Tryz.func292
theorem QhL (sum : Int) (b : ByteArray) : ∀ k, 0 ≤ Q1 sum b k ∧ Q1 sum b k < 4294967296
 | 0 => Qif _
 | k + 1 => by
  have h := Qif (BitVec.ofInt IntKind.u32.bits (Q1 sum b k) ^^^ BitVec.ofInt IntKind.u32.bits (Qav b k)).toNat
  show 0 ≤ QaX QaL 8 (xorU (Q1 sum b k) (Qav b k)) ∧ QaX QaL 8 (xorU (Q1 sum b k) (Qav b k)) < 4294967296
  have h : 0 ≤ xorU (Q1 sum b k) (Qav b k) ∧ xorU (Q1 sum b k) (Qav b k) < 4294967296 := h
  generalize xorU (Q1 sum b k) (Qav b k) = y at *
  obtain ⟨a, rfl⟩ : ∃ a : Nat, y = a := ⟨y.toNat, by omega⟩
  have := Qij (n := 8) (x := a) (by omega)
  rw [Qhe (by omega)]
  omega
theorem Qub {x : Int} (h0 : 0 ≤ x) {n : Nat} (hn : n < 256) : IntKind.u8.wrap (BitVec.ofInt IntKind.u8.bits (IntKind.u8.wrap x) ^^^ BitVec.ofInt IntKind.u8.bits (n : Int)).toNat = ((x.toNat % 256 ^^^ n : Nat) : Int) := by
 have hm : x.toNat % 256 ^^^ n < 256 := Nat.xor_lt_two_pow (n := 8) (by omega) hn
 have e : (BitVec.ofInt IntKind.u8.bits (IntKind.u8.wrap x) ^^^ BitVec.ofInt IntKind.u8.bits (n : Int)).toNat = x.toNat % 256 ^^^ n := by
  show (BitVec.ofInt 8 (IntKind.u8.wrap x) ^^^ BitVec.ofInt 8 (n : Int)).toNat = _
  rw [BitVec.toNat_xor, BitVec.toNat_ofInt, BitVec.toNat_ofInt, IntKind.wrap_u8]
  congr 1 <;> omega
 rw [e, IntKind.wrap_u8]
 omega
theorem QsO {m : Nat} (h : m < 256) : getL (tabC 256) m = some (.int .u32 (tabI m)) := by
 rw [Qc]
 simp [tabC, h]
theorem QoT {α : Type} : ∀ (l : List α) (m : Nat) (c : α), getL l m = some c → cut l m 1 = some [c]
 | [], _, _, h => by cases h
 | x :: r, 0, c, h => by
  cases h
  cases r <;> rfl
 | _ :: r, m + 1, c, h => QoT r m c h
theorem Qud {Γ : Env} {ts : Ts} {t : Nat} {a : Operand} {i : TI} {id off : Nat} {cs xs : List C} {H : List O} {s : S} (ht : Γ.at t = some i) (ha : bare (opnd ts a) = ([], .c (.ptr id off))) (hg : getL H id = some (.vr cs)) (hs : mkS i.agg xs = some s) (hc : cut cs off i.size = some xs) : val Γ ts H (.load t a) = some ([], s) := by
 simp only [val, ht, ha, Qb0, hg, hc, hs, List.append_nil]
set_option maxHeartbeats 4000000 in
theorem Qk8 (sum : Int) (b : ByteArray) (hb : b.size ≤ 10000000) : PS 249 [.c (.int .u32 sum), .c (.str b)] (.c (.int .u32 (addU sum b))) := by
 refine PSpec.rm ?_
 refine ov0 hΓ Tryz.func249 30 0 [.tmp 4] Tryz.ntmps249 Tryz.results249 ?_
 refine CallN.pureA Qp7 (Qps ) (Go0 ?_)
 refine Lp.mkK hΓ (ι := Nat) [1, 4, 5] (fun k => [(7, .c (.int .i64 k)), (6, .c (.int .u32 (Q1 sum b k)))]) (fun _ => [.vr (tabC 256)]) (fun k => k ≤ b.size) (fun k => b.size - k) 0 (Nat.zero_le _) ?_ ?_
 ·exact Mv.mkW (WH.cons (WO.tab (k := 256)) WH.nil) wb0 leN
 ·intro k hk
  refine Go1 fun _h=>?_
  refine Br.of (fun h1=>?_) (fun h1=>?_)<;>(try simp only [Int.toNat_natCast] at h1)<;>(conv=>whnf)
  ·have hr := QhL sum b k
   have hn : (b.data.toList.getD k 0).toNat < 256 := UInt8.toNat_lt _
   have ix := Qub hr.1 hn
   have hm : (Q1 sum b k).toNat % 256 ^^^ (b.data.toList.getD k 0).toNat < 256 := Nat.xor_lt_two_pow (n := 8) (by omega) hn
   have w0 := Qa (↑k + 1) (by omega) (by omega)
   refine Go0 ?_
   rw [Int.toNat_natCast, ix]
   refine Go0 ?_
   generalize hE : val _ _ _ _ = E
   obtain rfl : E = some ([], .c (.int .u32 (tabI (((Q1 sum b k).toNat % 256 ^^^ (b.data.toList.getD k 0).toNat : Nat) : Int)))) := hE.symm.trans (Qud (cs := tabC 256) (xs := [.int .u32 (tabI (((Q1 sum b k).toNat % 256 ^^^ (b.data.toList.getD k 0).toNat : Nat) : Int))]) rfl rfl rfl rfl (by
    rw [show 0 + (((Q1 sum b k).toNat % 256 ^^^ (b.data.toList.getD k 0).toNat : Nat) : Int).toNat * 1 = (Q1 sum b k).toNat % 256 ^^^ (b.data.toList.getD k 0).toNat by omega]
    exact QoT _ _ _ (QsO hm)))
   refine Go0 ?_
   have hby : Qav b k = ((b.data.toList.getD k 0).toNat : Int) := by
    unfold Qav
    rw [IntKind.wrap_u32]; omega
   have hst : Q1 sum b (k + 1) = xorU ((Q1 sum b k).fdiv 256) (tabI (((Q1 sum b k).toNat % 256 ^^^ (b.data.toList.getD k 0).toNat : Nat) : Int)) := by
    rw [Qsn hr.1 hr.2 hn]
    show QaX QaL 8 (xorU (Q1 sum b k) (Qav b k)) = _
    rw [hby]
   rw [w0]
   refine ⟨k + 1, by omega, by omega, Mv.mkW (WH.cons WO.tab WH.nil) ?_ leN⟩
   rw [hst]
   exact wb0
  ·refine Go0 ?_
   have : k = b.size := by omega
   subst this
   exact RM.i0
theorem QkX : HB 249 := hB Tryz.func249
end Go.Proofs
end

section
namespace Go.Proofs
open Go.Shelf
def Tryz.layRepeat_ren : Go.Shelf.Ren := ⟨fun | 105 => 239 | 212 => 284 | 99 => 285 | 165 => 286 | 166 => 287 | 170 => 288 | 169 => 289 | 263 => 301 | 264 => 302 | 206 => 303 | 240 => 304 | 241 => 305 | 276 => 311 | 277 => 312 | n => n, fun | 9 => 9 | 3 => 3 | 4 => 4 | 20 => 20 | 0 => 0 | 46 => 294 | 109 => 331 | 5 => 5 | 72 => 336 | 76 => 340 | 51 => 259 | 146 => 352 | 53 => 354 | 148 => 355 | 70 => 334 | 37 => 87 | 75 => 339 | 127 => 357 | 164 => 362 | 80 => 152 | n => n, fun | n => n⟩
theorem Tryz.layRepeat : Go.Proofs.Lays.n105 Tryz.prog Tryz.layRepeat_ren := {
 mixed := by kernel_rfl,
 f99 := Tryz.func285.trans (congrArg some (by kernel_rfl)),
 f105 := Tryz.func239.trans (congrArg some (by kernel_rfl)),
 f165 := Tryz.func286.trans (congrArg some (by kernel_rfl)),
 f166 := Tryz.func287.trans (congrArg some (by kernel_rfl)),
 f169 := Tryz.func289.trans (congrArg some (by kernel_rfl)),
 f170 := Tryz.func288.trans (congrArg some (by kernel_rfl)),
 f206 := Tryz.func303.trans (congrArg some (by kernel_rfl)),
 f212 := Tryz.func284.trans (congrArg some (by kernel_rfl)),
 f240 := Tryz.func304.trans (congrArg some (by kernel_rfl)),
 f241 := Tryz.func305.trans (congrArg some (by kernel_rfl)),
 f263 := Tryz.func301.trans (congrArg some (by kernel_rfl)),
 f264 := Tryz.func302.trans (congrArg some (by kernel_rfl)),
 f276 := Tryz.func311.trans (congrArg some (by kernel_rfl)),
 f277 := Tryz.func312.trans (congrArg some (by kernel_rfl)),
 t0 := Tryz.underlying0,
 a0 := Tryz.isAgg0,
 z0 := Tryz.sizeOf0,
 v0 := Tryz.zeroValue0,
 t3 := Tryz.underlying3,
 a3 := Tryz.isAgg3,
 z3 := Tryz.sizeOf3,
 v3 := Tryz.zeroValue3,
 t4 := Tryz.underlying4,
 a4 := Tryz.isAgg4,
 z4 := Tryz.sizeOf4,
 v4 := Tryz.zeroValue4,
 t5 := Tryz.underlying5,
 a5 := Tryz.isAgg5,
 z5 := Tryz.sizeOf5,
 v5 := Tryz.zeroValue5,
 t9 := Tryz.underlying9,
 a9 := Tryz.isAgg9,
 z9 := Tryz.sizeOf9,
 v9 := Tryz.zeroValue9,
 t20 := Tryz.underlying20,
 a20 := Tryz.isAgg20,
 z20 := Tryz.sizeOf20,
 v20 := Tryz.zeroValue20,
 t37 := Tryz.underlying87,
 a37 := Tryz.isAgg87,
 z37 := Tryz.sizeOf87,
 v37 := Tryz.zeroValue87,
 t46 := Tryz.underlying294,
 a46 := Tryz.isAgg294,
 z46 := Tryz.sizeOf294,
 v46 := Tryz.zeroValue294,
 t51 := Tryz.underlying259,
 a51 := Tryz.isAgg259,
 z51 := Tryz.sizeOf259,
 v51 := Tryz.zeroValue259,
 t53 := Tryz.underlying354,
 a53 := Tryz.isAgg354,
 z53 := Tryz.sizeOf354,
 v53 := Tryz.zeroValue354,
 t70 := Tryz.underlying334,
 a70 := Tryz.isAgg334,
 z70 := Tryz.sizeOf334,
 v70 := Tryz.zeroValue334,
 t72 := Tryz.underlying336,
 a72 := Tryz.isAgg336,
 z72 := Tryz.sizeOf336,
 v72 := Tryz.zeroValue336,
 t75 := Tryz.underlying339,
 a75 := Tryz.isAgg339,
 z75 := Tryz.sizeOf339,
 v75 := Tryz.zeroValue339,
 t76 := Tryz.underlying340,
 a76 := Tryz.isAgg340,
 z76 := Tryz.sizeOf340,
 v76 := Tryz.zeroValue340,
 t109 := Tryz.underlying331,
 a109 := Tryz.isAgg331,
 z109 := Tryz.sizeOf331,
 v109 := Tryz.zeroValue331,
 t127 := Tryz.underlying357,
 a127 := Tryz.isAgg357,
 z127 := Tryz.sizeOf357,
 v127 := Tryz.zeroValue357,
 t146 := Tryz.underlying352,
 a146 := Tryz.isAgg352,
 z146 := Tryz.sizeOf352,
 v146 := Tryz.zeroValue352,
 t148 := Tryz.underlying355,
 a148 := Tryz.isAgg355,
 z148 := Tryz.sizeOf355,
 v148 := Tryz.zeroValue355,
 t164 := Tryz.underlying362,
 a164 := Tryz.isAgg362,
 z164 := Tryz.sizeOf362,
 v164 := Tryz.zeroValue362 }
def Tryz.layJoin_ren : Go.Shelf.Ren := ⟨fun | 156 => 256 | 165 => 286 | 166 => 287 | 169 => 289 | 240 => 304 | 241 => 305 | 276 => 311 | 277 => 312 | n => n, fun | 31 => 74 | 9 => 9 | 3 => 3 | 4 => 4 | 0 => 0 | 20 => 20 | 72 => 336 | 76 => 340 | 70 => 334 | 37 => 87 | 75 => 339 | 127 => 357 | 164 => 362 | 5 => 5 | 80 => 152 | n => n, fun | n => n⟩
theorem Tryz.layJoin : Go.Proofs.Lays.n156 Tryz.prog Tryz.layJoin_ren := {
 mixed := by kernel_rfl,
 f156 := Tryz.func256.trans (congrArg some (by kernel_rfl)),
 f165 := Tryz.func286.trans (congrArg some (by kernel_rfl)),
 f166 := Tryz.func287.trans (congrArg some (by kernel_rfl)),
 f169 := Tryz.func289.trans (congrArg some (by kernel_rfl)),
 f240 := Tryz.func304.trans (congrArg some (by kernel_rfl)),
 f241 := Tryz.func305.trans (congrArg some (by kernel_rfl)),
 f276 := Tryz.func311.trans (congrArg some (by kernel_rfl)),
 f277 := Tryz.func312.trans (congrArg some (by kernel_rfl)),
 t0 := Tryz.underlying0,
 a0 := Tryz.isAgg0,
 z0 := Tryz.sizeOf0,
 v0 := Tryz.zeroValue0,
 t3 := Tryz.underlying3,
 a3 := Tryz.isAgg3,
 z3 := Tryz.sizeOf3,
 v3 := Tryz.zeroValue3,
 t4 := Tryz.underlying4,
 a4 := Tryz.isAgg4,
 z4 := Tryz.sizeOf4,
 v4 := Tryz.zeroValue4,
 t9 := Tryz.underlying9,
 a9 := Tryz.isAgg9,
 z9 := Tryz.sizeOf9,
 v9 := Tryz.zeroValue9,
 t20 := Tryz.underlying20,
 a20 := Tryz.isAgg20,
 z20 := Tryz.sizeOf20,
 v20 := Tryz.zeroValue20,
 t31 := Tryz.underlying74,
 a31 := Tryz.isAgg74,
 z31 := Tryz.sizeOf74,
 v31 := Tryz.zeroValue74,
 t37 := Tryz.underlying87,
 a37 := Tryz.isAgg87,
 z37 := Tryz.sizeOf87,
 v37 := Tryz.zeroValue87,
 t70 := Tryz.underlying334,
 a70 := Tryz.isAgg334,
 z70 := Tryz.sizeOf334,
 v70 := Tryz.zeroValue334,
 t72 := Tryz.underlying336,
 a72 := Tryz.isAgg336,
 z72 := Tryz.sizeOf336,
 v72 := Tryz.zeroValue336,
 t75 := Tryz.underlying339,
 a75 := Tryz.isAgg339,
 z75 := Tryz.sizeOf339,
 v75 := Tryz.zeroValue339,
 t76 := Tryz.underlying340,
 a76 := Tryz.isAgg340,
 z76 := Tryz.sizeOf340,
 v76 := Tryz.zeroValue340,
 t127 := Tryz.underlying357,
 a127 := Tryz.isAgg357,
 z127 := Tryz.sizeOf357,
 v127 := Tryz.zeroValue357,
 t164 := Tryz.underlying362,
 a164 := Tryz.isAgg362,
 z164 := Tryz.sizeOf362,
 v164 := Tryz.zeroValue362 }
def Tryz.layClone_ren : Go.Shelf.Ren := ⟨fun | 316 => 290 | n => n, fun | 9 => 9 | 3 => 3 | 4 => 4 | 37 => 87 | 0 => 0 | 127 => 357 | 5 => 5 | n => n, fun | n => n⟩
theorem Tryz.layClone : Go.Proofs.LaysM.n316 Tryz.prog Tryz.layClone_ren := {
 mixed := by kernel_rfl,
 f316 := Tryz.func290.trans (congrArg some (by kernel_rfl)),
 t0 := Tryz.underlying0,
 a0 := Tryz.isAgg0,
 z0 := Tryz.sizeOf0,
 v0 := Tryz.zeroValue0,
 t3 := Tryz.underlying3,
 a3 := Tryz.isAgg3,
 z3 := Tryz.sizeOf3,
 v3 := Tryz.zeroValue3,
 t4 := Tryz.underlying4,
 a4 := Tryz.isAgg4,
 z4 := Tryz.sizeOf4,
 v4 := Tryz.zeroValue4,
 t9 := Tryz.underlying9,
 a9 := Tryz.isAgg9,
 z9 := Tryz.sizeOf9,
 v9 := Tryz.zeroValue9,
 t37 := Tryz.underlying87,
 a37 := Tryz.isAgg87,
 z37 := Tryz.sizeOf87,
 v37 := Tryz.zeroValue87,
 t127 := Tryz.underlying357,
 a127 := Tryz.isAgg357,
 z127 := Tryz.sizeOf357,
 v127 := Tryz.zeroValue357,
 t5 := Tryz.underlying5,
 a5 := Tryz.isAgg5,
 z5 := Tryz.sizeOf5,
 v5 := Tryz.zeroValue5,
 i0 := by kernel_rfl,
 i3 := by kernel_rfl,
 i4 := by kernel_rfl,
 i5 := by kernel_rfl,
 i9 := by kernel_rfl,
 i37 := by kernel_rfl,
 i127 := by kernel_rfl }
end Go.Proofs
end

section
open Go Go.Am
namespace Go.Proofs
set_option maxRecDepth 20000
open Go.Sort
theorem PSpec.ofCallsF {P : Program} {f : FuncId} {args : List S} {r : S}
  (h : ∀ F μ w vs, (∀ b o, F b = some o → w.heap[b]? = some o) → RepA F [] μ args vs → ∃ v, (∀ F' μ', RepS F' [] μ' r v) ∧ Calls P f vs w fun e w' => e = .returned v ∧ Go.RowKit.Below w.heap.size w w') : PSpec P f args r := by
 intro K F μ w vs hw hA
 obtain ⟨v, v1, v2⟩ := h F μ w vs hw.fr hA
 refine v2.mono ?_
 rintro e w' ⟨rfl, hb⟩
 have hh : ∀ (b : Nat) (o : Obj), w.heap[b]? = some o → w'.heap[b]? = some o := fun b o e => by
  rw [hb.block b (Array.getElem?_eq_some_iff.1 e).1]; exact e
 exact ⟨v, F, μ, r, [], rfl, Mem.le_refl F, hw.later hb.os hb.tape hb.output hh, Ext.refl [] μ, v1 F μ, rfl⟩
theorem Quu {vs : Array Value} {a : Value} (h : vs.size = 1) (h0 : vs[0]? = some a) : vs = #[a] := by
 apply Array.ext_getElem?
 intro j
 match j with
 | 0 => rw [h0]; rfl
 | j + 1 => rw [Array.getElem?_eq_none (by omega), Array.getElem?_eq_none (by simp)]
theorem Qty {vs : Array Value} {a b : Value} (h : vs.size = 2) (h0 : vs[0]? = some a) (h1 : vs[1]? = some b) : vs = #[a, b] := by
 apply Array.ext_getElem?
 intro j
 match j with
 | 0 => rw [h0]; rfl
 | 1 => rw [h1]; rfl
 | j + 2 => rw [Array.getElem?_eq_none (by omega), Array.getElem?_eq_none (by simp)]
theorem Qua : Go.Proofs.Builder.Extra Tryz.prog Tryz.layRepeat_ren where
 sizeBuilder := by kernel_rfl
 liesBuilder := by kernel_rfl
 t5 := Tryz.layRepeat.t5
 a5 := Tryz.layRepeat.a5
 z5 := Tryz.layRepeat.z5
 v5 := Tryz.layRepeat.v5
 infoByte := by kernel_rfl
 cellsByte := by kernel_rfl
 sizeByte := by kernel_rfl
 neB5 := by decide
theorem Qmf : Go.Proofs.Builder.Extra Tryz.prog Tryz.layJoin_ren where
 sizeBuilder := by kernel_rfl
 liesBuilder := by kernel_rfl
 t5 := Tryz.layRepeat.t5
 a5 := Tryz.layRepeat.a5
 z5 := Tryz.layRepeat.z5
 v5 := Tryz.layRepeat.v5
 infoByte := by kernel_rfl
 cellsByte := by kernel_rfl
 sizeByte := by kernel_rfl
 neB5 := by decide
theorem Qtp (n : Nat) (hn : n ≤ 1000) : PS 239 [.c (.str ⟨#[0]⟩), .c (.int .i64 n)] (.c (.str (QQ n fun _ _ => .int .u8 0))) := by
 refine PSpec.ofCalls fun F μ w vs hA => ?_
 obtain ⟨v0, a1, a2, -⟩ := hA.2 0 _ rfl
 obtain ⟨v1, b1, b2⟩ := hA.2 1 _ rfl
 rw [a2] at a1
 rw [show v1 = _ from b2] at b1
 obtain rfl := Qty hA.1 a1 b1
 have e : ∀ n, (Lib.repeatL [0] n) = (List.range n).map fun _ => (0 : UInt8) := by
  intro n
  induction n with
  | zero => rfl
  | succ n ih => rw [List.range_succ_eq_map, List.map_cons, List.map_map]; simp only [Lib.repeatL, ih]; rfl
 refine ⟨.string (QQ n fun _ _ => .int .u8 0), fun F' μ' => ⟨rfl, by rw [Qa0]; unfold maxLen; omega⟩, ?_⟩
 refine (Any.strings_Repeat Tryz.layRepeat Qua ⟨#[0]⟩ n w (by omega) (by show 1 * n ≤ _; omega)).mono ?_
 rintro e' w' ⟨rfl, hb⟩
 refine ⟨?_, hb⟩
 rw [show (⟨#[0]⟩ : ByteArray).data.toList = [0] from rfl, e]
 rfl
theorem Qss : HB 239 := hB Tryz.func239
theorem QmX (s : ByteArray) (hs : s.size ≤ 1000000) : PS 290 [.c (.str s)] (.c (.str s)) := by
 refine PSpec.ofCalls fun F μ w vs hA => ?_
 obtain ⟨v0, a1, a2, a3⟩ := hA.2 0 _ rfl
 rw [a2] at a1
 obtain rfl := Quu hA.1 a1
 exact ⟨.string s, fun F' μ' => ⟨rfl, a3⟩, Any.stringslite_Clone Tryz.layClone s w (by omega)⟩
theorem Qmq : HB 290 := hB Tryz.func290
theorem QnC (s : ByteArray) (hs : s.size ≤ 1000000) : PS 241 [.c (.str s)] (.c (.str s)) := by
 refine PSpec.rm ?_
 refine ov0 hΓ Tryz.func241 5 0 [.tmp 2] Tryz.ntmps241 Tryz.results241 ?_
 refine CallN.pureA Qmq (QmX s hs ) (Go0 ?_)
 exact RM.i0
theorem QnR : HB 241 := hB Tryz.func241
def catB (l : List ByteArray) : ByteArray := l.foldl (· ++ ·) ByteArray.empty
theorem Qkk (l : List (List UInt8)) : Lib.join l [] = l.flatten := by
 cases l with
 | nil => rfl
 | cons x r =>
  rw [Lib.join_cons]
  show x ++ (r.map fun y => [] ++ y).flatten = _
  simp
theorem Ql6 : ∀ (l : List ByteArray), (∀ x ∈ l, x.size ≤ 1000) → (l.map (·.data.toList)).flatten.length ≤ l.length * 1000
 | [], _ => Nat.zero_le _
 | x :: r, h => by
  have h1 := h x (List.mem_cons_self ..)
  have h2 := Ql6 r fun y hy => h y (List.mem_cons_of_mem _ hy)
  have e : x.data.toList.length = x.size := rfl
  simp only [List.map_cons, List.flatten_cons, List.length_append, List.length_cons]
  omega
theorem QkD (l : List ByteArray) : (⟨(Lib.join (l.map (·.data.toList)) []).toArray⟩ : ByteArray) = catB l := by
 have hf : ∀ (l : List ByteArray) (a : ByteArray), (l.foldl (· ++ ·) a).data.toList = a.data.toList ++ (l.map (·.data.toList)).flatten := by
  intro l
  induction l with
  | nil => intro a; simp
  | cons x r ih => intro a; rw [List.foldl_cons, ih, ByteArray.data_append]; simp
 apply ByteArray.ext
 apply Array.toList_inj.1
 rw [Qkk]
 unfold catB
 rw [hf]
 simp
theorem Qko (l : List ByteArray) (hl : l.length ≤ 100) (hs : ∀ x ∈ l, x.size ≤ 1000) : PS 256 [.c (Qay l), .c (.str ByteArray.empty)] (.c (.str (catB l))) := by
 have hsz : (Lib.join (l.map (·.data.toList)) []).length ≤ 100000 := by
  rw [Qkk]
  have := Ql6 l hs
  omega
 refine PSpec.ofCallsF fun F μ w vs hfr hA => ?_
 obtain ⟨v0, a1, a2⟩ := hA.2 0 _ rfl
 obtain ⟨v1, b1, b2, -⟩ := hA.2 1 _ rfl
 rw [b2] at b1
 obtain ⟨a, cap, rfl, h1, h2, h3, h4, h5⟩ := a2
 obtain rfl := Qty hA.1 a1 b1
 have hcat : (catB l).size ≤ maxLen := by
  rw [← QkD]
  show (Lib.join (l.map (·.data.toList)) []).toArray.size ≤ _
  rw [List.size_toArray]
  unfold maxLen
  omega
 refine ⟨.string (catB l), fun F' μ' => ⟨rfl, hcat⟩, ?_⟩
 rw [← QkD]
 rcases h5 with h5 | ⟨b, off, rfl, h5⟩
 ·obtain rfl := List.eq_nil_of_length_eq_zero h5
  refine (Any.strings_Join_none Tryz.layJoin Qmf a cap ByteArray.empty w).mono ?_
  rintro e w' ⟨rfl, rfl⟩
  exact ⟨rfl, Go.RowKit.Below.refl _ _⟩
 ·have hcell : ∀ j, j < l.length → F.cell b (off + j) = some (.string (l.getD j ByteArray.empty)) := fun j hj => by
   obtain ⟨x, x1, x2, -⟩ := h5 j hj 0 (by omega)
   rw [x2] at x1
   simpa using x1
  have hw : ∀ j, j < l.length → w.cell? ⟨b, off + j, none⟩ = some (.string (l.getD j ByteArray.empty)) := fun j hj => by
   have := hcell j hj
   unfold Mem.cell at this
   unfold World.cell?
   cases hF : F b with
   | none => rw [hF] at this; cases this
   | some o =>
    rw [hF] at this
    rw [hfr b o hF]
    cases o <;> simp_all
  by_cases h0 : l.length = 0
  ·obtain rfl := List.eq_nil_of_length_eq_zero h0
   refine (Any.strings_Join_none Tryz.layJoin Qmf _ cap ByteArray.empty w).mono ?_
   rintro e w' ⟨rfl, rfl⟩
   exact ⟨rfl, Go.RowKit.Below.refl _ _⟩
  have hb : b < w.heap.size := by
   have := hcell 0 (by omega)
   unfold Mem.cell at this
   cases hF : F b with
   | none => rw [hF] at this; cases this
   | some o => exact (Array.getElem?_eq_some_iff.1 (hfr b o hF)).1
  exact Any.strings_Join Tryz.layJoin Qmf b off cap l ByteArray.empty w (fun j x hx => by
   obtain ⟨hj, rfl⟩ := List.getElem?_eq_some_iff.1 hx
   rw [hw j hj]
   simp [List.getD, hj]) hb (by omega) h2 (by
    show (Lib.join (l.map (·.data.toList)) []).length ≤ _
    omega)
theorem Qk2 : HB 256 := hB Tryz.func256
end Go.Proofs
end

section
open Go Go.Am
namespace Go.Proofs
set_option maxRecDepth 20000
theorem QiK (l : List ByteArray) (hl : l.length ≤ 100) (hs : ∀ x ∈ l, x.size ≤ 1000) : PS 257 [.c (Qay l)] (.c (.str (catB l))) := by
  refine PSpec.rm ?_
  refine ov0 hΓ Tryz.func257 5 0 [.tmp 2] Tryz.ntmps257 Tryz.results257 ?_
  refine CallN.pureA Qk2 (Qko l hl hs ) (Go0 ?_)
  exact RM.i0
theorem Qja : HB 257 := hB Tryz.func257
theorem QjA (l : List ByteArray) (hl : l.length ≤ 100) (hs : ∀ x ∈ l, x.size ≤ 1000) : PS 191 [.c (Qay l)] (.c (.str (catB l))) := by
  refine PSpec.rm ?_
  refine ov0 hΓ Tryz.func191 5 0 [.tmp 2] Tryz.ntmps191 Tryz.results191 ?_
  refine CallN.pureA Qk2 (Qko l hl hs ) (Go0 ?_)
  exact RM.i0
theorem QiP : HB 191 := hB Tryz.func191
def sufS (n : Int) (size k : Nat) : ByteArray := QQ k fun i _ => .int .u8 (putB n (size - k + i))
theorem QsV (n : Int) (size : Nat) : sufS n size size = putS n size := Qgf fun i _ => by rw [Nat.sub_self, Nat.zero_add]
theorem QsN {n : Int} {size : Nat} (h1 : 1 ≤ size) (h7 : size ≤ 7) (h0 : 0 ≤ n) (hn : n < 2 ^ (8 * size)) : n.fdiv (2 ^ (min (IntKind.i64.wrap (8 * (size : Int))).toNat IntKind.i64.bits)) = 0 := by
  have e : IntKind.i64.wrap (8 * (size : Int)) = 8 * size := Qa _ (by omega) (by omega)
  rw [e, show (8 * (size : Int)).toNat = 8 * size by omega, Nat.min_eq_left (by show 8 * size ≤ 64; omega), Int.fdiv_eq_ediv_of_nonneg _ (Int.le_of_lt (Int.pow_pos (by decide)))]
  exact Int.ediv_eq_zero_of_lt h0 hn
theorem QtF {n : Int} {i : Nat} (h : i < 7) : IntKind.u8.wrap (n.fdiv (2 ^ (min (IntKind.i64.wrap (8 * (i : Int))).toNat IntKind.i64.bits))) = putB n i := by
  unfold putB
  rw [show IntKind.u64.wrap (IntKind.i64.wrap (8 * (i : Int))) = IntKind.i64.wrap (8 * (i : Int)) by rw [Qa _ (by omega) (by omega), IntKind.wrap_u64]; omega]
theorem Qsr {n : Int} {size k : Nat} (h : k < size) : catB [QQ 1 fun _ _ => .int .u8 (putB n (size - 1 - k)), sufS n size k] = sufS n size (k + 1) := by
  show (ByteArray.empty ++ QQ 1 _) ++ sufS n size k = _
  rw [ByteArray.empty_append]
  unfold sufS
  apply ByteArray.ext
  rw [ByteArray.data_append]
  unfold QQ
  apply Array.toList_inj.1
  rw [Array.toList_append]
  simp only [List.toList_toArray]
  rw [show List.range 1 = [0] from rfl, List.range_succ_eq_map]
  simp only [List.map_cons, List.map_nil, List.map_map, List.singleton_append]
  refine List.cons_eq_cons.2 ⟨?_, List.map_congr_left fun i _ => ?_⟩
  · exact congrArg (fun m => Qc6 (.int .u8 (putB n m))) (by omega)
  · exact congrArg (fun m => Qc6 (.int .u8 (putB n m))) (by show _ = size - (k + 1) + (i + 1); omega)
set_option maxHeartbeats 2000000 in
theorem Qhg (n : Int) (size : Nat) (h1 : 1 ≤ size) (h7 : size ≤ 7) (h0 : 0 ≤ n) (hn : n < 2 ^ (8 * size)) : PS 250 [.c (.int .i64 n), .c (.int .i64 size)] (.t [.inl (.str (putS n size)), .inl (.int .i64 0)]) := by
  have hz := QsN h1 h7 h0 hn
  have hw : 0 ≤ IntKind.i64.wrap (8 * (size : Int)) := by rw [Qa _ (by omega) (by omega)]; omega
  refine PSpec.rm ?_
  refine ov0 hΓ Tryz.func250 42 0 [.tmp 4, .tmp 5] Tryz.ntmps250 Tryz.results250 ?_
  refine Br.no (by rw [hz]; simp; omega) (Go0 ?_)
  have w1 := Qa ((size : Int) - 1) (by omega) (by omega)
  refine Lp.mkK hΓ (ι := Nat) [0, 4, 5] (fun k => [(7, .c (.int .i64 ((size : Int) - 1 - k))), (6, .c (.str (sufS n size k)))]) (fun _ => []) (fun k => k ≤ size) (fun k => size - k) 0 (Nat.zero_le _) ?_ ?_
  · exact Mv.k0
  · intro k hk
    refine Go0 ?_
    refine Br.of (fun h2=>?_) (fun h2=>?_)<;>(try simp only [Int.toNat_natCast] at h2)<;>(conv=>whnf)
    · have ei : (size : Int) - 1 - k = ((size - 1 - k : Nat) : Int) := by omega
      have hw2 : 0 ≤ IntKind.i64.wrap (8 * ((size : Int) - 1 - k)) := by rw [Qa _ (by omega) (by omega)]; omega
      have w2 := Qa ((size : Int) - 1 - k - 1) (by omega) (by omega)
      refine Go0 ?_
      refine Need.mk (fun i hi => ⟨_, by obtain rfl : i = 0 := by omega
                                         rfl⟩) ?_
      refine Go0 ?_
      have hb : IntKind.u8.wrap (n.fdiv (2 ^ min (IntKind.i64.wrap (8 * ((size : Int) - 1 - k))).toNat IntKind.i64.bits)) = putB n (size - 1 - k) := by rw [ei]; exact QtF (by omega)
      rw [hb]
      refine CallN.reads Qja (QiK [QQ 1 fun _ _ => .int .u8 (putB n (size - 1 - k)), sufS n size k] (by simp) (fun x hx => by
        rcases List.mem_cons.1 hx with rfl | hx
        · rw [Qa0]; omega
        · rw [List.mem_singleton.1 hx]
          unfold sufS
          rw [Qa0]; omega)) (BwA.cons (BwS.c (Bw.sl rfl rfl (fun i hi j hj => by
            match i, hi with
            | 0, _ =>
              have hj : j < 1 := hj
              obtain rfl : j = 0 := by omega
              exact Bw.same (c := .str (QQ 1 fun _ _ => .int .u8 (putB n (size - 1 - k)))) rfl
            | 1, _ =>
              have hj : j < 1 := hj
              obtain rfl : j = 0 := by omega
              exact Bw.same (c := .str (sufS n size k)) rfl) (fun e => by cases e))) BwA.nil) rfl ?_
      refine Go0 ?_
      rw [Qsr (by omega)]
      refine ⟨k + 1, by omega, by omega, ?_⟩
      exact Mv.k0
    · refine Go0 ?_
      have : k = size := by omega
      subst this
      rw [QsV]
      exact RM.i0
theorem Qg8 : HB 250 := hB Tryz.func250
theorem Qha (b : ByteArray) (hb : b.size ≤ 10000000) : PS 194 [.c (.str b)] (.c (.int .u32 (addU 0 b))) := by
 refine PSpec.rm ?_
 refine ov0 hΓ Tryz.func194 5 0 [.tmp 2] Tryz.ntmps194 Tryz.results194 ?_
 refine CallN.pureA QkX (Qk8 0 b hb ) (Go0 ?_)
 exact RM.i0
theorem Qgo : HB 194 := hB Tryz.func194
theorem QrT (b : ByteArray) (hb : b.size ≤ 1000) : PS 193 [.c (.str b), .c (.int .i64 20)] (.c (.str (padS b))) := by
 refine PSpec.rm ?_
 refine ov hΓ Tryz.func193 18 0 [.tmp 4] Tryz.ntmps193 Tryz.results193 ?_
 refine Go1 fun _h=>?_
 by_cases h : b.size < 20
 ·refine Br.no (decide_eq_false (by omega)) ?_
  have w0 : IntKind.i64.wrap ((20 : Int) - b.size) = ((20 - b.size : Nat) : Int) := by rw [Qa _ (by omega) (by omega)]; omega
  refine Go1 fun _h=>?_
  rw [w0]
  refine CallN.pureA Qss (Qtp (20 - b.size) (by omega) ) (Go0 ?_)
  refine CallN.reads Qja (QiK [b, QQ (20 - b.size) fun _ _ => .int .u8 0] (by simp) (fun x hx => by
   rcases List.mem_cons.1 hx with rfl | hx
   ·exact hb
   ·rw [List.mem_singleton.1 hx, Qa0]; omega)) (BwA.cons (BwS.c (Bw.sl rfl rfl (fun i hi j hj => by
    match i, hi with
    | 0, _ =>
     have hj : j < 1 := hj
     obtain rfl : j = 0 := by omega
     exact Bw.same (c := .str b) rfl
    | 1, _ =>
     have hj : j < 1 := hj
     obtain rfl : j = 0 := by omega
     exact Bw.same (c := .str (QQ (20 - b.size) fun _ _ => .int .u8 0)) rfl) (fun e => by cases e))) BwA.nil) rfl ?_
  refine Go0 ?_
  rw [show padS b = catB [b, QQ (20 - b.size) fun _ _ => .int .u8 0] by
   show _ = (ByteArray.empty ++ b) ++ _
   rw [ByteArray.empty_append]
   exact if_pos h]
  exact RM.i0
 ·refine Br.yes (decide_eq_true (by omega)) (Go0 ?_)
  rw [show padS b = b from if_neg h]
  exact RM.i0
theorem Qrb : HB 193 := hB Tryz.func193
theorem QcL (n : Int) (size : Nat) (h1 : 1 ≤ size) (h7 : size ≤ 7) (h0 : 0 ≤ n) (hn : n < 2 ^ (8 * size)) : PS 192 [.c (.int .i64 n), .c (.int .i64 size)] (.c (.str (putS n size))) := by
 refine PSpec.rm ?_
 refine ov0 hΓ Tryz.func192 14 0 [.tmp 4] Tryz.ntmps192 Tryz.results192 ?_
 refine CallN.pureA Qg8 (Qhg n size h1 h7 h0 hn ) (Go0 ?_)
 exact RM.i0
theorem QcN : HB 192 := hB Tryz.func192
set_option maxHeartbeats 2000000 in
theorem QnG (r : Rec) : PS 190 [.a r.cells] (.c (.int .i64 (Qm r))) := by
 refine PSpec.rm ?_
 refine ov0 hΓ Tryz.func190 63 0 [.tmp 2] Tryz.ntmps190 Tryz.results190 ?_
 by_cases h1 : 1 ≤ r.kind ∧ r.kind ≤ 6
 ·refine Br.no (by simp; omega) (Go0 ?_)
  by_cases h2 : 0 ≤ r.block ∧ r.block ≤ 4294967295 ∧ 0 ≤ r.version ∧ r.version ≤ 1099511627776 ∧ 0 ≤ r.move ∧ r.move ≤ 255
  ·refine Br.no (by simp; omega) (Go1 fun _h=>?_)
   by_cases h3 : r.payload.size ≤ 20 ∧ (r.kind = 1 → r.payload.size = 16) ∧ (r.kind = 2 → r.payload.size = 0)
   ·refine Br.no (by
     obtain ⟨a, b, c⟩ := h3
     by_cases k1 : r.kind = 1
     ·have := b k1
      simp [k1, this]
     ·by_cases k2 : r.kind = 2
      ·have := c k2
       simp [k2, this]
      ·simp [k1, k2]; omega) ?_
    refine Go0 ?_
    rw [show Qm r = 0 by unfold Qm; rw [if_pos (decide_eq_true h1), if_pos (decide_eq_true h2), if_pos (decide_eq_true h3)]]
    exact RM.i0
   ·refine Br.yes (Decidable.byContradiction fun z => h3 (by
     have z := Bool.eq_false_iff.2 z
     by_cases k1 : r.kind = 1
     ·simp [k1] at z; omega
     ·by_cases k2 : r.kind = 2
      ·simp [k2] at z
       have := z.2
       refine ⟨by omega, by omega, fun _ => ?_⟩
       simp_all
      ·simp [k1, k2] at z; omega)) ?_
    refine Go0 ?_
    rw [show Qm r = 2 by unfold Qm; rw [if_pos (decide_eq_true h1), if_pos (decide_eq_true h2), if_neg (by rw [decide_eq_true_eq]; exact h3)]]
    exact RM.i0
  ·refine Br.yes (Decidable.byContradiction fun z => h2 (by
    have z := Bool.eq_false_iff.2 z
    simp at z
    omega)) ?_
   refine Go0 ?_
   rw [show Qm r = 1 by unfold Qm; rw [if_pos (decide_eq_true h1), if_neg (by rw [decide_eq_true_eq]; exact h2)]]
   exact RM.i0
 ·refine Br.yes (Decidable.byContradiction fun z => h1 (by
   have z := Bool.eq_false_iff.2 z
   simp at z
   omega)) ?_
  refine Go0 ?_
  rw [show Qm r = 3 by unfold Qm; rw [if_neg (by rw [decide_eq_true_eq]; exact h1)]]
  exact RM.i0
theorem Qop : HB 190 := hB Tryz.func190
theorem WC.strs {ρ : Nat → Nat} {n m : Nat} {t : Bool} {g : Nat → Nat → C} {l : List ByteArray} (hm : m = l.length) (hg : ∀ i, i < m → g i 0 = .str (l.getD i ByteArray.empty)) : WC ρ n (.isl 1 m g t) (Qay l) :=
 WC.isl hm (fun i hi j hj => by
  obtain rfl : j = 0 := by omega
  exact hg i hi) (fun e => by cases e)
def QgA (r : Rec) : List ByteArray := [⟨#[90, 65]⟩, putS r.kind 1, putS r.payload.size 1, putS r.block 4, putS r.version 6, putS r.move 1, ⟨#[0]⟩, padS r.payload]
theorem Qqb (r : Rec) : catB (QgA r) = QV r := by
 unfold catB QgA QV
 simp only [List.foldl_cons, List.foldl_nil, ByteArray.empty_append]
theorem QnO {r : Rec} (h : Qm r = 0) : ∀ x ∈ QgA r, x.size ≤ 1000 := fun x hx => by
 obtain ⟨h1, h2, h3⟩ := QaY h
 have hp := QaZ r.payload h3
 simp only [QgA, List.mem_cons, List.mem_nil_iff, or_false] at hx
 rcases hx with rfl | rfl | rfl | rfl | rfl | rfl | rfl | rfl <;> first | (rw [QI]; omega) | (rw [hp]; omega) | decide
theorem Qtj {r : Rec} (h : Qm r = 0) : (QV r).size = 36 := by
 obtain ⟨h1, h2, h3⟩ := QaY h
 unfold QV
 simp only [ByteArray.size_append, QI, QaZ r.payload h3]
 rfl
set_option maxHeartbeats 4000000 in
theorem Qez (r : Rec) : PS 112 [.a r.cells] (.t [.inl (.str (encR r)), .inl (.int .i64 (Qm r))]) := by
 refine PSpec.rm ?_
 refine ov0 hΓ Tryz.func112 39 0 [.tmp 2, .tmp 3] Tryz.ntmps112 Tryz.results112 ?_
 refine CallN.pureA Qop (QnG r ) (Go0 ?_)
 by_cases h : Qm r = 0
 ·obtain ⟨h1, h2, h3⟩ := QaY h
  refine Br.no (by rw [h]; rfl) (Go0 ?_)
  refine Dr.mkE hΓ hMix [4294967296] [] (by kernel_rfl) (Go0 ?_)
  refine CallP.auto QcN (QcL r.kind 1 (by omega) (by omega) (by omega) (by omega) ) (Go0 ?_)
  refine CallP.auto QcN (QcL (r.payload.size : Int) 1 (by omega) (by omega) (by omega) (by omega) ) (Go0 ?_)
  refine CallP.auto QcN (QcL r.block 4 (by omega) (by omega) (by omega) (by omega) ) (Go0 ?_)
  refine CallP.auto QcN (QcL r.version 6 (by omega) (by omega) (by omega) (by omega) ) (Go0 ?_)
  refine CallP.auto QcN (QcL r.move 1 (by omega) (by omega) (by omega) (by omega) ) (Go0 ?_)
  refine CallP.auto Qrb (QrT r.payload (by omega) ) (Go0 ?_)
  refine CallP.mkW QiP (QjA (QgA r) leN (QnO h)) (WA.cons rfl (WS.c (WC.strs rfl (fun i hi => by
   match i, hi with
   | 0, _ => rfl
   | 1, _ => rfl
   | 2, _ => rfl
   | 3, _ => rfl
   | 4, _ => rfl
   | 5, _ => rfl
   | 6, _ => rfl
   | 7, _ => rfl))) WA.nil) rfl ?_
  rw [Qqb]
  refine Go0 ?_
  have hbs := Qtj h
  have ha := Qfq 0 (QV r)
  have hw := Qa (addU 0 (QV r)) (by omega) (by omega)
  refine CallN.pureA Qgo (Qha (QV r) (by omega) ) (Go0 ?_)
  refine CallN.pureA QcN (QcL (IntKind.i64.wrap (addU 0 (QV r))) 4 (by omega) (by omega) (by omega) (by omega) ) (Go0 ?_)
  refine CallN.reads QiP (QjA [QV r, putS (IntKind.i64.wrap (addU 0 (QV r))) 4] (by simp) (fun x hx => by
   rcases List.mem_cons.1 hx with rfl | hx
   ·omega
   ·rw [List.mem_singleton.1 hx, QI]; omega)) (BwA.cons (BwS.c (Bw.sl rfl rfl (fun i hi j hj => by
    match i, hi with
    | 0, _ =>
     have hj : j < 1 := hj
     obtain rfl : j = 0 := by omega
     exact Bw.same (c := .str (QV r)) rfl
    | 1, _ =>
     have hj : j < 1 := hj
     obtain rfl : j = 0 := by omega
     exact Bw.same (c := .str (putS (IntKind.i64.wrap (addU 0 (QV r))) 4)) rfl) (fun e => by cases e))) BwA.nil) rfl ?_
  refine Go0 ?_
  rw [h, show encR r = catB [QV r, putS (IntKind.i64.wrap (addU 0 (QV r))) 4] by
   show _ = (ByteArray.empty ++ QV r) ++ _
   rw [ByteArray.empty_append]
   exact if_pos h]
  exact RM.i0
 ·refine Br.yes (by simpa using h) (Go0 ?_)
  rw [show encR r = ByteArray.empty from if_neg h]
  exact RM.i0
theorem Qeo : HB 112 := hB Tryz.func112
end Go.Proofs
end
