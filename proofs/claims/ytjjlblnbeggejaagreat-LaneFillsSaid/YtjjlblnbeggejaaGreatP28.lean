/- Contracts, lemmas; no condition. -/
import Derived.Test.YtjjlblnbeggejaaGreatP27
import Derived.Test.YtjjlblnbeggejaaGreatP12
import Derived.Test.YtjjlblnbeggejaaGreatP25
import Derived.Test.YtjjlblnbeggejaaGreatP10
import Derived.Test.YtjjlblnbeggejaaGreatP18
set_option linter.all false
section
open Go Go.Am
namespace Go.Proofs
set_option maxRecDepth 20000
theorem Qk1 (b : ByteArray) (k : Nat) : 0 ≤ Qa8 b k ∧ Qa8 b k < 256 := by
 have h : (b.data.toList.getD k 0).toNat < 256 := UInt8.toNat_lt _
 unfold Qa8
 rw [Qa _ (by omega) (by omega)]
 omega
theorem Quv {y : Int} (h : 0 ≤ y ∧ y < 256) : orW (shW 0) y = y := by
 obtain ⟨n, rfl⟩ := Int.eq_ofNat_of_zero_le h.1
 have e0 : shW 0 = 0 := by decide
 rw [e0]
 unfold orW
 have e1 : (BitVec.ofInt IntKind.i64.bits 0 ||| BitVec.ofInt IntKind.i64.bits (n : Int)).toNat = n := by
  show (BitVec.ofInt 64 0 ||| BitVec.ofInt 64 (n : Int)).toNat = n
  rw [show BitVec.ofInt 64 0 = 0#64 from rfl, BitVec.zero_or]
  rw [BitVec.toNat_ofInt]
  omega
 rw [e1]
 exact Qa _ (by omega) (by omega)
theorem QeE {s : ByteArray} {p : Nat} (h : p < s.size) : getS s p 1 = Qa8 s p := by
 unfold getS
 rw [if_neg (by omega)]
 show orW (shW 0) (Qa8 s (p + (1 - 1 - 0))) = _
 exact Quv (Qk1 s p)
theorem Qq1 {r : Rec} (h : Qm r = 0) : Qa8 (encR r) 3 = r.payload.size := by
 obtain ⟨_, _, h3⟩ := QaY h
 have e : (encR r).data.toList.getD 3 0 = Qc6 (.int .u8 (putB r.payload.size 0)) := by
  rw [show encR r = QV r ++ putS (IntKind.i64.wrap (addU 0 (QV r))) 4 from if_pos h]
  unfold QV
  simp only [ByteArray.data_append, Array.toList_append, List.append_assoc]
  rfl
 unfold Qa8
 rw [e]
 have hp : putB r.payload.size 0 = r.payload.size := by
  show IntKind.u8.wrap ((r.payload.size : Int).fdiv 1) = _
  rw [Int.fdiv_one, IntKind.wrap_u8]
  omega
 rw [hp]
 have hc : (Qc6 (.int .u8 (r.payload.size : Int))).toNat = r.payload.size := by
  generalize hn : r.payload.size = n at *
  have : n ≤ 20 := h3
  unfold Qc6
  simp
  omega
 rw [hc]
 exact Qa _ (by omega) (by omega)
set_option maxHeartbeats 4000000 in
theorem QmF (s : ByteArray) : PS 174 [.c (.str s)] (.t [.inr (decR s).cells, .inl (.int .i64 (decE s))]) := by
 refine PSpec.rm ?_
 refine ov hΓ Tryz.func174 70 0 [.cell 2 109, .tmp 3] Tryz.ntmps174 Tryz.results174 ?_
 refine Go1 fun _h=>?_
 by_cases h0 : s.size = 40
 ·refine Br.no (by simp [h0]) (Go0 ?_)
  have hb : s.size ≤ 10000000 := by omega
  refine CallN.pureA Qgz (Qgh s 36 4 (by decide) (by decide) (by decide) hb ) (Go0 ?_)
  refine CallN.pureA Qgo (Qha (s.extract 0 36) (by rw [ByteArray.size_extract]; omega) ) (Go0 ?_)
  by_cases h1 : getS s 36 4 = sumW (s.extract 0 36)
  ·refine Br.no (by rw [h1]; exact bne_self_eq_false _) (Go0 ?_)
   have e3 : IntKind.i64.wrap ((s.data.toList.getD 3 0).toNat : Int) = getS s 3 1 := (QeE (by omega)).symm
   have e2 : IntKind.i64.wrap ((s.data.toList.getD 2 0).toNat : Int) = getS s 2 1 := (QeE (by omega)).symm
   have e14 : IntKind.i64.wrap ((s.data.toList.getD 14 0).toNat : Int) = getS s 14 1 := (QeE (by omega)).symm
   have g3 : 0 ≤ getS s 3 1 ∧ getS s 3 1 < 256 := by rw [QeE (by omega)]; exact Qk1 s 3
   have t3 : Int.toNat 3 = 3 := rfl
   have t2 : Int.toNat 2 = 2 := rfl
   have t14 : Int.toNat 14 = 14 := rfl
   rw [t3, e3]
   by_cases h5 : getS s 3 1 ≤ 20
   ·refine Br.no (decide_eq_false (by omega)) ?_
    have w3 := Qa (16 + getS s 3 1) (by omega) (by omega)
    refine Go0 ?_
    refine Dr.mk hΓ hMix (by kernel_rfl) (Go0 ?_)
    rw [w3]
    refine Go0 ?_
    refine CallP.auto QnR (QnC (s.extract 16 (16 + getS s 3 1).toNat) (by rw [ByteArray.size_extract]; omega) ) (Go0 ?_)
    refine CallN.pureA Qgz (Qgh s 4 4 (by decide) (by decide) (by decide) hb ) (Go0 ?_)
    refine CallN.pureA Qgz (Qgh s 8 6 (by decide) (by decide) (by decide) hb ) (Go0 ?_)
    rw [t2, t14, e2, e14]
    have er : rawR s = ⟨getS s 2 1, getS s 4 4, getS s 8 6, getS s 14 1, s.extract 16 (16 + getS s 3 1).toNat⟩ := by
     unfold rawR
     rw [Int.min_eq_left h5]
    refine CallN.pureA Qeo (Qez ⟨getS s 2 1, getS s 4 4, getS s 8 6, getS s 14 1, s.extract 16 (16 + getS s 3 1).toNat⟩ ) ?_
    rw [← er]
    refine Go0 ?_
    by_cases h2 : Qm (rawR s) = 0 ∧ encR (rawR s) = s
    ·refine Br.no (by rw [h2.1, h2.2]; simp) (Go0 ?_)
     have e : decE s = 0 := by unfold decE; rw [if_pos h0, if_pos h1, if_pos h2]
     rw [show decR s = rawR s from if_pos e, e, er]
     exact RM.i0
    ·refine Br.yes (by
      refine Decidable.byContradiction fun z => h2 ?_
      simp at z
      exact z) ?_
     refine Go0 ?_
     have e : decE s = 3 := by unfold decE; rw [if_pos h0, if_pos h1, if_neg h2]
     rw [show decR s = default from if_neg (by rw [e]; decide), e]
     exact RM.i0
   ·refine Br.yes (decide_eq_true (by omega)) (Go0 ?_)
    have e : decE s = 3 := by
     unfold decE
     rw [if_pos h0, if_pos h1, if_neg]
     rintro ⟨a, b⟩
     have := Qq1 a
     rw [b, ← QeE (by omega)] at this
     have hp : (rawR s).payload.size ≤ 20 := (QaY a).2.2
     omega
    rw [show decR s = default from if_neg (by rw [e]; decide), e]
    exact RM.i0
  ·refine Br.yes (bne_iff_ne.2 h1) (Go0 ?_)
   have e : decE s = 4 := by unfold decE; rw [if_pos h0, if_neg h1]
   rw [show decR s = default from if_neg (by rw [e]; decide), e]
   exact RM.i0
 ·refine Br.yes (by simp; omega) (Go0 ?_)
  have e : decE s = 2 := if_neg h0
  rw [show decR s = default from if_neg (by rw [e]; decide), e]
  exact RM.i0
theorem Qnf : HB 174 := hB Tryz.func174
theorem Qro {x : Int} (h0 : 0 ≤ x) (h1 : x < 4294967296) : notU (notU x) = x := by
 obtain ⟨a, rfl⟩ : ∃ a : Nat, x = a := ⟨x.toNat, by omega⟩
 have ha : a < 4294967296 := by omega
 unfold notU
 have e := QeD (a := 4294967295) (b := a) (by decide) ha
 rw [show ((4294967295 : Nat) : Int) = 4294967295 from rfl] at e
 rw [e]
 have e2 := QeD (a := 4294967295) (b := 4294967295 ^^^ a) (by decide) (Qgb (by decide) ha)
 rw [show ((4294967295 : Nat) : Int) = 4294967295 from rfl] at e2
 rw [e2, ← Nat.xor_assoc, Nat.xor_self, Nat.zero_xor]
theorem Qn1 {a b : ByteArray} {k : Nat} (h : k < a.size) : Qav (a ++ b) k = Qav a k := by
 unfold Qav
 rw [ByteArray.data_append, Array.toList_append]
 have : k < a.data.toList.length := h
 simp [List.getD, List.getElem?_append_left this]
theorem Qnh {a b : ByteArray} {k : Nat} : Qav (a ++ b) (a.size + k) = Qav b k := by
 unfold Qav
 rw [ByteArray.data_append, Array.toList_append]
 have e : a.size = a.data.toList.length := rfl
 rw [e]
 simp [List.getD, List.getElem?_append_right]
theorem Qmb {s : Int} {a b : ByteArray} : ∀ k, k ≤ a.size → Q1 s (a ++ b) k = Q1 s a k
 | 0, _ => rfl
 | k + 1, h => by
  show QaX QaL 8 (xorU (Q1 s (a ++ b) k) (Qav (a ++ b) k)) = QaX QaL 8 (xorU (Q1 s a k) (Qav a k))
  rw [Qmb k (by omega), Qn1 (by omega)]
theorem QkZ {s : Int} {a b : ByteArray} : ∀ k, Q1 s (a ++ b) (a.size + k) = Q1 (addU s a) b k
 | 0 => by
  show Q1 s (a ++ b) a.size = notU (notU (Q1 s a a.size))
  have := QhL s a a.size
  rw [Qro this.1 this.2, Qmb _ (Nat.le_refl _)]
 | k + 1 => by
  show QaX QaL 8 (xorU (Q1 s (a ++ b) (a.size + k)) (Qav (a ++ b) (a.size + k))) = QaX QaL 8 (xorU (Q1 (addU s a) b k) (Qav b k))
  rw [QkZ k, Qnh]
theorem addU_append {s : Int} {a b : ByteArray} : addU s (a ++ b) = addU (addU s a) b := by
 show notU (Q1 s (a ++ b) (a ++ b).size) = notU (Q1 (addU s a) b b.size)
 rw [ByteArray.size_append, QkZ]
theorem Qsi (l : List ByteArray) (k : Nat) : addU (addU 0 (Q8 l k)) ((l.getD k ByteArray.empty).extract 0 36) = addU 0 (Q8 l (k + 1)) := addU_append.symm
def Qph (l : List ByteArray) (k : Nat) : List O := [.vr [.int .u32 (addU 0 (Q8 l k))], .vr [.int .i64 (QaN l k)], .vr [.int .i64 (Qbi l k)]]
theorem Qql (s : ByteArray) (r : Rec) (sum lo hi : Int) (hs : 36 ≤ s.size) (hs2 : s.size ≤ 1000) : CS 248 [.c (.str s), .a r.cells, .c (.ptr 0 0), .c (.ptr 1 0), .c (.ptr 2 0)] [.vr [.int .u32 sum], .vr [.int .i64 lo], .vr [.int .i64 hi]] fun x H => x = .t [] ∧ H = [.vr [.int .u32 (addU sum (s.extract 0 36))], .vr [.int .i64 (min lo r.version)], .vr [.int .i64 (max hi r.version)]] := by
 refine CSpec.rm ?_
 refine ov0 hΓ Tryz.func248 19 3 [] Tryz.ntmps248 Tryz.results248 ?_
 refine Dr.mk hΓ hMix (by kernel_rfl) (Go0 ?_)
 refine CallP.auto QkX (Qk8 sum (s.extract 0 36) (by rw [ByteArray.size_extract]; omega) ) (Go0 ?_)
 refine Dr.mkE hΓ hMix [] [(4, 8), (5, 8), (6, 8), (7, 8)] (by kernel_rfl) (Go0 ?_)
 refine ⟨_, _, ?_, rfl, rfl⟩
 exact RM.w0
theorem Qqf : HB 248 := hB Tryz.func248
def okN (l : List ByteArray) : Nat := l.findIdx fun s => decide (blkE s ≠ 0)
theorem Qjc {l : List ByteArray} {k : Nat} (hk : k ≤ l.length) (h : ∀ i, i < k → blkE (l.getD i ByteArray.empty) = 0) (he : k = l.length ∨ blkE (l.getD k ByteArray.empty) ≠ 0) : okN l = k := by
 unfold okN
 rcases Nat.lt_or_ge k l.length with q | q
 ·refine (List.findIdx_eq q).2 ⟨?_, fun j hj => ?_⟩
  ·have := he.resolve_left (by omega)
   simpa [List.getD, q] using this
  ·have := h j hj
   have hj2 : j < l.length := by omega
   simpa [List.getD, hj2] using this
 ·have hk : k = l.length := by omega
  subst hk
  refine List.findIdx_eq_length.2 fun x hx => ?_
  obtain ⟨i, hi, rfl⟩ := List.getElem_of_mem hx
  have := h i hi
  simpa [List.getD, hi] using this
theorem Qh7 {l : List ByteArray} : ∀ {k : Nat}, (∀ i, i < k → blkE (l.getD i ByteArray.empty) = 0) → QY l k = 0
 | 0, _ => rfl
 | k + 1, h => by
  show (if QY l k = 0 then blkE (l.getD k ByteArray.empty) else QY l k) = 0
  rw [if_pos (Qh7 fun i hi => h i (by omega))]
  exact h k (by omega)
theorem Qh1 {l : List ByteArray} {k : Nat} (h : ∀ i, i < k → blkE (l.getD i ByteArray.empty) = 0) (hk : blkE (l.getD k ByteArray.empty) ≠ 0) : ∀ n, k < n → QY l n = blkE (l.getD k ByteArray.empty)
 | 0, hn => by omega
 | n + 1, hn => by
  show (if QY l n = 0 then blkE (l.getD n ByteArray.empty) else QY l n) = _
  by_cases e : k = n
  ·subst e
   rw [if_pos (Qh7 h)]
  ·have := Qh1 h hk n (by omega)
   rw [this, if_neg hk]
theorem Qq8 {f : Fn} {n : Nat} (h : 3 ≤ n := by decide) : WC idN n (.fn f 3 fun j => .ptr j 0) (.fn f 3 fun j => .ptr j 0) := ⟨rfl, rfl, fun j hj => ⟨rfl, rfl, by omega⟩⟩
set_option maxHeartbeats 4000000 in
theorem Qse (l : List ByteArray) (hl : l.length ≤ 1000) : CS 247 [.c (Qay l), .c (.fn (.func 248) 3 fun j => .ptr j 0)] (Qph l 0) fun x H => x = .c (.int .i64 (QY l l.length)) ∧ H = Qph l (okN l) := by
 refine CSpec.rm ?_
 refine ov hΓ Tryz.func247 36 3 [.tmp 4] Tryz.ntmps247 Tryz.results247 ?_
 refine Go1 fun _h=>?_
 refine Lp.mkK hΓ (ι := Nat) [1, 9, 10] (fun k => [(11, .c (.int .i64 k))]) (fun k => Qph l k) (fun k => k ≤ l.length ∧ ∀ i, i < k → blkE (l.getD i ByteArray.empty) = 0) (fun k => l.length - k) 0 ⟨Nat.zero_le _, fun i hi => absurd hi (Nat.not_lt_zero _)⟩ ?_ ?_
 ·refine Mv.k1 ?_
  ·exact Qq8 (Nat.le_refl 3)
 ·rintro k ⟨hk, hk2⟩
  refine Go0 ?_
  refine Br.of (fun h1=>Go0 ?_) (fun h1=>Go0 ?_)
  ·have hkl : k < l.length := by omega
   have w0 := Qa (↑k + 1) (by omega) (by omega)
   refine CallN.pureA Qnf (QmF (l.getD k ByteArray.empty) ) (Go0 ?_)
   by_cases h2 : decE (l.getD k ByteArray.empty) = 0
   ·refine Br.no (by rw [h2]; rfl) (Go0 ?_)
    have hsz : (l.getD k ByteArray.empty).size = 40 := by
     unfold decE at h2
     split at h2
     ·assumption
     ·cases h2
    by_cases h3 : QbB (decR (l.getD k ByteArray.empty)) = true
    ·have hb : blkE (l.getD k ByteArray.empty) = 0 := by unfold blkE; rw [if_pos h2, if_pos h3]
     refine Br.no (by
      unfold QbB at h3
      rw [decide_eq_true_eq] at h3
      rcases h3 with q | q <;> rw [q] <;> rfl) ?_
     refine Go0 ?_
     refine CallN.autoQ [0, 1, 2] Qqf (Qql (l.getD k ByteArray.empty) (decR (l.getD k ByteArray.empty)) (addU 0 (Q8 l k)) (QaN l k) (Qbi l k) (by omega) (by omega)) (Go0 ?_)
     refine ⟨k + 1, ⟨by omega, Q0 hk2 hb⟩, by omega, ?_⟩
     rw [w0, Qsi l k]
     refine Mv.k1 ?_
     ·exact Qq8 (Nat.le_refl 3)
    ·have hb : blkE (l.getD k ByteArray.empty) = 3 := by unfold blkE; rw [if_pos h2, if_neg h3]
     refine Br.yes (by
      unfold QbB at h3
      rw [decide_eq_true_eq] at h3
      have q1 : (decR (l.getD k ByteArray.empty)).kind ≠ 1 := fun e => h3 (Or.inl e)
      have q2 : (decR (l.getD k ByteArray.empty)).kind ≠ 2 := fun e => h3 (Or.inr e)
      rw [bne_iff_ne.2 q1, bne_iff_ne.2 q2]; rfl) ?_
     refine Go0 ?_
     rw [Qh1 hk2 (by rw [hb]; decide) l.length hkl, hb, Qjc hk hk2 (Or.inr (by rw [hb]; decide))]
     refine ⟨_, _, ?_, rfl, rfl⟩
     exact RM.w0
   ·have hb : blkE (l.getD k ByteArray.empty) = decE (l.getD k ByteArray.empty) := if_neg h2
    refine Br.yes (by simpa using h2) (Go0 ?_)
    rw [Qh1 hk2 (by rw [hb]; exact h2) l.length hkl, hb, Qjc hk hk2 (Or.inr (by rw [hb]; exact h2))]
    refine ⟨_, _, ?_, rfl, rfl⟩
    exact RM.w0
  ·have : k = l.length := by omega
   subst this
   rw [Qh7 hk2, Qjc hk hk2 (Or.inl rfl)]
   refine ⟨_, _, ?_, rfl, rfl⟩
   exact RM.w0
theorem QrC : HB 247 := hB Tryz.func247
theorem QpA (l : List ByteArray) (hl : l.length ≤ 1000) : CS 247 [.c (Qay l), .c (.fn (.func 248) 3 fun j => .ptr j 0)] [.vr [.int .u32 (addU 0 ByteArray.empty)], .vr [.int .i64 1099511627776], .vr [.int .i64 0]] fun x H => x = .c (.int .i64 (QY l l.length)) ∧ H = [.vr [.int .u32 (addU 0 (Q8 l (okN l)))], .vr [.int .i64 (QaN l (okN l))], .vr [.int .i64 (Qbi l (okN l))]] := Qse l hl
theorem Qt6 {ρ : Nat → Nat} {f : Fn} {g : Nat → C} {n : Nat} (hn : 3 ≤ n) (h : ∀ j, j < 3 → g j = .ptr (ρ j) 0) : WC ρ n (.fn f 3 g) (.fn f 3 fun j => .ptr j 0) := ⟨rfl, rfl, fun j hj => by rw [h j hj]; exact ⟨rfl, rfl, by omega⟩⟩
theorem QtL {l : List ByteArray} (h : QY l l.length = 0) : okN l = l.length := Qjc (Nat.le_refl _) (Qcj h) (Or.inl rfl)
set_option maxHeartbeats 4000000 in
theorem Qp1 (l : List ByteArray) : PS 186 [.c (Qay l)] (.t [.inr (QU l).cells, .inl (.int .i64 (QaF l))]) := by
 refine PSpec.rm ?_
 refine ov hΓ Tryz.func186 47 0 [.cell 2 109, .tmp 3] Tryz.ntmps186 Tryz.results186 ?_
 refine Go1 fun _h=>?_
 by_cases h0 : l.length = 0 ∨ 64 < l.length
 ·refine Br.yes (by simp [-List.length_eq_zero_iff, -List.getD_eq_getElem?_getD]; omega) ?_
  refine Go0 ?_
  have e : QaF l = 19 := if_pos h0
  rw [show QU l = default from if_neg (by rw [e]; decide), e]
  exact RM.i0
 ·refine Br.no (by simp [-List.length_eq_zero_iff, -List.getD_eq_getElem?_getD]; omega) ?_
  refine Go0 ?_
  refine CallN.pureA Qgo (Qha ByteArray.empty (by decide) ) (Go0 ?_)
  refine CallN.autoQ [1, 2, 3] QrC (QpA l (by omega)) ?_ (ha := WB.cons (WS.c (WC.strs rfl fun _ _ => rfl)) (WB.cons (WS.c (Qt6 (Nat.le_refl 3) fun j hj => by
   match j, hj with
   | 0, _ => rfl
   | 1, _ => rfl
   | 2, _ => rfl)) WB.nil))
  refine Go0 ?_
  by_cases h1 : QY l l.length = 0
  ·have e : QaF l = 0 := by unfold QaF; rw [if_neg h0, h1]
   have hf := Qcj h1
   rw [QtL h1]
   have hd : ∀ i, i < l.length → decE (l.getD i ByteArray.empty) = 0 := fun i hi => by
    have := hf i hi
    unfold blkE at this
    by_cases q : decE (l.getD i ByteArray.empty) = 0
    ·exact q
    ·rw [if_neg q] at this; exact this
   have hb := QcY l l.length hd
   have hr := QcG l l.length hd
   refine Br.no (by rw [h1]; rfl) (Go0 ?_)
   refine CallN.pureA Qg8 (Qhg (QaN l l.length) 6 (by omega) (by omega) (by omega) (by omega) ) (Go0 ?_)
   have hs := Qfq 0 (Q8 l l.length)
   have hw : IntKind.i64.wrap (addU 0 (Q8 l l.length)) = addU 0 (Q8 l l.length) := Qa _ (by omega) (by omega)
   refine CallN.pureA Qg8 (Qhg (sumW (Q8 l l.length)) 4 (by omega) (by omega) (by unfold sumW; rw [hw]; omega) (by unfold sumW; rw [hw]; exact hs.2) ) (Go1 fun _h=>?_)
   have hp1 := QI (QaN l l.length) 6
   have hp2 := QI (sumW (Q8 l l.length)) 4
   refine Go0 ?_
   rw [show QU l = ⟨3, l.length, Qbi l l.length, 0, putS (QaN l l.length) 6 ++ putS (sumW (Q8 l l.length)) 4⟩ from if_pos e, e]
   exact RM.i0
  ·have e : QaF l = QY l l.length := by unfold QaF; rw [if_neg h0]
   have e2 : QU l = default := if_neg (by rw [e]; exact h1)
   refine Br.yes (by simpa using h1) (Go0 ?_)
   rw [e2, e]
   exact RM.i0
theorem Qpd : HB 186 := hB Tryz.func186
theorem Qbu (d : Dev) (hd : d.small) : CS 162 [d.s] [] fun s H => s = .a [.int .i64 d.size, .int .i64 d.maxOpen, .int .i64 d.maxActive, .sl 0 3 d.zones.length d.zones.length true] ∧ H = [.arr 76 3 d.zones.length (Qn d.zones)] := by
 refine CSpec.rm ?_
 refine ov hΓ Tryz.func162 45 0 [.cell 2 29] Tryz.ntmps162 Tryz.results162 ?_
 refine Go1 fun _h=>?_
 have hz := hd.z
 refine Need.mk (by simp only []; omega) (Go1 fun _h=>?_)
 have hn : (d.zones.length : Int).toNat = d.zones.length := by simp
 refine Lp.mk hΓ (ι := Nat) (fun k => [(20, .c (.int .i64 k)), (19, .c (.int .i64 d.zones.length)), (18, .c (Qca d.zones)), (2, .c (.ptr 1 0)), (3, .c (.ptr 2 0))])
  (fun k => [.vr d.cells, .vr dev0.cells, .vr [.int .i64 d.size, .int .i64 d.maxOpen, .int .i64 d.maxActive, .sl 3 3 d.zones.length d.zones.length true], .arr 76 3 d.zones.length (Qbk d.zones k)]) (fun k => k ≤ d.zones.length) (fun k => d.zones.length - k) 0 (Nat.zero_le _) ?_ ?_
 ·refine Mv.mk' 4 rfl ⟨O.wk.vr (Qv rfl), O.wk.vr ⟨wkC.imm rfl, wkC.imm rfl, wkC.imm rfl, wkC.nil rfl, trivial⟩, O.wk.vr ⟨wkC.imm rfl, wkC.imm rfl, wkC.imm rfl, wkC.sl (by decide) hn hn (fun _ => rfl), trivial⟩, O.wk.arr hn (fun i hi j hj => wkC.of_eq (QhS _ _ _ _) ?_), trivial⟩
   ⟨wkS.imm rfl, wkS.imm rfl, wkS.imm rfl, wkS.c (wkC.ptr (by decide)), wkS.c (wkC.ptr (by decide)), trivial⟩ (Nat.zero_le _)
  simp only [Qd6, Qbk]
  rw [if_pos (by omega), if_neg (by omega)]
  rfl
 ·intro k hk
  refine Go0 ?_
  refine Br.of (fun h=>Go0 ?_) (fun h=>Go0 ?_)
  ·have hlt : k < d.zones.length := by omega
   have hsec := hd.s k
   refine Dr.mk hΓ hMix (by kernel_rfl) (Go0 ?_)
   refine Dr.mk hΓ hMix (by kernel_rfl) (Go0 ?_)
   have hkn : (k : Int).toNat = k := by simp
   refine Frc.mk (.c (.sl 5 1 (d.zones.getD k default).sectors.length (d.zones.getD k default).sectors.length true)) ?_ ?_
   ·simp [updG, lget, getL, QcW]
   refine Go0 ?_
   have w0 := Qa (↑k + 1) (by omega) (by omega)
   refine ⟨k + 1, by omega, by omega, (Mv.fz 5 rfl (Nat.zero_le _) ?_).trans (Mv.mk' 4 rfl ⟨O.wk.vr (Qv rfl), O.wk.vr (Qv rfl), O.wk.vr ⟨wkC.imm rfl, wkC.imm rfl, wkC.imm rfl, wkC.sl (by decide) rfl rfl (fun e => e), trivial⟩, O.wk.arr rfl (fun i hi j hj => ?_), trivial⟩
    ⟨wkS.c (wkC.int (by rw [w0]; rfl)), wkS.imm rfl, wkS.imm rfl, wkS.c (wkC.ptr (by decide)), wkS.c (wkC.ptr (by decide)), trivial⟩ (Nat.zero_le _))⟩
   ·intro i hi j hj
    simp only [Int.toNat_natCast] at hi ⊢
    simp only [Qd6]
    rw [if_pos (by omega)]
    rfl
   ·rw [QX, hkn]
    by_cases c : i = k ∧ j = 2
    ·rw [if_pos (by simpa using c)]
     obtain ⟨rfl, rfl⟩ := c
     have e : Qbk d.zones (i + 1) i 2 = QlK (d.zones.getD i default).sectors := by
      simp only [Qbk]
      rw [if_pos (by omega)]
      rfl
     rw [e]
     refine wkC.fz rfl (by simp) (fun a ha b hb => leF.of_eq ?_) (fun _ => ⟨rfl, rfl⟩)
     simp only [Int.toNat_natCast] at ha ⊢
     simp only [Qd6]
     rw [if_pos (by omega)]
    ·rw [if_neg (by simpa using c), QnA]
     refine wkC.of_eq (QhS _ _ _ _) ?_
     simp only [Qbk]
     by_cases c1 : i < k
     ·rw [if_pos c1, if_pos (by omega)]
     ·rw [if_neg c1]
      by_cases c2 : i = k
      ·rw [if_pos (by omega), Qs4 _ _ (by omega)]
      ·rw [if_neg (by omega)]
  ·have : k = d.zones.length := by omega
   subst this
   refine ⟨_, _, RM.ren (fun _ => 3) 1 rfl ⟨?_, ?_⟩ ?_, rfl, rfl⟩
   ·intro i o' hi
    match i with
    | 0 =>
     simp only [getL, Option.some.injEq] at hi
     subst hi
     exact ⟨_, rfl, O.wk.arr rfl fun i hi j hj => wkC.of_eq (QT _ _ _) (QnQ _ _ _ hi)⟩
    | i + 1 => simp [getL] at hi
   ·intro i j hi hj _
    simp only [List.length_cons, List.length_nil] at hi hj
    omega
   ·exact wkS.a ⟨wkC.imm rfl, wkC.imm rfl, wkC.imm rfl, ⟨rfl, rfl, rfl, rfl, by decide, fun e => e⟩, trivial⟩
theorem Qbl : HB 162 := hB Tryz.func162
theorem Qqp (d : Dev) (zone : Int) : CS 161 [d.s, .c (.int .i64 zone)] [] (Qfs d zone) := by
 refine CSpec.rm ?_
 refine ov hΓ Tryz.func161 33 0 [.cell 4 29, .tmp 5] Tryz.ntmps161 Tryz.results161 ?_
 conv=>whnf
 refine CallN.pure Qef (Qd8 d ) (leA.refl rfl) rfl (Go0 ?_)
 have bad : ∀ (e : Int) (H : List O), QG d zone = e → e ≠ 0 → ∃ s' H'', RM 0 (.t [.inr d.cells, .inl (.int .i64 e)]) H s' H'' ∧ Qfs d zone s' H'' := by
  intro e H he hne
  refine ⟨_, [], RM.imm rfl (wkS.imm rfl), ?_⟩
  unfold Qfs
  rw [if_neg (by rw [he]; exact hne), he]
  exact ⟨rfl, rfl⟩
 refine Br.of (fun h1=>Go0 ?_) (fun h1=>Go0 ?_)
 ·exact bad _ _ (by simp only [QG]; rw [if_neg h1]) h1
 ·(first|refine Br.od (fun h2=>?_) (fun h2=>?_)|refine Br.mk (fun h2=>?_) (fun h2=>?_)<;>simp [-List.length_eq_zero_iff,-List.getD_eq_getElem?_getD] at h2)<;>(try simp only [Int.toNat_natCast] at h2)<;>(conv=>whnf)
  ·refine Go0 ?_
   have : decide (0 ≤ zone ∧ zone < d.zones.length) = false := by simp only [decide_eq_false_iff_not]; omega
   exact bad _ _ (by simp only [QG]; rw [if_pos h1, this]; rfl) (by decide)
  ·refine Go0 ?_
   have hz : decide (0 ≤ zone ∧ zone < d.zones.length) = true := by simp only [decide_eq_true_eq]; omega
   refine Br.of (fun h3=>Go0 ?_) (fun h3=>Go0 ?_)
   ·exact bad _ _ (by simp only [QG]; rw [if_pos h1, hz, if_pos rfl, if_pos h3]) (by decide)
   ·have he : QG d zone = 0 := by simp only [QG]; rw [if_pos h1, hz, if_pos rfl, if_neg h3]
    refine CallN.opens Qbl (Qbu d (check_ok.1 h1).small) (leA.refl rfl) ?_
    rintro s Hc ⟨rfl, rfl⟩
    refine ⟨.a (d.own 2), [.vr d.cells, .vr [.int .i64 0, .int .i64 0, .int .i64 0, .nils], .arr 76 3 d.zones.length (Qn d.zones)], rfl, congrArg (fun g => [O.vr d.cells, O.vr [.int .i64 0, .int .i64 0, .int .i64 0, .nils], O.arr 76 3 d.zones.length g]) (Qdt _ _), ?_⟩
    refine Go0 ?_
    refine ⟨.t [.inr (d.own 0), .inl (.int .i64 0)], [.arr 76 3 d.zones.length (Qn d.zones)], RM.ren1 2 rfl rfl (fun i hi j hj => wkC.imm (QT _ _ _)) (wkS.t ⟨⟨wkC.imm rfl, wkC.imm rfl, wkC.imm rfl, wkC.own rfl rfl (fun e => e), trivial⟩, wkC.imm rfl, trivial⟩), ?_⟩
    unfold Qfs
    rw [if_pos he]
    exact ⟨rfl, rfl⟩
theorem Qp9 : HB 161 := hB Tryz.func161
theorem Qrp (l : List Zone) (i : Nat) (hi : i < l.length) : CS 260 [.c (.ep 0 i 0 l.length)] [.arr 76 3 l.length (Qn l)] fun s H => s = .t [] ∧ H = [.arr 76 3 l.length (Qn (QD l i))] := by
 refine CSpec.rm ?_
 refine ov0 hΓ Tryz.func260 14 1 [] Tryz.ntmps260 Tryz.results260 ?_
 refine Frc.mk (.c (QlK (l.getD i default).sectors)) (by simp only [QX]; rfl) (Go1 fun _h=>?_)
 refine Br.of (fun h=>Go0 ?_) (fun h=>Go0 ?_)
 ·refine ⟨.t [], [.arr 76 3 l.length (Qn (QD l i))], RM.wk 1 rfl ⟨O.wk.arr rfl (fun a ha b hb => wkC.of_eq (QT _ _ _) ?_), trivial⟩ (wkS.t trivial) (Nat.le_refl _), rfl, rfl⟩
  have h0 : (l.getD i default).sectors.length = 0 := by omega
  simp only [QX, QD, Qhx l i a b _ hi, QaM, if_pos h0]
  by_cases c : a = i
  ·subst c
   match b, hb with
   | 0, _ => simp [Zone.cellT]
   | 1, _ => simp [Zone.cellT, Qn]
   | 2, _ => simp [Zone.cellT, Qn]
  ·simp [c]
 ·refine ⟨.t [], [.arr 76 3 l.length (Qn (QD l i))], RM.wk 1 rfl ⟨O.wk.arr rfl (fun a ha b hb => wkC.of_eq (QT _ _ _) ?_), trivial⟩ (wkS.t trivial) (Nat.le_refl _), rfl, rfl⟩
  have h0 : ¬ (l.getD i default).sectors.length = 0 := by omega
  simp only [QX, QD, Qhx l i a b _ hi, QaM, if_neg h0]
  by_cases c : a = i
  ·subst c
   match b, hb with
   | 0, _ => simp [Zone.cellT]
   | 1, _ => simp [Zone.cellT, Qn]
   | 2, _ => simp [Zone.cellT, Qn]
  ·simp [c]
theorem Qrh : HB 260 := hB Tryz.func260
theorem Qrk (d : Dev) (hd : d.zones.length ≤ 10000000) (zone : Nat) (hz : zone < d.zones.length) : CS 197 [.a (d.own 0), .c (.int .i64 zone)] [.arr 76 3 d.zones.length (Qn d.zones)]
  fun s H => s = .c (.int .i64 (Qe d zone).1) ∧ ((Qe d zone).1 = 0 → H = [.arr 76 3 d.zones.length (Qn (Qe d zone).2)]) ∧ ∃ g, H = [.arr 76 3 d.zones.length g] := by
 refine CSpec.rm ?_
 refine ov hΓ Tryz.func197 63 1 [.tmp 4] Tryz.ntmps197 Tryz.results197 ?_
 conv=>whnf
 refine CallN.reads Qdu (QdE d) (QmS 0 rfl rfl) rfl ?_
 ·refine Go0 ?_
  refine Br.of (fun h1=>Go0 ?_) (fun h1=>Go0 ?_)
  ·have s8 : Ql d.zones = d.zones.length → Qe d zone = (8, d.zones) := by
    intro e
    simp only [Qe]
    rw [if_pos (by omega), if_neg (by omega)]
   have s9 : Ql d.zones < d.zones.length → Qe d zone = if ((QD d.zones (Ql d.zones)).getD zone default).state ≠ 3 ∧ d.maxActive ≤ Qi (QD d.zones (Ql d.zones)) then (9, QD d.zones (Ql d.zones)) else (0, QD d.zones (Ql d.zones)) := by
    intro e
    simp only [Qe]
    rw [if_pos (by omega), if_pos e]
   refine Lp.mk hΓ (ι := Nat × Int) (fun k => [(24, .c (.int .i64 k.1)), (23, .c (.int .i64 d.zones.length)), (22, .c (.sl 0 3 d.zones.length d.zones.length true)), (7, .c (.int .i64 k.2)), (4, .c (.int .i64 0)), (2, .c (.ptr 1 0)), (1, .c (.int .i64 zone))])
    (fun _ => [.arr 76 3 d.zones.length (Qn d.zones), .vr (d.own 0)]) (fun k => k.1 ≤ d.zones.length ∧ ((k.2 = -1 ∧ ∀ i, i < k.1 → (d.zones.getD i default).state ≠ 1) ∨ (k.2 = Ql d.zones ∧ Ql d.zones < k.1))) (fun k => d.zones.length - k.1) (0, -1) ⟨Nat.zero_le _, .inl ⟨rfl, fun i hi => by omega⟩⟩ ?_ ?_
   ·exact Mv.mk' 2 rfl ⟨O.wk.arr rfl (fun a ha b hb => wkC.imm (QT _ _ _)), O.wk.vr ⟨wkC.imm rfl, wkC.imm rfl, wkC.imm rfl, wkC.sl (by decide) rfl rfl (fun e => e), trivial⟩, trivial⟩
     ⟨wkS.imm rfl, wkS.imm rfl, wkS.c (wkC.sl (by decide) rfl rfl (fun e => e)), wkS.imm rfl, wkS.imm rfl, wkS.c (wkC.ptr (by decide)), wkS.imm rfl, trivial⟩ (by decide)
   ·rintro ⟨k, a⟩ ⟨hk, hka⟩
    simp only at hk hka
    refine Go0 ?_
    refine Br.of (fun h=>Go0 ?_) (fun h=>Go0 ?_)
    ·have hlt : k < d.zones.length := by omega
     refine Frc.mk _ rfl (Go0 ?_)
     have w0 := Qa (↑k + 1) (by omega) (by omega)
     (first|refine Br.od (fun h2=>?_) (fun h2=>?_)|refine Br.mk (fun h2=>?_) (fun h2=>?_)<;>simp [-List.length_eq_zero_iff,-List.getD_eq_getElem?_getD] at h2)<;>(try simp only [Int.toNat_natCast] at h2)<;>(conv=>whnf)
     ·refine Go0 ?_
      have ha : Ql d.zones = k := by
       refine Qdc _ _ hlt ?_ h2.2
       rcases hka with ⟨_, hq⟩ | ⟨hq, _⟩
       ·exact hq
       ·omega
      refine ⟨(k + 1, (k : Int)), ⟨by simp only; omega, .inr ⟨by simp only; omega, by simp only; omega⟩⟩, by simp only; omega, Mv.mk' 2 rfl ⟨O.wk.arr rfl (fun a ha b hb => wkC.imm (QT _ _ _)), O.wk.vr ⟨wkC.imm rfl, wkC.imm rfl, wkC.imm rfl, wkC.sl (by decide) rfl rfl (fun e => e), trivial⟩, trivial⟩
       ⟨wkS.c (wkC.int (by rw [w0]; rfl)), wkS.imm rfl, wkS.c (wkC.sl (by decide) rfl rfl (fun e => e)), wkS.imm rfl, wkS.imm rfl, wkS.c (wkC.ptr (by decide)), wkS.imm rfl, trivial⟩ (by decide)⟩
     ·refine Go0 ?_
      refine ⟨(k + 1, a), ⟨by simp only; omega, ?_⟩, by simp only; omega, Mv.mk' 2 rfl ⟨O.wk.arr rfl (fun a ha b hb => wkC.imm (QT _ _ _)), O.wk.vr ⟨wkC.imm rfl, wkC.imm rfl, wkC.imm rfl, wkC.sl (by decide) rfl rfl (fun e => e), trivial⟩, trivial⟩
       ⟨wkS.c (wkC.int (by rw [w0]; rfl)), wkS.imm rfl, wkS.c (wkC.sl (by decide) rfl rfl (fun e => e)), wkS.imm rfl, wkS.imm rfl, wkS.c (wkC.ptr (by decide)), wkS.imm rfl, trivial⟩ (by decide)⟩
      rcases hka with ⟨hq1, hq2⟩ | ⟨hq1, hq2⟩
      ·refine .inl ⟨hq1, fun i hi => ?_⟩
       by_cases c : i = k
       ·subst c; exact h2 (by omega)
       ·exact hq2 i (by omega)
      ·exact .inr ⟨hq1, by simp only; omega⟩
    ·have : k = d.zones.length := by omega
     subst this
     refine Br.of (fun h3=>Go0 ?_) (fun h3=>Go0 ?_)
     ·have hr := s8 (Qdk _ (by
       rcases hka with ⟨_, hq⟩ | ⟨hq, _⟩
       ·exact hq
       ·omega))
      refine ⟨_, [.arr 76 3 d.zones.length (Qn d.zones)], RM.wk 1 rfl ⟨O.wk.arr rfl (fun a ha b hb => wkC.imm (QT _ _ _)), trivial⟩ (wkS.imm rfl) (Nat.le_refl _), ?_, ?_, ?_⟩
      ·rw [hr]
      ·rw [hr]; intro e; cases e
      ·exact ⟨_, rfl⟩
     ·obtain ⟨ha, hlt⟩ : a = Ql d.zones ∧ Ql d.zones < d.zones.length := by
       rcases hka with ⟨hq, _⟩ | hq
       ·omega
       ·exact hq
      subst ha
      have hr0 := s9 hlt
      have hlen := Qga d.zones (Ql d.zones)
      refine CallN.frame1 Qrh (Qrp d.zones (Ql d.zones) hlt) 0 rfl (fun i _ j _ => wkC.imm (QT _ _ _)) (wkA.cons (wkS.c (wkC.ep1 (by simp) rfl rfl)) wkA.nil) ?_
      ·rintro s Hc ⟨rfl, rfl⟩
       refine ⟨.t [], [.arr 76 3 d.zones.length (Qn (QD d.zones (Ql d.zones))), .vr (d.own 0)], rfl, congrArg (fun g => [O.arr 76 3 d.zones.length g, O.vr (d.own 0)]) (Qdt _ _), ?_⟩
       ·refine Go0 ?_
        refine CallN.reads Qdu (QdE { d with zones := (QD d.zones (Ql d.zones)) }) (QmS 0 rfl hlen.symm) rfl (Go0 ?_)
        refine Frc.mk _ rfl (Go0 ?_)
        (first|refine Br.od (fun h5=>?_) (fun h5=>?_)|refine Br.mk (fun h5=>?_) (fun h5=>?_)<;>simp [-List.length_eq_zero_iff,-List.getD_eq_getElem?_getD] at h5)<;>(try simp only [Int.toNat_natCast] at h5)<;>(conv=>whnf)
        ·refine Go0 ?_
         have hr : Qe d zone = (9, (QD d.zones (Ql d.zones))) := hr0 ▸ if_pos (by omega)
         refine ⟨_, [.arr 76 3 d.zones.length (Qn (QD d.zones (Ql d.zones)))], RM.wk 1 rfl ⟨O.wk.arr rfl (fun a ha b hb => wkC.imm (QT _ _ _)), trivial⟩ (wkS.imm rfl) (Nat.le_refl _), ?_, ?_, ?_⟩
         ·rw [hr]
         ·rw [hr]; intro e; cases e
         ·exact ⟨_, rfl⟩
        ·refine Go0 ?_
         have hr : Qe d zone = (0, (QD d.zones (Ql d.zones))) := hr0 ▸ if_neg (by omega)
         refine ⟨_, [.arr 76 3 d.zones.length (Qn (QD d.zones (Ql d.zones)))], RM.wk 1 rfl ⟨O.wk.arr rfl (fun a ha b hb => wkC.imm (QT _ _ _)), trivial⟩ (wkS.imm rfl) (Nat.le_refl _), ?_, ?_, ?_⟩
         ·rw [hr]
         ·rw [hr]; intro _; rfl
         ·exact ⟨_, rfl⟩
  ·have hr0 : Qe d zone = if (d.zones.getD zone default).state ≠ 3 ∧ d.maxActive ≤ Qi d.zones then (9, d.zones) else (0, d.zones) := by
    simp only [Qe]
    rw [if_neg (by omega)]
   refine CallN.reads Qdu (QdE { d with zones := d.zones }) (QmS 0 rfl rfl) rfl (Go0 ?_)
   refine Frc.mk _ rfl (Go0 ?_)
   (first|refine Br.od (fun h5=>?_) (fun h5=>?_)|refine Br.mk (fun h5=>?_) (fun h5=>?_)<;>simp [-List.length_eq_zero_iff,-List.getD_eq_getElem?_getD] at h5)<;>(try simp only [Int.toNat_natCast] at h5)<;>(conv=>whnf)
   ·refine Go0 ?_
    have hr : Qe d zone = (9, d.zones) := hr0 ▸ if_pos (by omega)
    refine ⟨_, [.arr 76 3 d.zones.length (Qn d.zones)], RM.wk 1 rfl ⟨O.wk.arr rfl (fun a ha b hb => wkC.imm (QT _ _ _)), trivial⟩ (wkS.imm rfl) (Nat.le_refl _), ?_, ?_, ?_⟩
    ·rw [hr]
    ·rw [hr]; intro e; cases e
    ·exact ⟨_, rfl⟩
   ·refine Go0 ?_
    have hr : Qe d zone = (0, d.zones) := hr0 ▸ if_neg (by omega)
    refine ⟨_, [.arr 76 3 d.zones.length (Qn d.zones)], RM.wk 1 rfl ⟨O.wk.arr rfl (fun a ha b hb => wkC.imm (QT _ _ _)), trivial⟩ (wkS.imm rfl) (Nat.le_refl _), ?_, ?_, ?_⟩
    ·rw [hr]
    ·rw [hr]; intro _; rfl
    ·exact ⟨_, rfl⟩
theorem Qsc : HB 197 := hB Tryz.func197
theorem Qe8 (d : Dev) (hd : d.small) (zone : Int) (s : ByteArray) : PS 113 [d.s, .c (.int .i64 zone), .c (.str s)] (Dev.out3 (Qf d zone s) (QA d zone s) (Qj d zone s)) := by
 refine PSpec.rm ?_
 refine ov hΓ Tryz.func113 116 0 [.cell 6 29, .tmp 7, .tmp 8] Tryz.ntmps113 Tryz.results113 ?_
 have bad : ∀ e, Qj d zone s = e → e ≠ 0 → Qf d zone s = d ∧ QA d zone s = 0 := by
  intro e h1 h2
  have h3 : ¬ Qj d zone s = 0 := by rw [h1]; exact h2
  exact ⟨by simp only [Qf, if_neg h3], by simp only [QA, if_neg h3]⟩
 conv=>whnf
 refine CallN.opens Qp9 (Qqp d zone) (leA.refl rfl) ?_
 rintro s0 Hc hq
 by_cases he : QG d zone = 0
 ·simp only [Qfs, if_pos he] at hq
  obtain ⟨rfl, rfl⟩ := hq
  obtain ⟨hok, hz0, hz1⟩ := QcA he
  have hk : zone.toNat < d.zones.length := by omega
  refine ⟨.t [.inr (d.own 2), .inl (.int .i64 0)], _, rfl, Qa2 _ _ _ _, ?_⟩
  have hch : check d = 0 := check_ok.2 hok
  have hrange : decide (0 ≤ zone ∧ zone < d.zones.length) = true := by simp only [decide_eq_true_eq]; omega
  have hst5 : ¬ (d.zones.getD zone.toNat default).state = 5 := by
   intro h5
   have : QG d zone = 6 := by simp only [QG, if_pos hch, hrange, if_pos, if_pos h5]
   rw [this] at he; cases he
  refine Go0 ?_
  refine Br.no rfl (Go0 ?_)
  refine CallG.pure Qef (fun _ => Qd8 d ) (fun _ => leA.refl rfl) rfl (Go0 ?_)
  refine Br.no rfl (Go1 fun _h=>?_)
  refine Br.of (fun h40=>Go0 ?_) (fun h40=>Go0 ?_)
  ·refine CallN.opens Qbl (Qbu d hd) (leA.refl rfl) ?_; rintro s Hc ⟨rfl, rfl⟩; refine ⟨_, _, rfl, Qa2 _ _ _ _, ?_⟩; conv=>whnf
   refine Go0 ?_
   have hE : Qj d zone s = 2 := by
    simp only [Qj, if_pos hch, hrange, if_pos]
    rw [if_neg (by omega)]
   obtain ⟨hD, hI⟩ := bad _ hE (by decide)
   rw [hD, hI, hE]
   exact RM.dev3 4 rfl rfl rfl rfl
  ·refine Br.no rfl (Go0 ?_)
   refine Frc.mk _ rfl (Go0 ?_)
   refine Br.of (fun h4=>Go0 ?_) (fun h4=>Go0 ?_)
   ·refine CallN.opens Qbl (Qbu d hd) (leA.refl rfl) ?_; rintro s Hc ⟨rfl, rfl⟩; refine ⟨_, _, rfl, Qa2 _ _ _ _, ?_⟩; conv=>whnf
    refine Go0 ?_
    have hE : Qj d zone s = 7 := by
     simp only [Qj, if_pos hch, hrange, if_pos]
     rw [if_pos (by omega), if_neg hst5, if_pos h4]
    obtain ⟨hD, hI⟩ := bad _ hE (by decide)
    rw [hD, hI, hE]
    exact RM.dev3 4 rfl rfl rfl rfl
   ·refine Frc.mk _ rfl (Go0 ?_)
    refine CallN.pure QhH (QhF _ ) (leA.refl rfl) rfl (Go0 ?_)
    have hm : (d.zones.getD zone.toNat default).sectors.length ≤ 10000000 := hd.s _
    refine Br.of (fun h3=>Go0 ?_) (fun h3=>Go0 ?_)
    ·have hE : Qj d zone s = (Qe d zone.toNat).1 := by
      simp only [Qj, if_pos hch, hrange, if_pos]
      rw [if_pos (by omega), if_neg hst5, if_neg h4, h3]; rfl
     have hL : Qal d zone.toNat = (Qe d zone.toNat).2 := by simp only [Qal]; rw [h3]; rfl
     have hlen := QgF d zone.toNat
     have hsec := QdY d zone.toNat zone.toNat
     have hm' : ((Qe d zone.toNat).2.getD zone.toNat default).sectors.length ≤ 10000000 := by rw [hsec]; exact hm
     have hk' : zone.toNat < (Qe d zone.toNat).2.length := by omega
     refine CallN.frame1 Qsc (Qrk d hd.z zone.toNat hk) 2 rfl (fun i _ j _ => wkC.imm (QT _ _ _)) (wkA.cons Quc (wkA.cons (wkS.c (wkC.int (by omega))) wkA.nil)) ?_
     rintro s1 Hc ⟨rfl, hr, g, hg⟩
     by_cases hr0 : (Qe d zone.toNat).1 = 0
     ·rw [hr hr0]
      have hE0 : Qj d zone s = 0 := by rw [hE, hr0]
      have hI : QA d zone s = ((Qe d zone.toNat).2.getD zone.toNat default).sectors.length := by simp only [QA, if_pos hE0, hsec]
      refine ⟨.c (.int .i64 0), [.vr d.cells, .vr [.int .i64 0, .int .i64 0, .int .i64 0, .nils], .arr 76 3 d.zones.length (Qn (Qe d zone.toNat).2), .vr (d.own 2)], by rw [hr0]; rfl, congrArg (fun g => [O.vr d.cells, O.vr [.int .i64 0, .int .i64 0, .int .i64 0, .nils], O.arr 76 3 d.zones.length g, O.vr (d.own 2)]) (Qdt _ _), ?_⟩
      refine Go0 ?_
      refine Br.no rfl (Go0 ?_)
      refine Frc.mk (.c (QlK ((Qe d zone.toNat).2.getD zone.toNat default).sectors)) (by simp only [QX]; rfl) (Go0 ?_)
      refine Dr.mk hΓ hMix (by kernel_rfl) (Go0 ?_)
      refine Frc.mk (.c (.sl 5 1 (((Qe d zone.toNat).2.getD zone.toNat default).sectors.length + 1) (((Qe d zone.toNat).2.getD zone.toNat default).sectors.length + 1) false)) (by simp only [QX]; rfl) (Go0 ?_)
      refine Br.of (fun hs=>Go0 ?_) (fun hs=>Go0 ?_)
      ·refine Dr.mkS hΓ hMix [(1,6),(2,6),(3,6)] (by kernel_rfl) (Go0 ?_)
       refine Dr.mkS hΓ hMix [(1,7),(2,7),(3,7),(4,7),(5,7),(6,7)] (by kernel_rfl) (Go0 ?_)
       refine Frc.mk (.c (.sl 5 1 (((Qe d zone.toNat).2.getD zone.toNat default).sectors.length + 1) (((Qe d zone.toNat).2.getD zone.toNat default).sectors.length + 1) false)) (by simp only [QX]; rfl) (Go0 ?_)
       have hD : Qf d zone s = { d with zones := (Qe d zone.toNat).2.set zone.toNat ⟨4, d.size, ((Qe d zone.toNat).2.getD zone.toNat default).sectors ++ [s]⟩ } := by
        simp only [Qf, if_pos hE0, hL, grow]
        rw [if_pos (by omega)]
       rw [hD, hI, hE0]
       refine RM.dev3F 2 5 rfl rfl (by decide) (Qhp _ _ _) (by simp; omega) (fun i hi => Qc1 hk' (by simp) (QcM _ _ _) (G := _) ?_ i (by omega)) (by rw [Qa _ (by omega) (by omega)]; omega) rfl
       intro i j hj
       simp only [QX]
       by_cases c : i = zone.toNat
       ·subst c
        match j, hj with
        | 0, _ => simp [Qn, Zone.cellT]
        | 1, _ => simp [Qn, Zone.cellT]
        | 2, _ => simp
       ·simp [c]
      ·refine Dr.mkS hΓ hMix [(1,7),(2,7),(3,7),(4,7),(5,7),(6,7)] (by kernel_rfl) (Go0 ?_)
       refine Frc.mk (.c (.sl 5 1 (((Qe d zone.toNat).2.getD zone.toNat default).sectors.length + 1) (((Qe d zone.toNat).2.getD zone.toNat default).sectors.length + 1) false)) (by simp only [QX]; rfl) (Go0 ?_)
       have hD : Qf d zone s = { d with zones := (Qe d zone.toNat).2.set zone.toNat ⟨1, ((Qe d zone.toNat).2.getD zone.toNat default).durable, ((Qe d zone.toNat).2.getD zone.toNat default).sectors ++ [s]⟩ } := by
        simp only [Qf, if_pos hE0, hL, grow]
        rw [if_neg (by omega), Qg1 d zone.toNat zone.toNat h3]; rfl
       rw [hD, hI, hE0]
       refine RM.dev3F 2 5 rfl rfl (by decide) (Qhp _ _ _) (by simp; omega) (fun i hi => Qc1 hk' (by simp) (QcM _ _ _) (G := _) ?_ i (by omega)) (by rw [Qa _ (by omega) (by omega)]; omega) rfl
       intro i j hj
       simp only [QX]
       by_cases c : i = zone.toNat
       ·subst c
        match j, hj with
        | 0, _ => simp [Qn, Zone.cellT]
        | 1, _ => simp [Qn, Zone.cellT]
        | 2, _ => simp
       ·simp [c]
     ·subst hg
      refine ⟨.c (.int .i64 (Qe d zone.toNat).1), _, rfl, rfl, ?_⟩
      refine Go0 ?_
      refine Br.of (fun h5=>?_) (fun h5=>?_)<;>(try simp only [Int.toNat_natCast] at h5)<;>(conv=>whnf)
      ·refine Go0 ?_
       refine CallN.opens Qbl (Qbu d hd) (leA.refl rfl) ?_; rintro s Hc ⟨rfl, rfl⟩; refine ⟨_, _, rfl, Qa2 _ _ _ _, ?_⟩; conv=>whnf
       refine Go0 ?_
       obtain ⟨hD, hI⟩ := bad _ hE hr0
       rw [hD, hI, hE]
       exact RM.dev3 4 rfl rfl rfl rfl
      ·exact absurd h5 hr0
    ·refine Frc.mk _ rfl (Go0 ?_)
     refine Dr.mk hΓ hMix (by kernel_rfl) (Go0 ?_)
     refine Frc.mk (.c (.sl 5 1 ((d.zones.getD zone.toNat default).sectors.length + 1) ((d.zones.getD zone.toNat default).sectors.length + 1) false)) (by simp only [QX]; rfl) (Go0 ?_)
     refine Br.of (fun hs=>Go0 ?_) (fun hs=>Go0 ?_)
     ·refine Dr.mkS hΓ hMix [(1,6),(2,6),(3,6)] (by kernel_rfl) (Go0 ?_)
      refine Dr.mkS hΓ hMix [(1,7),(2,7),(3,7),(4,7),(5,7),(6,7)] (by kernel_rfl) (Go0 ?_)
      refine Frc.mk (.c (.sl 5 1 ((d.zones.getD zone.toNat default).sectors.length + 1) ((d.zones.getD zone.toNat default).sectors.length + 1) false)) (by simp only [QX]; rfl) (Go0 ?_)
      have hE : Qj d zone s = 0 := by
       simp only [Qj, if_pos hch, hrange, if_pos]
       rw [if_pos (by omega), if_neg hst5, if_neg h4, h3]; rfl
      have hL : Qal d zone.toNat = d.zones := by simp only [Qal]; rw [h3]; rfl
      have hI : QA d zone s = (d.zones.getD zone.toNat default).sectors.length := by simp only [QA, if_pos hE]
      have hD : Qf d zone s = { d with zones := d.zones.set zone.toNat ⟨4, d.size, (d.zones.getD zone.toNat default).sectors ++ [s]⟩ } := by
       simp only [Qf, if_pos hE, hL, grow]
       rw [if_pos (by omega)]
      rw [hD, hI, hE]
      refine RM.dev3F 2 5 rfl rfl (by decide) (Qhp _ _ _) (by simp) (Qc1 hk (by simp) (QcM _ _ _) ?_) (by rw [Qa _ (by omega) (by omega)]; omega) rfl
      intro i j hj
      simp only [QX]
      by_cases c : i = zone.toNat
      ·subst c
       match j, hj with
       | 0, _ => simp [Qn, Zone.cellT]
       | 1, _ => simp [Qn, Zone.cellT]
       | 2, _ => simp
      ·simp [c]
     ·refine Dr.mkS hΓ hMix [(1,7),(2,7),(3,7),(4,7),(5,7),(6,7)] (by kernel_rfl) (Go0 ?_)
      refine Frc.mk (.c (.sl 5 1 ((d.zones.getD zone.toNat default).sectors.length + 1) ((d.zones.getD zone.toNat default).sectors.length + 1) false)) (by simp only [QX]; rfl) (Go0 ?_)
      have hE : Qj d zone s = 0 := by
       simp only [Qj, if_pos hch, hrange, if_pos]
       rw [if_pos (by omega), if_neg hst5, if_neg h4, h3]; rfl
      have hL : Qal d zone.toNat = d.zones := by simp only [Qal]; rw [h3]; rfl
      have hI : QA d zone s = (d.zones.getD zone.toNat default).sectors.length := by simp only [QA, if_pos hE]
      have hD : Qf d zone s = { d with zones := d.zones.set zone.toNat ⟨(d.zones.getD zone.toNat default).state, (d.zones.getD zone.toNat default).durable, (d.zones.getD zone.toNat default).sectors ++ [s]⟩ } := by
       simp only [Qf, if_pos hE, hL, grow]
       rw [if_neg (by omega), h3]; rfl
      rw [hD, hI, hE]
      refine RM.dev3F 2 5 rfl rfl (by decide) (Qhp _ _ _) (by simp) (Qc1 hk (by simp) (QcM _ _ _) ?_) (by rw [Qa _ (by omega) (by omega)]; omega) rfl
      intro i j hj
      simp only [QX]
      by_cases c : i = zone.toNat
      ·subst c
       match j, hj with
       | 0, _ => simp [Qn, Zone.cellT]
       | 1, _ => simp [Qn, Zone.cellT]
       | 2, _ => simp
      ·simp [c]
 ·simp only [Qfs, if_neg he] at hq
  obtain ⟨rfl, rfl⟩ := hq
  refine ⟨.t [.inr d.cells, .inl (.int .i64 (QG d zone))], _, rfl, Qng _, ?_⟩
  refine Go0 ?_
  (first|refine Br.od (fun h1=>?_) (fun h1=>?_)|refine Br.mk (fun h1=>?_) (fun h1=>?_)<;>simp [-List.length_eq_zero_iff,-List.getD_eq_getElem?_getD] at h1)<;>(try simp only [Int.toNat_natCast] at h1)<;>(conv=>whnf)
  ·refine Go0 ?_
   refine CallN.opens Qbl (Qbu d hd) (leA.refl rfl) ?_; rintro s Hc ⟨rfl, rfl⟩; refine ⟨_, _, rfl, Qa2 _ _ _ _, ?_⟩; conv=>whnf
   refine Go0 ?_
   have hE : Qj d zone s = QG d zone := by
    by_cases hch : check d = 0
    ·by_cases hr : 0 ≤ zone ∧ zone < d.zones.length
     ·have : QG d zone = if (d.zones.getD zone.toNat default).state = 5 then 6 else 0 := by simp only [QG, if_pos hch, decide_eq_true hr, if_pos]
      rw [this] at h1 he
      split at h1 <;> simp at h1 he
     ·simp only [QG, Qj, if_pos hch, decide_eq_false hr]; rfl
    ·simp only [QG, Qj, if_neg hch]
   obtain ⟨hD, hI⟩ := bad _ hE he
   rw [hD, hI, hE]
   exact RM.dev3 3 rfl rfl rfl rfl
  ·refine Go0 ?_
   have he6 : QG d zone = 6 := h1 he
   refine CallG.pure Qef (fun _ => Qd8 d ) (fun _ => leA.refl rfl) rfl (Go0 ?_)
   (first|refine Br.od (fun h2=>?_) (fun h2=>?_)|refine Br.mk (fun h2=>?_) (fun h2=>?_)<;>simp [-List.length_eq_zero_iff,-List.getD_eq_getElem?_getD] at h2)<;>(try simp only [Int.toNat_natCast] at h2)<;>(conv=>whnf)
   ·refine Go0 ?_
    refine CallN.opens Qbl (Qbu d hd) (leA.refl rfl) ?_; rintro s Hc ⟨rfl, rfl⟩; refine ⟨_, _, rfl, Qa2 _ _ _ _, ?_⟩; conv=>whnf
    refine Go0 ?_
    have hE : Qj d zone s = QG d zone := by simp only [QG, Qj, if_neg h2.2]
    obtain ⟨hD, hI⟩ := bad _ hE he
    rw [hD, hI, hE]
    exact RM.dev3 3 rfl rfl rfl rfl
   ·refine Go1 fun _h=>?_
    have hch : check d = 0 := h2 he6
    have hr : 0 ≤ zone ∧ zone < d.zones.length := by
     by_cases hr : 0 ≤ zone ∧ zone < d.zones.length
     ·exact hr
     ·have : QG d zone = 5 := by simp only [QG, if_pos hch, decide_eq_false hr]; rfl
      omega
    have h5 : (d.zones.getD zone.toNat default).state = 5 := by
     by_cases h5 : (d.zones.getD zone.toNat default).state = 5
     ·exact h5
     ·have : QG d zone = 0 := by simp only [QG, if_pos hch, decide_eq_true hr, if_pos, if_neg h5]
      omega
    refine Br.of (fun h40=>Go0 ?_) (fun h40=>Go0 ?_)
    ·refine CallN.opens Qbl (Qbu d hd) (leA.refl rfl) ?_; rintro s Hc ⟨rfl, rfl⟩; refine ⟨_, _, rfl, Qa2 _ _ _ _, ?_⟩; conv=>whnf
     refine Go0 ?_
     have hE : Qj d zone s = 2 := by
      simp only [Qj, if_pos hch, decide_eq_true hr, if_pos]
      rw [if_neg (by omega)]
     obtain ⟨hD, hI⟩ := bad _ hE (by decide)
     rw [hD, hI, hE]
     exact RM.dev3 3 rfl rfl rfl rfl
    ·refine Br.of (fun h6=>?_) (fun h6=>?_)<;>(try simp only [Int.toNat_natCast] at h6)<;>(conv=>whnf)
     ·refine Go0 ?_
      refine CallN.opens Qbl (Qbu d hd) (leA.refl rfl) ?_; rintro s Hc ⟨rfl, rfl⟩; refine ⟨_, _, rfl, Qa2 _ _ _ _, ?_⟩; conv=>whnf
      refine Go0 ?_
      have hE : Qj d zone s = 6 := by
       simp only [Qj, if_pos hch, decide_eq_true hr, if_pos]
       rw [if_pos (by omega), if_pos h5]
      obtain ⟨hD, hI⟩ := bad _ hE (by decide)
      rw [hD, hI, hE]
      exact RM.dev3 3 rfl rfl rfl he6
     ·exact absurd h6 he
theorem Qfd : HB 113 := hB Tryz.func113
def finM (d : Dev) (z : Int) : Dev × Int :=
 if QaF (d.zones.getD z.toNat default).sectors ≠ 0 then (d, QaF (d.zones.getD z.toNat default).sectors)
 else if Qm (QU (d.zones.getD z.toNat default).sectors) ≠ 0 then (d, Qm (QU (d.zones.getD z.toNat default).sectors))
 else (Qf d z (encR (QU (d.zones.getD z.toNat default).sectors)), Qj d z (encR (QU (d.zones.getD z.toNat default).sectors)))
theorem Qg2 (d : Dev) (z : Int) (hd : d.small) (h0 : 0 ≤ z) (hz : z < d.zones.length) : PS 108 [d.s, .c (.int .i64 z)] (.t [.inr (finM d z).1.cells, .inl (.int .i64 (finM d z).2)]) := by
 refine PSpec.rm ?_
 refine ov0 hΓ Tryz.func108 42 0 [.cell 4 29, .tmp 5] Tryz.ntmps108 Tryz.results108 ?_
 refine CallN.pureA Qpd (Qp1 (d.zones.getD z.toNat default).sectors ) (Go0 ?_)
 have hcut := hd.z
 by_cases h1 : QaF (d.zones.getD z.toNat default).sectors ≠ 0
 ·refine Br.yes (bne_iff_ne.2 h1) (Go0 ?_)
  rw [show finM d z = (d, QaF (d.zones.getD z.toNat default).sectors) from if_pos h1]
  exact RM.i0
 ·refine Br.no (by simpa using h1) (Go0 ?_)
  refine CallN.pureA Qeo (Qez (QU (d.zones.getD z.toNat default).sectors) ) (Go0 ?_)
  by_cases h2 : Qm (QU (d.zones.getD z.toNat default).sectors) ≠ 0
  ·refine Br.yes (bne_iff_ne.2 h2) (Go0 ?_)
   rw [show finM d z = (d, Qm (QU (d.zones.getD z.toNat default).sectors)) from (if_neg h1).trans (if_pos h2)]
   exact RM.i0
  ·refine Br.no (by simpa using h2) (Go0 ?_)
   refine CallN.pureA Qfd (Qe8 d hd z (encR (QU (d.zones.getD z.toNat default).sectors)) ) (Go0 ?_)
   rw [show finM d z = (Qf d z (encR (QU (d.zones.getD z.toNat default).sectors)), Qj d z (encR (QU (d.zones.getD z.toNat default).sectors))) from (if_neg h1).trans (if_neg h2)]
   exact RM.i0
theorem Qhd : HB 108 := hB Tryz.func108
end Go.Proofs
end
