/- Contracts, lemmas; no condition. -/
import Derived.Test.YtjjlblnbeggejaaGreatP28
import Derived.Test.YtjjlblnbeggejaaGreatP27
import Derived.Test.YtjjlblnbeggejaaGreatP10
import Derived.Test.YtjjlblnbeggejaaGreatP16
set_option linter.all false
section
open Go Go.Am
namespace Go.Proofs
set_option maxRecDepth 20000
variable {n st : Int} {size q : Nat} {l : List Wrk} {r : Rec} {e : Ent} {d : ByteArray}
theorem QiK (l : List ByteArray) (hl : l.length ≤ 100) (hs : ∀ x ∈ l, x.size ≤ 1000) : PS 257 [.c (Qay l)] (.c (.str (catB l))) := by
  refine PSpec.rm ?_
  refine ov0 hΓ Tryz.func257 5 0 [.tmp 2] Tryz.ntmps257 Tryz.results257 ?_
  refine QuU Qk2 (Qko l hl hs ) (Go0 ?_)
  exact QuV
theorem Qja : HB 257 := hB Tryz.func257
theorem QjA (l : List ByteArray) (hl : l.length ≤ 100) (hs : ∀ x ∈ l, x.size ≤ 1000) : PS 191 [.c (Qay l)] (.c (.str (catB l))) := by
  refine PSpec.rm ?_
  refine ov0 hΓ Tryz.func191 5 0 [.tmp 2] Tryz.ntmps191 Tryz.results191 ?_
  refine QuU Qk2 (Qko l hl hs ) (Go0 ?_)
  exact QuV
theorem QiP : HB 191 := hB Tryz.func191
def sufS (n : Int) (size k : Nat) : ByteArray := QQ k fun i _ => .int .u8 (putB n (size - k + i))
theorem QsV (n : Int) (size : Nat) : sufS n size size = putS n size := Qgf fun i _ => by rw [Nat.sub_self, QxX]
theorem QsN (h1 : 1 ≤ size) (h7 : size ≤ 7) (h0 : 0 ≤ n) (hn : n < 2 ^ (8 * size)) : n.fdiv (2 ^ (min (IntKind.i64.wrap (8 * (size : Int))).toNat IntKind.i64.bits)) = 0 := by
  have e : IntKind.i64.wrap (8 * (size : Int)) = 8 * size := Qa _ om om
  rw [e, show (8 * (size : Int)).toNat = 8 * size by omega, QyZ (by show 8 * size ≤ 64; omega), Qy8 _ (Int.le_of_lt (Int.pow_pos (by decide)))]
  exact Int.ediv_eq_zero_of_lt h0 hn
theorem QtF {i : Nat} (h : i < 7) : IntKind.u8.wrap (n.fdiv (2 ^ (min (IntKind.i64.wrap (8 * (i : Int))).toNat IntKind.i64.bits))) = putB n i := by
  unfold putB
  rw [show IntKind.u64.wrap (IntKind.i64.wrap (8 * (i : Int))) = IntKind.i64.wrap (8 * (i : Int)) by rw [Qa _ om om, IntKind.wrap_u64]; omega]
theorem Qsr {k : Nat} (h : k < size) : catB [QQ 1 fun _ _ => .int .u8 (putB n (size - 1 - k)), sufS n size k] = sufS n size (k + 1) := by
  show (ByteArray.empty ++ QQ 1 _) ++ sufS n size k = _
  rw [ByteArray.empty_append]
  unfold sufS
  apply ByteArray.ext
  rw [QyY]
  unfold QQ
  apply QxV.1
  rw [QyO]
  simp only [List.toList_toArray]
  rw [show List.range 1 = [0] from rfl, List.range_succ_eq_map]
  simp only [Qyz, List.map_nil, List.map_map, List.singleton_append]
  refine List.cons_eq_cons.2 ⟨?_, List.map_congr_left fun i _ => ?_⟩
  · exact QxK (fun m => Qc6 (.int .u8 (putB n m))) om
  · exact QxK (fun m => Qc6 (.int .u8 (putB n m))) (by show _ = size - (k + 1) + (i + 1); omega)
set_option maxHeartbeats 2000000 in
theorem Qhg (n : Int) (size : Nat) (h1 : 1 ≤ size) (h7 : size ≤ 7) (h0 : 0 ≤ n) (hn : n < 2 ^ (8 * size)) : PS 250 [.c (.int .i64 n), .c (.int .i64 size)] (.t [.inl (.str (putS n size)), .inl (.int .i64 0)]) := by
  have hz := QsN h1 h7 h0 hn
  have hw : 0 ≤ IntKind.i64.wrap (8 * (size : Int)) := by rw [Qa _ om om]; omega
  refine PSpec.rm ?_
  refine ov0 hΓ Tryz.func250 42 0 [.tmp 4, .tmp 5] Tryz.ntmps250 Tryz.results250 ?_
  refine Br.no (by rw [hz]; simp; omega) (Go0 ?_)
  have w1 := Qa ((size : Int) - 1) om om
  refine QuY hΓ (ι := Nat) [0, 4, 5] (fun k => [(7, .c (.int .i64 ((size : Int) - 1 - k))), (6, .c (.str (sufS n size k)))]) (fun _ => []) (fun k => k ≤ size) (fun k => size - k) 0 (Qxx _) ?_ ?_
  · exact QuW
  · intro k hk
    refine Go0 ?_
    refine Br.of (fun h2=>?_) (fun h2=>?_)<;>(try simp only [Qxy] at h2)<;>(conv=>whnf)
    · have ei : (size : Int) - 1 - k = ((size - 1 - k : Nat) : Int) := by omega
      have hw2 : 0 ≤ IntKind.i64.wrap (8 * ((size : Int) - 1 - k)) := by rw [Qa _ om om]; omega
      have w2 := Qa ((size : Int) - 1 - k - 1) om om
      refine Go0 ?_
      refine Need.mk (fun i hi => ⟨_, by obtain rfl : i = 0 := by omega
                                         rfl⟩) ?_
      refine Go0 ?_
      have hb : IntKind.u8.wrap (n.fdiv (2 ^ min (IntKind.i64.wrap (8 * ((size : Int) - 1 - k))).toNat IntKind.i64.bits)) = putB n (size - 1 - k) := by rw [ei]; exact QtF om
      rw [hb]
      refine CallN.reads Qja (QiK [QQ 1 fun _ _ => .int .u8 (putB n (size - 1 - k)), sufS n size k] (by simp) (fun x hx => by
        rcases Qyf.1 hx with rfl | hx
        · rw [Qa0]; omega
        · rw [Qyy.1 hx]
          unfold sufS
          rw [Qa0]; omega)) (BwA.cons (BwS.c (Bw.sl rfl rfl (fun i hi j hj => by
            match i, hi with
            | 0, _ =>
              have hj : j < 1 := hj
              obtain rfl : j = 0 := by omega
              exact Bw.same (c := .str (QQ 1 fun _ _ => .int .u8 (putB n (size - 1 - k)))) rfl
            | 1, _ =>
              have hj : j < 1 := hj
              obtain rfl : j = 0 := by omega
              exact Bw.same (c := .str (sufS n size k)) rfl) (fun e => by cases e))) BwA.nil) rfl ?_
      refine Go0 ?_
      rw [Qsr om]
      refine ⟨k + 1, om, om, ?_⟩
      exact QuW
    · refine Go0 ?_
      have : k = size := by omega
      subst this
      rw [QsV]
      exact QuV
theorem Qg8 : HB 250 := hB Tryz.func250
theorem Qha (b : ByteArray) (hb : b.size ≤ 10000000) : PS 194 [.c (.str b)] (.c (.int .u32 (addU 0 b))) := by
 refine PSpec.rm ?_
 refine ov0 hΓ Tryz.func194 5 0 [.tmp 2] Tryz.ntmps194 Tryz.results194 ?_
 refine QuU QkX (Qk8 0 b hb ) (Go0 ?_)
 exact QuV
theorem Qgo : HB 194 := hB Tryz.func194
theorem QrT (b : ByteArray) (hb : b.size ≤ 1000) : PS 193 [.c (.str b), .c (.int .i64 20)] (.c (.str (padS b))) := by
 refine PSpec.rm ?_
 refine ov hΓ Tryz.func193 18 0 [.tmp 4] Tryz.ntmps193 Tryz.results193 ?_
 refine Go1 fun _h=>?_
 by_cases h : b.size < 20
 ·refine Br.no (QxE om) ?_
  have w0 : IntKind.i64.wrap ((20 : Int) - b.size) = ((20 - b.size : Nat) : Int) := by rw [Qa _ om om]; omega
  refine Go1 fun _h=>?_
  rw [w0]
  refine QuU Qss (Qtp (20 - b.size) om ) (Go0 ?_)
  refine CallN.reads Qja (QiK [b, QQ (20 - b.size) fun _ _ => .int .u8 0] (by simp) (fun x hx => by
   rcases Qyf.1 hx with rfl | hx
   ·exact hb
   ·rw [Qyy.1 hx, Qa0]; omega)) (BwA.cons (BwS.c (Bw.sl rfl rfl (fun i hi j hj => by
    match i, hi with
    | 0, _ =>
     have hj : j < 1 := hj
     obtain rfl : j = 0 := by omega
     exact Bw.same (c := .str b) rfl
    | 1, _ =>
     have hj : j < 1 := hj
     obtain rfl : j = 0 := by omega
     exact Bw.same (c := .str (QQ (20 - b.size) fun _ _ => .int .u8 0)) rfl) (fun e => by cases e))) BwA.nil) rfl ?_
  refine Go0 ?_
  rw [show padS b = catB [b, QQ (20 - b.size) fun _ _ => .int .u8 0] by
   show _ = (ByteArray.empty ++ b) ++ _
   rw [ByteArray.empty_append]
   exact Qxt h]
  exact QuV
 ·refine Br.yes (Qxz om) (Go0 ?_)
  rw [show padS b = b from Qxu h]
  exact QuV
theorem Qrb : HB 193 := hB Tryz.func193
theorem QcL (n : Int) (size : Nat) (h1 : 1 ≤ size) (h7 : size ≤ 7) (h0 : 0 ≤ n) (hn : n < 2 ^ (8 * size)) : PS 192 [.c (.int .i64 n), .c (.int .i64 size)] (.c (.str (putS n size))) := by
 refine PSpec.rm ?_
 refine ov0 hΓ Tryz.func192 14 0 [.tmp 4] Tryz.ntmps192 Tryz.results192 ?_
 refine QuU Qg8 (Qhg n size h1 h7 h0 hn ) (Go0 ?_)
 exact QuV
theorem QcN : HB 192 := hB Tryz.func192
set_option maxHeartbeats 2000000 in
theorem QnG (r : Rec) : PS 190 [.a r.cells] (.c (.int .i64 (Qm r))) := by
 refine PSpec.rm ?_
 refine ov0 hΓ Tryz.func190 63 0 [.tmp 2] Tryz.ntmps190 Tryz.results190 ?_
 by_cases h1 : 1 ≤ r.kind ∧ r.kind ≤ 6
 ·refine Br.no (by simp; omega) (Go0 ?_)
  by_cases h2 : 0 ≤ r.block ∧ r.block ≤ 4294967295 ∧ 0 ≤ r.version ∧ r.version ≤ 1099511627776 ∧ 0 ≤ r.move ∧ r.move ≤ 255
  ·refine Br.no (by simp; omega) (Go1 fun _h=>?_)
   by_cases h3 : r.payload.size ≤ 20 ∧ (r.kind = 1 → r.payload.size = 16) ∧ (r.kind = 2 → r.payload.size = 0)
   ·refine Br.no (by
     obtain ⟨a, b, c⟩ := h3
     by_cases k1 : r.kind = 1
     ·have := b k1
      simp [k1, this]
     ·by_cases k2 : r.kind = 2
      ·have := c k2
       simp [k2, this]
      ·simp [k1, k2]; omega) ?_
    refine Go0 ?_
    rw [show Qm r = 0 by unfold Qm; rw [Qxt (Qxz h1), Qxt (Qxz h2), Qxt (Qxz h3)]]
    exact QuV
   ·refine Br.yes (QxC fun z => h3 (by
     have z := QxG.2 z
     by_cases k1 : r.kind = 1
     ·simp [k1] at z; omega
     ·by_cases k2 : r.kind = 2
      ·simp [k2] at z
       have := z.2
       refine ⟨om, om, fun _ => ?_⟩
       simp_all
      ·simp [k1, k2] at z; omega)) ?_
    refine Go0 ?_
    rw [show Qm r = 2 by unfold Qm; rw [Qxt (Qxz h1), Qxt (Qxz h2), Qxu (by rw [Qxw]; exact h3)]]
    exact QuV
  ·refine Br.yes (QxC fun z => h2 (by
    have z := QxG.2 z
    simp at z
    omega)) ?_
   refine Go0 ?_
   rw [show Qm r = 1 by unfold Qm; rw [Qxt (Qxz h1), Qxu (by rw [Qxw]; exact h2)]]
   exact QuV
 ·refine Br.yes (QxC fun z => h1 (by
   have z := QxG.2 z
   simp at z
   omega)) ?_
  refine Go0 ?_
  rw [show Qm r = 3 by unfold Qm; rw [Qxu (by rw [Qxw]; exact h1)]]
  exact QuV
theorem Qop : HB 190 := hB Tryz.func190
theorem Qxi {ρ : Nat → Nat} {n m : Nat} {t : Bool} {g : Nat → Nat → C} {l : List ByteArray} (hm : m = l.length) (hg : ∀ i, i < m → g i 0 = .str (l.getD i ByteArray.empty)) : WC ρ n (.isl 1 m g t) (Qay l) :=
 WC.isl hm (fun i hi j hj => by
  obtain rfl : j = 0 := by omega
  exact hg i hi) (fun e => by cases e)
def QgA (r : Rec) : List ByteArray := [⟨#[90, 65]⟩, putS r.kind 1, putS r.payload.size 1, putS r.block 4, putS r.version 6, putS r.move 1, ⟨#[0]⟩, padS r.payload]
theorem Qqb (r : Rec) : catB (QgA r) = QV r := by
 unfold catB QgA QV
 simp only [List.foldl_cons, List.foldl_nil, ByteArray.empty_append]
theorem QnO (h : Qm r = 0) : ∀ x ∈ QgA r, x.size ≤ 1000 := fun x hx => by
 obtain ⟨h1, h2, h3⟩ := QaY h
 have hp := QaZ r.payload h3
 simp only [QgA, Qyf, List.mem_nil_iff, or_false] at hx
 rcases hx with rfl | rfl | rfl | rfl | rfl | rfl | rfl | rfl <;> first | (rw [QI]; omega) | (rw [hp]; omega) | decide
theorem Qtj (h : Qm r = 0) : (QV r).size = 36 := by
 obtain ⟨h1, h2, h3⟩ := QaY h
 unfold QV
 simp only [QxZ, QI, QaZ r.payload h3]
 rfl
set_option maxHeartbeats 4000000 in
theorem Qez (r : Rec) : PS 112 [.a r.cells] (.t [.inl (.str (encR r)), .inl (.int .i64 (Qm r))]) := by
 refine PSpec.rm ?_
 refine ov0 hΓ Tryz.func112 39 0 [.tmp 2, .tmp 3] Tryz.ntmps112 Tryz.results112 ?_
 refine QuU Qop (QnG r ) (Go0 ?_)
 by_cases h : Qm r = 0
 ·obtain ⟨h1, h2, h3⟩ := QaY h
  refine Br.no (by rw [h]; rfl) (Go0 ?_)
  refine Qvd hΓ hMix [4294967296] [] (by kernel_rfl) (Go0 ?_)
  refine CallP.auto QcN (QcL r.kind 1 om om om om ) (Go0 ?_)
  refine CallP.auto QcN (QcL (r.payload.size : Int) 1 om om om om ) (Go0 ?_)
  refine CallP.auto QcN (QcL r.block 4 om om om om ) (Go0 ?_)
  refine CallP.auto QcN (QcL r.version 6 om om om om ) (Go0 ?_)
  refine CallP.auto QcN (QcL r.move 1 om om om om ) (Go0 ?_)
  refine CallP.auto Qrb (QrT r.payload om ) (Go0 ?_)
  refine CallP.mkW QiP (QjA (QgA r) leN (QnO h)) (WA.cons rfl (WS.c (Qxi rfl (fun i hi => by
   match i, hi with
   | 0, _ => rfl
   | 1, _ => rfl
   | 2, _ => rfl
   | 3, _ => rfl
   | 4, _ => rfl
   | 5, _ => rfl
   | 6, _ => rfl
   | 7, _ => rfl))) WA.nil) rfl ?_
  rw [Qqb]
  refine Go0 ?_
  have hbs := Qtj h
  have ha := Qfq 0 (QV r)
  have hw := Qa (addU 0 (QV r)) om om
  refine QuU Qgo (Qha (QV r) om ) (Go0 ?_)
  refine QuU QcN (QcL (IntKind.i64.wrap (addU 0 (QV r))) 4 om om om om ) (Go0 ?_)
  refine CallN.reads QiP (QjA [QV r, putS (IntKind.i64.wrap (addU 0 (QV r))) 4] (by simp) (fun x hx => by
   rcases Qyf.1 hx with rfl | hx
   ·omega
   ·rw [Qyy.1 hx, QI]; omega)) (BwA.cons (BwS.c (Bw.sl rfl rfl (fun i hi j hj => by
    match i, hi with
    | 0, _ =>
     have hj : j < 1 := hj
     obtain rfl : j = 0 := by omega
     exact Bw.same (c := .str (QV r)) rfl
    | 1, _ =>
     have hj : j < 1 := hj
     obtain rfl : j = 0 := by omega
     exact Bw.same (c := .str (putS (IntKind.i64.wrap (addU 0 (QV r))) 4)) rfl) (fun e => by cases e))) BwA.nil) rfl ?_
  refine Go0 ?_
  rw [h, show encR r = catB [QV r, putS (IntKind.i64.wrap (addU 0 (QV r))) 4] by
   show _ = (ByteArray.empty ++ QV r) ++ _
   rw [ByteArray.empty_append]
   exact Qxt h]
  exact QuV
 ·refine Br.yes (by simpa using h) (Go0 ?_)
  rw [show encR r = ByteArray.empty from Qxu h]
  exact QuV
theorem Qeo : HB 112 := hB Tryz.func112
theorem Qk1 (b : ByteArray) (k : Nat) : 0 ≤ Qa8 b k ∧ Qa8 b k < 256 := by
 have h : (b.data.toList.getD k 0).toNat < 256 := UInt8.toNat_lt _
 unfold Qa8
 rw [Qa _ om om]
 omega
theorem Quv {y : Int} (h : 0 ≤ y ∧ y < 256) : orW (shW 0) y = y := by
 obtain ⟨n, rfl⟩ := Int.eq_ofNat_of_zero_le h.1
 have e0 : shW 0 = 0 := by decide
 rw [e0]
 unfold orW
 have e1 : (BitVec.ofInt IntKind.i64.bits 0 ||| BitVec.ofInt IntKind.i64.bits (n : Int)).toNat = n := by
  show (BitVec.ofInt 64 0 ||| BitVec.ofInt 64 (n : Int)).toNat = n
  rw [show BitVec.ofInt 64 0 = 0#64 from rfl, BitVec.zero_or]
  rw [QyC]
  omega
 rw [e1]
 exact Qa _ om om
theorem QeE {s : ByteArray} {p : Nat} (h : p < s.size) : getS s p 1 = Qa8 s p := by
 unfold getS
 rw [Qxu om]
 show orW (shW 0) (Qa8 s (p + (1 - 1 - 0))) = _
 exact Quv (Qk1 s p)
theorem Qq1 (h : Qm r = 0) : Qa8 (encR r) 3 = r.payload.size := by
 obtain ⟨_, _, h3⟩ := QaY h
 have e : (encR r).data.toList.getD 3 0 = Qc6 (.int .u8 (putB r.payload.size 0)) := by
  rw [show encR r = QV r ++ putS (IntKind.i64.wrap (addU 0 (QV r))) 4 from Qxt h]
  unfold QV
  simp only [QyY, QyO, QyH]
  rfl
 unfold Qa8
 rw [e]
 have hp : putB r.payload.size 0 = r.payload.size := by
  show IntKind.u8.wrap ((r.payload.size : Int).fdiv 1) = _
  rw [Int.fdiv_one, IntKind.wrap_u8]
  omega
 rw [hp]
 have hc : (Qc6 (.int .u8 (r.payload.size : Int))).toNat = r.payload.size := by
  generalize hn : r.payload.size = n at *
  have : n ≤ 20 := h3
  unfold Qc6
  simp
  omega
 rw [hc]
 exact Qa _ om om
set_option maxHeartbeats 4000000 in
theorem QmF (s : ByteArray) : PS 174 [.c (.str s)] (.t [.inr (decR s).cells, .inl (.int .i64 (decE s))]) := by
 refine PSpec.rm ?_
 refine ov hΓ Tryz.func174 70 0 [.cell 2 109, .tmp 3] Tryz.ntmps174 Tryz.results174 ?_
 refine Go1 fun _h=>?_
 by_cases h0 : s.size = 40
 ·refine Br.no (by simp [h0]) (Go0 ?_)
  have hb : s.size ≤ 10000000 := by omega
  refine QuU Qgz (Qgh s 36 4 (by decide) (by decide) (by decide) hb ) (Go0 ?_)
  refine QuU Qgo (Qha (s.extract 0 36) (by rw [QyP]; omega) ) (Go0 ?_)
  by_cases h1 : getS s 36 4 = sumW (s.extract 0 36)
  ·refine Br.no (by rw [h1]; exact bne_self_eq_false _) (Go0 ?_)
   have e3 : IntKind.i64.wrap ((s.data.toList.getD 3 0).toNat : Int) = getS s 3 1 := (QeE om).symm
   have e2 : IntKind.i64.wrap ((s.data.toList.getD 2 0).toNat : Int) = getS s 2 1 := (QeE om).symm
   have e14 : IntKind.i64.wrap ((s.data.toList.getD 14 0).toNat : Int) = getS s 14 1 := (QeE om).symm
   have g3 : 0 ≤ getS s 3 1 ∧ getS s 3 1 < 256 := by rw [QeE om]; exact Qk1 s 3
   have t3 : Int.toNat 3 = 3 := rfl
   have t2 : Int.toNat 2 = 2 := rfl
   have t14 : Int.toNat 14 = 14 := rfl
   rw [t3, e3]
   by_cases h5 : getS s 3 1 ≤ 20
   ·refine Br.no (QxE om) ?_
    have w3 := Qa (16 + getS s 3 1) om om
    refine Go0 ?_
    refine Dr.mk hΓ hMix (by kernel_rfl) (Go0 ?_)
    rw [w3]
    refine Go0 ?_
    refine CallP.auto QnR (QnC (s.extract 16 (16 + getS s 3 1).toNat) (by rw [QyP]; omega) ) (Go0 ?_)
    refine QuU Qgz (Qgh s 4 4 (by decide) (by decide) (by decide) hb ) (Go0 ?_)
    refine QuU Qgz (Qgh s 8 6 (by decide) (by decide) (by decide) hb ) (Go0 ?_)
    rw [t2, t14, e2, e14]
    have er : rawR s = ⟨getS s 2 1, getS s 4 4, getS s 8 6, getS s 14 1, s.extract 16 (16 + getS s 3 1).toNat⟩ := by
     unfold rawR
     rw [Int.min_eq_left h5]
    refine QuU Qeo (Qez ⟨getS s 2 1, getS s 4 4, getS s 8 6, getS s 14 1, s.extract 16 (16 + getS s 3 1).toNat⟩ ) ?_
    rw [← er]
    refine Go0 ?_
    by_cases h2 : Qm (rawR s) = 0 ∧ encR (rawR s) = s
    ·refine Br.no (by rw [h2.1, h2.2]; simp) (Go0 ?_)
     have e : decE s = 0 := by unfold decE; rw [Qxt h0, Qxt h1, Qxt h2]
     rw [show decR s = rawR s from Qxt e, e, er]
     exact QuV
    ·refine Br.yes (by
      refine QxC fun z => h2 ?_
      simp at z
      exact z) ?_
     refine Go0 ?_
     have e : decE s = 3 := by unfold decE; rw [Qxt h0, Qxt h1, Qxu h2]
     rw [show decR s = default from Qxu (by rw [e]; decide), e]
     exact QuV
   ·refine Br.yes (Qxz om) (Go0 ?_)
    have e : decE s = 3 := by
     unfold decE
     rw [Qxt h0, Qxt h1, Qxu]
     rintro ⟨a, b⟩
     have := Qq1 a
     rw [b, ← QeE om] at this
     have hp : (rawR s).payload.size ≤ 20 := (QaY a).2.2
     omega
    rw [show decR s = default from Qxu (by rw [e]; decide), e]
    exact QuV
  ·refine Br.yes (Qy2.2 h1) (Go0 ?_)
   have e : decE s = 4 := by unfold decE; rw [Qxt h0, Qxu h1]
   rw [show decR s = default from Qxu (by rw [e]; decide), e]
   exact QuV
 ·refine Br.yes (by simp; omega) (Go0 ?_)
  have e : decE s = 2 := Qxu h0
  rw [show decR s = default from Qxu (by rw [e]; decide), e]
  exact QuV
theorem Qnf : HB 174 := hB Tryz.func174
theorem Qbu (d : Dev) (hd : d.small) : CS 162 [d.s] [] fun s H => s = .a [.int .i64 d.size, .int .i64 d.maxOpen, .int .i64 d.maxActive, .sl 0 3 d.zones.length d.zones.length true] ∧ H = [.arr 76 3 d.zones.length (Qn d.zones)] := by
 refine CSpec.rm ?_
 refine ov hΓ Tryz.func162 45 0 [.cell 2 29] Tryz.ntmps162 Tryz.results162 ?_
 refine Go1 fun _h=>?_
 have hz := hd.z
 refine Need.mk (by simp only []; omega) (Go1 fun _h=>?_)
 have hn : (d.zones.length : Int).toNat = d.zones.length := by simp
 refine Lp.mk hΓ (ι := Nat) (fun k => [(20, .c (.int .i64 k)), (19, .c (.int .i64 d.zones.length)), (18, .c (Qca d.zones)), (2, .c (.ptr 1 0)), (3, .c (.ptr 2 0))])
  (fun k => [.vr d.cells, .vr dev0.cells, .vr [.int .i64 d.size, .int .i64 d.maxOpen, .int .i64 d.maxActive, .sl 3 3 d.zones.length d.zones.length true], .arr 76 3 d.zones.length (Qbk d.zones k)]) (fun k => k ≤ d.zones.length) (fun k => d.zones.length - k) 0 (Qxx _) ?_ ?_
 ·refine Mv.mk' 4 rfl ⟨O.wk.vr (Qv rfl), O.wk.vr ⟨wkC.imm rfl, wkC.imm rfl, wkC.imm rfl, wkC.nil rfl, trivial⟩, O.wk.vr ⟨wkC.imm rfl, wkC.imm rfl, wkC.imm rfl, wkC.sl (by decide) hn hn (fun _ => rfl), trivial⟩, O.wk.arr hn (fun i hi j hj => wkC.of_eq (QhS _ _ _ _) ?_), trivial⟩
   ⟨wkS.imm rfl, wkS.imm rfl, wkS.imm rfl, wkS.c (wkC.ptr (by decide)), wkS.c (wkC.ptr (by decide)), trivial⟩ (Qxx _)
  simp only [Qd6, Qbk]
  rw [Qxt om, Qxu om]
  rfl
 ·intro k hk
  refine Go0 ?_
  refine Br.of (fun h=>Go0 ?_) (fun h=>Go0 ?_)
  ·have hlt : k < d.zones.length := by omega
   have hsec := hd.s k
   refine Dr.mk hΓ hMix (by kernel_rfl) (Go0 ?_)
   refine Dr.mk hΓ hMix (by kernel_rfl) (Go0 ?_)
   have hkn : (k : Int).toNat = k := by simp
   refine Frc.mk (.c (.sl 5 1 (d.zones.getD k default).sectors.length (d.zones.getD k default).sectors.length true)) ?_ ?_
   ·simp [updG, lget, getL, QcW]
   refine Go0 ?_
   have w0 := Qa (↑k + 1) om om
   refine ⟨k + 1, om, om, (Mv.fz 5 rfl (Qxx _) ?_).trans (Mv.mk' 4 rfl ⟨O.wk.vr (Qv rfl), O.wk.vr (Qv rfl), O.wk.vr ⟨wkC.imm rfl, wkC.imm rfl, wkC.imm rfl, wkC.sl (by decide) rfl rfl (fun e => e), trivial⟩, O.wk.arr rfl (fun i hi j hj => ?_), trivial⟩
    ⟨wkS.c (wkC.int (by rw [w0]; rfl)), wkS.imm rfl, wkS.imm rfl, wkS.c (wkC.ptr (by decide)), wkS.c (wkC.ptr (by decide)), trivial⟩ (Qxx _))⟩
   ·intro i hi j hj
    simp only [Qxy] at hi ⊢
    simp only [Qd6]
    rw [Qxt om]
    rfl
   ·rw [QX, hkn]
    by_cases c : i = k ∧ j = 2
    ·rw [Qxt (by simpa using c)]
     obtain ⟨rfl, rfl⟩ := c
     have e : Qbk d.zones (i + 1) i 2 = QlK (d.zones.getD i default).sectors := by
      simp only [Qbk]
      rw [Qxt om]
      rfl
     rw [e]
     refine wkC.fz rfl (by simp) (fun a ha b hb => leF.of_eq ?_) (fun _ => ⟨rfl, rfl⟩)
     simp only [Qxy] at ha ⊢
     simp only [Qd6]
     rw [Qxt om]
    ·rw [Qxu (by simpa using c), QnA]
     refine wkC.of_eq (QhS _ _ _ _) ?_
     simp only [Qbk]
     by_cases c1 : i < k
     ·rw [Qxt c1, Qxt om]
     ·rw [Qxu c1]
      by_cases c2 : i = k
      ·rw [Qxt om, Qs4 _ _ om]
      ·rw [Qxu om]
  ·have : k = d.zones.length := by omega
   subst this
   refine ⟨_, _, QwR (fun _ => 3) 1 rfl ⟨?_, ?_⟩ ?_, rfl, rfl⟩
   ·intro i o' hi
    match i with
    | 0 =>
     simp only [getL, Qxv] at hi
     subst hi
     exact ⟨_, rfl, O.wk.arr rfl fun i hi j hj => wkC.of_eq (QT _ _ _) (QnQ _ _ _ hi)⟩
    | i + 1 => simp [getL] at hi
   ·intro i j hi hj _
    simp only [QxR, Qx5] at hi hj
    omega
   ·exact wkS.a ⟨wkC.imm rfl, wkC.imm rfl, wkC.imm rfl, ⟨rfl, rfl, rfl, rfl, by decide, fun e => e⟩, trivial⟩
theorem Qbl : HB 162 := hB Tryz.func162
theorem Qvh : PS 172 [] (.c (.str (QQ 16 fun _ _ => .int .u8 0))) := by
 refine PSpec.rm ?_
 refine ov hΓ Tryz.func172 2 0 [.tmp 0] Tryz.ntmps172 Tryz.results172 ?_
 ((conv=>whnf);(repeat' ((first|refine Nd ?_|refine Hv fun _h=>?_);conv=>whnf)))
 refine QuU Qss (Qtp 16 om ) ?_
 conv=>whnf
 exact QuV
theorem Qvr : HB 172 := hB Tryz.func172
theorem Qv4 (hq : q < l.length) (i j : Nat) (hj : j < 12) : updG (wrkG l) q 5 e.cells i j = wrkG (l.set q { l.getD q default with ent := e }) i j := by
 refine QeA hq (es := 12) (fun j hj => ?_) i j hj
 match j, hj with
 | 0, _ => rfl
 | 1, _ => rfl
 | 2, _ => rfl
 | 3, _ => rfl
 | 4, _ => rfl
 | 5, _ => rfl
 | 6, _ => rfl
 | 7, _ => rfl
 | 8, _ => rfl
 | 9, _ => rfl
 | 10, _ => rfl
 | 11, _ => rfl
theorem Qrk (hq : q < l.length) (i j : Nat) (hj : j < 12) : updG (wrkG l) q 11 [.str d] i j = wrkG (l.set q { l.getD q default with data := d }) i j := by
 refine QeA hq (es := 12) (fun j hj => ?_) i j hj
 match j, hj with
 | 0, _ => rfl
 | 1, _ => rfl
 | 2, _ => rfl
 | 3, _ => rfl
 | 4, _ => rfl
 | 5, _ => rfl
 | 6, _ => rfl
 | 7, _ => rfl
 | 8, _ => rfl
 | 9, _ => rfl
 | 10, _ => rfl
 | 11, _ => rfl
theorem QvK (hq : q < l.length) (i j : Nat) (hj : j < 12) : updG (updG (wrkG l) q 5 e.cells) q 0 [.int .i64 st] i j = wrkG (l.set q { l.getD q default with ent := e, state := st }) i j := by
 rw [Qqg (Qv4 hq i j hj), Qi6 (by simpa using hq) i j hj, QsG hq, List.set_set]
theorem QeC (hq : q < l.length) (i j : Nat) (hj : j < 12) : updG (updG (wrkG l) q 11 [.str d]) q 0 [.int .i64 st] i j = wrkG (l.set q { l.getD q default with data := d, state := st }) i j := by
 rw [Qqg (Qrk hq i j hj), Qi6 (by simpa using hq) i j hj, QsG hq, List.set_set]
theorem QvT {st' : Int} (hq : q < l.length) (i j : Nat) (hj : j < 12) : updG (updG (updG (updG (wrkG l) q 5 e.cells) q 0 [.int .i64 st']) q 11 [.str d]) q 0 [.int .i64 st] i j = wrkG (l.set q { l.getD q default with ent := e, data := d, state := st }) i j := by
 rw [Qqg (Qqg (QvK hq i j hj)), QeC (by simpa using hq) i j hj, QsG hq, List.set_set]
def QcX (s : St) (w : Wrk) : Wrk := if (QfX s.map w.req.block).1.kind = 1 then { w with ent := (QfX s.map w.req.block).1, state := 3 } else { w with ent := (QfX s.map w.req.block).1, data := QQ 16 fun _ _ => .int .u8 0, state := 4 }
def QaG (s : St) (q : Int) : St := s.setWork q.toNat (QcX s (s.works.getD q.toNat default))
theorem Qvu (s : St) (hs : s.small) (q : Int) (h0 : 0 ≤ q) (h1 : q < s.works.length) : CS 74 [.c (.ptr 0 0)] [.vr (s.jobC q), s.wobj] fun x H => x = .c (.bool true) ∧ H = [.vr ((QaG s q).jobC q), (QaG s q).wobj] := by
 refine CSpec.rm ?_
 refine ov hΓ Tryz.func74 40 2 [.tmp 2] Tryz.ntmps74 Tryz.results74 ?_
 ((conv=>whnf);(repeat' ((first|refine Nd ?_|refine Hv fun _h=>?_);conv=>whnf)))
 refine CallN.autoI [0, 1] Qc4 (QcZ s q h0 h1) plh ?_; conv=>whnf
 ((conv=>whnf);(repeat' ((first|refine Nd ?_|refine Hv fun _h=>?_);conv=>whnf)))
 refine Qvd hΓ hMix [] [(14, 16)] (by kernel_rfl) ?_; conv=>whnf
 ((conv=>whnf);(repeat' ((first|refine Nd ?_|refine Hv fun _h=>?_);conv=>whnf)))
 refine Frc.mk (.c (.int .i64 (s.works.getD q.toNat default).req.block)) rfl ?_
 ((conv=>whnf);(repeat' ((first|refine Nd ?_|refine Hv fun _h=>?_);conv=>whnf)))
 refine CallP.auto Qvs (Qvg s.map (s.works.getD q.toNat default).req.block hs.map hs.shard ) ?_
 ((conv=>whnf);(repeat' ((first|refine Nd ?_|refine Hv fun _h=>?_);conv=>whnf)))
 by_cases c : (QfX s.map (s.works.getD q.toNat default).req.block).1.kind = 1
 ·refine Br.no (by rw [c]; rfl) ?_
  ((conv=>whnf);(repeat' ((first|refine Nd ?_|refine Hv fun _h=>?_);conv=>whnf)))
  have hl : QcX s (s.works.getD q.toNat default) = { s.works.getD q.toNat default with ent := (QfX s.map (s.works.getD q.toNat default).req.block).1, state := 3 } := Qxt c
  have hn : (QaG s q).works.length = s.works.length := QxT
  refine ⟨_, _, ?_, rfl, rfl⟩
  refine QvN ?_
  ·exact fun i _ j hj => WC.eq ((QvK om i j hj).trans (by unfold QaG; rw [hl]; rfl)) (QaW _ _)
 ·refine Br.yes (by rw [Qy2]; exact c) ?_
  ((conv=>whnf);(repeat' ((first|refine Nd ?_|refine Hv fun _h=>?_);conv=>whnf)))
  refine QuU Qvr (Qvh ) ?_
  ((conv=>whnf);(repeat' ((first|refine Nd ?_|refine Hv fun _h=>?_);conv=>whnf)))
  have hl : QcX s (s.works.getD q.toNat default) = { s.works.getD q.toNat default with ent := (QfX s.map (s.works.getD q.toNat default).req.block).1, data := QQ 16 fun _ _ => .int .u8 0, state := 4 } := Qxu c
  have hn : (QaG s q).works.length = s.works.length := QxT
  refine ⟨_, _, ?_, rfl, rfl⟩
  refine QvN ?_
  ·exact fun i _ j hj => WC.eq ((QvT om i j hj).trans (by unfold QaG; rw [hl]; rfl)) (QaW _ _)
theorem Qva : HB 74 := hB Tryz.func74
theorem Qqp (d : Dev) (zone : Int) : CS 161 [d.s, .c (.int .i64 zone)] [] (Qfs d zone) := by
 refine CSpec.rm ?_
 refine ov hΓ Tryz.func161 33 0 [.cell 4 29, .tmp 5] Tryz.ntmps161 Tryz.results161 ?_
 conv=>whnf
 refine CallN.pure Qef (Qd8 d ) (leA.refl rfl) rfl (Go0 ?_)
 have bad : ∀ (e : Int) (H : List O), QG d zone = e → e ≠ 0 → ∃ s' H'', RM 0 (.t [.inr d.cells, .inl (.int .i64 e)]) H s' H'' ∧ Qfs d zone s' H'' := by
  intro e H he hne
  refine ⟨_, [], RM.imm rfl (wkS.imm rfl), ?_⟩
  unfold Qfs
  rw [Qxu (by rw [he]; exact hne), he]
  exact ⟨rfl, rfl⟩
 refine Br.of (fun h1=>Go0 ?_) (fun h1=>Go0 ?_)
 ·exact bad _ _ (by simp only [QG]; rw [Qxu h1]) h1
 ·(first|refine Qu9 (fun h2=>?_) (fun h2=>?_)|refine Br.mk (fun h2=>?_) (fun h2=>?_)<;>simp [-List.length_eq_zero_iff,-List.getD_eq_getElem?_getD] at h2)<;>(try simp only [Qxy] at h2)<;>(conv=>whnf)
  ·refine Go0 ?_
   have : decide (0 ≤ zone ∧ zone < d.zones.length) = false := by simp only [QxM]; omega
   exact bad _ _ (by simp only [QG]; rw [Qxt h1, this]; rfl) (by decide)
  ·refine Go0 ?_
   have hz : decide (0 ≤ zone ∧ zone < d.zones.length) = true := by simp only [Qxw]; omega
   refine Br.of (fun h3=>Go0 ?_) (fun h3=>Go0 ?_)
   ·exact bad _ _ (by simp only [QG]; rw [Qxt h1, hz, Qxt rfl, Qxt h3]) (by decide)
   ·have he : QG d zone = 0 := by simp only [QG]; rw [Qxt h1, hz, Qxt rfl, Qxu h3]
    refine CallN.opens Qbl (Qbu d (check_ok.1 h1).small) (leA.refl rfl) ?_
    rintro s Hc ⟨rfl, rfl⟩
    refine ⟨.a (d.own 2), [.vr d.cells, .vr [.int .i64 0, .int .i64 0, .int .i64 0, .nils], .arr 76 3 d.zones.length (Qn d.zones)], rfl, QxK (fun g => [O.vr d.cells, O.vr [.int .i64 0, .int .i64 0, .int .i64 0, .nils], O.arr 76 3 d.zones.length g]) (Qdt _ _), ?_⟩
    refine Go0 ?_
    refine ⟨.t [.inr (d.own 0), .inl (.int .i64 0)], [.arr 76 3 d.zones.length (Qn d.zones)], Qxe 2 rfl rfl (fun i hi j hj => wkC.imm (QT _ _ _)) (wkS.t ⟨⟨wkC.imm rfl, wkC.imm rfl, wkC.imm rfl, wkC.own rfl rfl (fun e => e), trivial⟩, wkC.imm rfl, trivial⟩), ?_⟩
    unfold Qfs
    rw [Qxt he]
    exact ⟨rfl, rfl⟩
theorem Qp9 : HB 161 := hB Tryz.func161
theorem QvF (d : Dev) (zone off : Int) : PS 173 [d.s, .c (.int .i64 zone), .c (.int .i64 off)] (.t [.inl (.str (Q5 d zone off)), .inl (.int .i64 (QdD d zone off))]) := by
 refine PSpec.rm ?_
 refine ov hΓ Tryz.func173 41 0 [.tmp 6, .tmp 7] Tryz.ntmps173 Tryz.results173 ?_
 conv=>whnf
 refine CallN.opens Qp9 (Qqp d zone) (leA.refl rfl) ?_
 rintro s Hc hq
 by_cases he : QG d zone = 0
 ·simp only [Qfs, Qxt he] at hq
  obtain ⟨rfl, rfl⟩ := hq
  obtain ⟨hok, hz0, hz1⟩ := QcA he
  refine ⟨.t [.inr (d.own 1), .inl (.int .i64 0)], _, rfl, Qa2 _ _ _ _, ?_⟩
  refine Go0 ?_
  refine Br.no rfl (Go0 ?_)
  refine Frc.mk _ rfl (Go0 ?_)
  have hrE : ∀ e : Int, (if decide (0 ≤ off ∧ off < (d.zones.getD zone.toNat default).sectors.length) then 0 else 10) = e → QdD d zone off = e := by
   intro e h; simp only [QdD, Qxt he]; exact h
  (first|refine Qu9 (fun h2=>?_) (fun h2=>?_)|refine Br.mk (fun h2=>?_) (fun h2=>?_)<;>simp [-List.length_eq_zero_iff,-List.getD_eq_getElem?_getD] at h2)<;>(try simp only [Qxy] at h2)<;>(conv=>whnf)
  ·refine Go0 ?_
   have : decide (0 ≤ off ∧ off < (d.zones.getD zone.toNat default).sectors.length) = false := by simp only [QxM]; omega
   have h10 := hrE 10 (by rw [this]; rfl)
   exact RM.imm rfl (wkS.t ⟨wkC.str (by simp only [Q5, h10]; rfl), wkC.int h10.symm, trivial⟩)
  ·refine Go0 ?_
   have : decide (0 ≤ off ∧ off < (d.zones.getD zone.toNat default).sectors.length) = true := by simp only [Qxw]; omega
   have h0 := hrE 0 (by rw [this]; rfl)
   refine Frc.mk _ rfl (Go0 ?_)
   exact RM.imm rfl (wkS.t ⟨wkC.str (by simp only [Q5, h0]; rfl), wkC.int h0.symm, trivial⟩)
 ·simp only [Qfs, Qxu he] at hq
  obtain ⟨rfl, rfl⟩ := hq
  refine ⟨_, _, rfl, Qng _, ?_⟩
  refine Go0 ?_
  refine Br.of (fun h1=>?_) (fun h1=>?_)<;>(try simp only [Qxy] at h1)<;>(conv=>whnf)
  ·refine Go0 ?_
   have : QdD d zone off = QG d zone := by simp only [QdD, Qxu he]
   have : Q5 d zone off = ByteArray.empty := by simp only [Q5, this, Qxu he]
   exact RM.imm rfl (wkS.t ⟨wkC.str (by rw [this]; rfl), wkC.int (by simp only [QdD, Qxu he]), trivial⟩)
  ·exact absurd h1 he
theorem Qvy : HB 173 := hB Tryz.func173
theorem Qv3 {d' : ByteArray} (hq : q < l.length) (i j : Nat) (hj : j < 12) : updG (updG (updG (wrkG l) q 11 [.str d']) q 0 [.int .i64 st]) q 11 [.str d] i j = wrkG (l.set q { l.getD q default with data := d, state := st }) i j := by
 rw [Qqg (QeC hq i j hj), Qrk (by simpa using hq) i j hj, QsG hq, List.set_set]
def Qds (s : St) (w : Wrk) : ByteArray := if decE (Q5 s.dev w.ent.zone w.ent.offset) = 0 ∧ (decR (Q5 s.dev w.ent.zone w.ent.offset)).kind = 1 ∧ (decR (Q5 s.dev w.ent.zone w.ent.offset)).block = w.ent.block ∧ (decR (Q5 s.dev w.ent.zone w.ent.offset)).version = w.ent.version then (decR (Q5 s.dev w.ent.zone w.ent.offset)).payload else ByteArray.empty
def QbS (s : St) (q : Int) : St := s.setWork q.toNat { s.works.getD q.toNat default with data := Qds s (s.works.getD q.toNat default), state := 4 }
theorem Qu0 (s : St) (hs : s.small) (q : Int) (h0 : 0 ≤ q) (h1 : q < s.works.length) : CS 75 [.c (.ptr 0 0)] [.vr (s.jobC q), s.wobj] fun x H => x = .c (.bool true) ∧ H = [.vr ((QbS s q).jobC q), (QbS s q).wobj] := by
 refine CSpec.rm ?_
 refine ov hΓ Tryz.func75 74 2 [.tmp 2] Tryz.ntmps75 Tryz.results75 ?_
 ((conv=>whnf);(repeat' ((first|refine Nd ?_|refine Hv fun _h=>?_);conv=>whnf)))
 refine CallN.autoI [0, 1] Qc4 (QcZ s q h0 h1) plh ?_; conv=>whnf
 ((conv=>whnf);(repeat' ((first|refine Nd ?_|refine Hv fun _h=>?_);conv=>whnf)))
 refine Dr.mk hΓ hMix (by kernel_rfl) ?_; conv=>whnf
 ((conv=>whnf);(repeat' ((first|refine Nd ?_|refine Hv fun _h=>?_);conv=>whnf)))
 refine Frc.mk (.c (.int .i64 (s.works.getD q.toNat default).ent.zone)) (QxK S.c ((QeC om q.toNat 9 (by decide)).trans (by simp only [wrkG, rowG]; rw [QsG om]; rfl))) ?_
 ((conv=>whnf);(repeat' ((first|refine Nd ?_|refine Hv fun _h=>?_);conv=>whnf)))
 refine Frc.mk (.c (.int .i64 (s.works.getD q.toNat default).ent.offset)) (QxK S.c ((QeC om q.toNat 10 (by decide)).trans (by simp only [wrkG, rowG]; rw [QsG om]; rfl))) ?_
 ((conv=>whnf);(repeat' ((first|refine Nd ?_|refine Hv fun _h=>?_);conv=>whnf)))
 refine CallP.auto Qvy (QvF s.dev (s.works.getD q.toNat default).ent.zone (s.works.getD q.toNat default).ent.offset ) ?_
 ((conv=>whnf);(repeat' ((first|refine Nd ?_|refine Hv fun _h=>?_);conv=>whnf)))
 ((conv=>whnf);(repeat' ((first|refine Nd ?_|refine Hv fun _h=>?_);conv=>whnf)))
 refine QuU Qnf (QmF (Q5 s.dev (s.works.getD q.toNat default).ent.zone (s.works.getD q.toNat default).ent.offset) ) ?_
 ((conv=>whnf);(repeat' ((first|refine Nd ?_|refine Hv fun _h=>?_);conv=>whnf)))
 refine Dr.mk hΓ hMix (by kernel_rfl) ?_; conv=>whnf
 ((conv=>whnf);(repeat' ((first|refine Nd ?_|refine Hv fun _h=>?_);conv=>whnf)))
 refine Frc.mk (.c (.int .i64 (s.works.getD q.toNat default).ent.block)) (QxK S.c ((QeC om q.toNat 5 (by decide)).trans (by simp only [wrkG, rowG]; rw [QsG om]; rfl))) ?_
 ((conv=>whnf);(repeat' ((first|refine Nd ?_|refine Hv fun _h=>?_);conv=>whnf)))
 ((conv=>whnf);(repeat' ((first|refine Nd ?_|refine Hv fun _h=>?_);conv=>whnf)))
 refine Frc.mk (.c (.int .i64 (s.works.getD q.toNat default).ent.version)) (QxK S.c ((QeC om q.toNat 7 (by decide)).trans (by simp only [wrkG, rowG]; rw [QsG om]; rfl))) ?_
 ((conv=>whnf);(repeat' ((first|refine Nd ?_|refine Hv fun _h=>?_);conv=>whnf)))
 ((conv=>whnf);(repeat' ((first|refine Nd ?_|refine Hv fun _h=>?_);conv=>whnf)))
 have hn : (QbS s q).works.length = s.works.length := QxT
 by_cases c : decE (Q5 s.dev (s.works.getD q.toNat default).ent.zone (s.works.getD q.toNat default).ent.offset) = 0 ∧ (decR (Q5 s.dev (s.works.getD q.toNat default).ent.zone (s.works.getD q.toNat default).ent.offset)).kind = 1 ∧ (decR (Q5 s.dev (s.works.getD q.toNat default).ent.zone (s.works.getD q.toNat default).ent.offset)).block = (s.works.getD q.toNat default).ent.block ∧ (decR (Q5 s.dev (s.works.getD q.toNat default).ent.zone (s.works.getD q.toNat default).ent.offset)).version = (s.works.getD q.toNat default).ent.version
 ·have hl : Qds s (s.works.getD q.toNat default) = (decR (Q5 s.dev (s.works.getD q.toNat default).ent.zone (s.works.getD q.toNat default).ent.offset)).payload := Qxt c
  refine Br.yes (by rw [c.1, c.2.1, c.2.2.1, c.2.2.2]; simp) ?_
  ((conv=>whnf);(repeat' ((first|refine Nd ?_|refine Hv fun _h=>?_);conv=>whnf)))
  refine ⟨_, _, ?_, rfl, rfl⟩
  refine QvN ?_
  ·exact fun i _ j hj => WC.eq ((Qv3 om i j hj).trans (by unfold QbS; rw [hl]; rfl)) (QaW _ _)
 ·have hl : Qds s (s.works.getD q.toNat default) = ByteArray.empty := Qxu c
  refine Br.no (QxG.2 fun z => c (by simpa [and_assoc] using z)) ?_
  ((conv=>whnf);(repeat' ((first|refine Nd ?_|refine Hv fun _h=>?_);conv=>whnf)))
  refine ⟨_, _, ?_, rfl, rfl⟩
  refine QvN ?_
  ·exact fun i _ j hj => WC.eq ((QeC om i j hj).trans (by unfold QbS; rw [hl]; rfl)) (QaW _ _)
theorem Qu4 : HB 75 := hB Tryz.func75
def St.jobF (s : St) (q : Int) : List C := s.cells ++ [.int .i64 q]
theorem Qpd : HB 77 := hB Tryz.func77
theorem Qph (s : St) (q : Int) (h0 : 0 ≤ q) (h1 : q < s.works.length) : CS 77 [.c (.ptr 0 0)] [.vr (s.jobF q)] fun x H => x = .c (.ip 12 fun j => wrkG s.works q.toNat j) ∧ H = [.vr (s.jobF q)] := by
 refine CSpec.rm ?_
 refine ov hΓ Tryz.func77 13 1 [.tmp 2] Tryz.ntmps77 Tryz.results77 ?_
 ((conv=>whnf);(repeat' ((first|refine Nd ?_|refine Hv fun _h=>?_);conv=>whnf)))
 refine Dr.mk hΓ hMix (by kernel_rfl) ?_; conv=>whnf
 ((conv=>whnf);(repeat' ((first|refine Nd ?_|refine Hv fun _h=>?_);conv=>whnf)))
 refine ⟨_, _, ?_, rfl, rfl⟩
 exact RM.refl
def QcC (s : St) (q : Int) : St × Bool :=
 if (QaU s.glob s.pins s.rets q).2 = true then QoA { s with pins := (QaU s.glob s.pins s.rets q).1 } q (if (s.works.getD q.toNat default).data = ByteArray.empty then 14 else 0) (s.works.getD q.toNat default).data else (s, false)
theorem QvW {g : Int} {p : List Int} {r : List Ret} {q : Int} {n : Nat} (h : p.length ≤ n) : (QaU g p r q).1.length ≤ n := by
 unfold QaU
 split
 ·rw [QxT]; exact h
 ·exact h
theorem Quc (s : St) (hs : s.small) (l : List Ent) (hall : Qx s.map = true → AllS s.map l) (q : Int) (h0 : 0 ≤ q) (h1 : q < s.works.length) : CS 76 [.c (.ptr 0 0)] [.vr (s.jobF q)] fun x H => x = .c (.bool (QcC s q).2) ∧ H = [.vr ((QcC s q).1.jobF q)] := by
 refine CSpec.rm ?_
 refine ov hΓ Tryz.func76 53 1 [.tmp 2] Tryz.ntmps76 Tryz.results76 ?_
 ((conv=>whnf);(repeat' ((first|refine Nd ?_|refine Hv fun _h=>?_);conv=>whnf)))
 refine Qvd hΓ hMix [] [(12, 14)] (by kernel_rfl) ?_; conv=>whnf
 ((conv=>whnf);(repeat' ((first|refine Nd ?_|refine Hv fun _h=>?_);conv=>whnf)))
 refine CallP.auto Qu5 (Qsi s.glob s.pins s.rets q hs.pins hs.rets ) ?_
 ((conv=>whnf);(repeat' ((first|refine Nd ?_|refine Hv fun _h=>?_);conv=>whnf)))
 by_cases c : (QaU s.glob s.pins s.rets q).2 = true
 ·refine Br.no (by rw [c]; rfl) ?_
  ((conv=>whnf);(repeat' ((first|refine Nd ?_|refine Hv fun _h=>?_);conv=>whnf)))
  refine CallN.autoI [0] Qpd (Qph { s with pins := (QaU s.glob s.pins s.rets q).1 } q h0 h1) plh ?_; conv=>whnf
  ((conv=>whnf);(repeat' ((first|refine Nd ?_|refine Hv fun _h=>?_);conv=>whnf)))
  have hsp : St.small { s with pins := (QaU s.glob s.pins s.rets q).1 } := { hs with pins := QvW hs.pins }
  by_cases cd : (s.works.getD q.toNat default).data = ByteArray.empty
  ·refine Br.yes (Qxz cd) ?_
   ((conv=>whnf);(repeat' ((first|refine Nd ?_|refine Hv fun _h=>?_);conv=>whnf)))
   refine Qvd hΓ hMix [] [(13, 16)] (by kernel_rfl) ?_; conv=>whnf
   ((conv=>whnf);(repeat' ((first|refine Nd ?_|refine Hv fun _h=>?_);conv=>whnf)))
   refine CallP.auto Qly (QkZ { s with pins := (QaU s.glob s.pins s.rets q).1 } hsp l hall q 14 (s.works.getD q.toNat default).data ) ?_
   ((conv=>whnf);(repeat' ((first|refine Nd ?_|refine Hv fun _h=>?_);conv=>whnf)))
   rw [show QcC s q = QoA { s with pins := (QaU s.glob s.pins s.rets q).1 } q 14 (s.works.getD q.toNat default).data from (Qxt c).trans (by rw [Qxt cd])]
   refine ⟨_, _, ?_, rfl, rfl⟩
   exact QvB
  ·refine Br.no (QxE cd) ?_
   ((conv=>whnf);(repeat' ((first|refine Nd ?_|refine Hv fun _h=>?_);conv=>whnf)))
   refine Qvd hΓ hMix [] [(13, 16)] (by kernel_rfl) ?_; conv=>whnf
   ((conv=>whnf);(repeat' ((first|refine Nd ?_|refine Hv fun _h=>?_);conv=>whnf)))
   refine CallP.auto Qly (QkZ { s with pins := (QaU s.glob s.pins s.rets q).1 } hsp l hall q 0 (s.works.getD q.toNat default).data ) ?_
   ((conv=>whnf);(repeat' ((first|refine Nd ?_|refine Hv fun _h=>?_);conv=>whnf)))
   rw [show QcC s q = QoA { s with pins := (QaU s.glob s.pins s.rets q).1 } q 0 (s.works.getD q.toNat default).data from (Qxt c).trans (by rw [Qxu cd])]
   refine ⟨_, _, ?_, rfl, rfl⟩
   exact QvB
 ·refine Br.yes (by rw [QxG.2 c]; rfl) ?_
  ((conv=>whnf);(repeat' ((first|refine Nd ?_|refine Hv fun _h=>?_);conv=>whnf)))
  rw [show QcC s q = (s, false) from Qxu c]
  refine ⟨_, _, ?_, rfl, rfl⟩
  exact QvB
theorem QuZ : HB 76 := hB Tryz.func76
end Go.Proofs
end
