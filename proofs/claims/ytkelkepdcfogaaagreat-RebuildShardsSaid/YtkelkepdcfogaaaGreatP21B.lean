/- Contracts, lemmas; no condition. -/
import Derived.Test.YtkelkepdcfogaaaGreatP20B
import Derived.Test.YtkelkepdcfogaaaGreatP16B
import Derived.Test.YtkelkepdcfogaaaGreatP19B
import Derived.Test.YtkelkepdcfogaaaGreatP17B
import Derived.Test.YtkelkepdcfogaaaGreatP18B
import Derived.Test.YtkelkepdcfogaaaGreatA38B
set_option linter.all false
section
open Go Go.Am
namespace Go.Proofs
set_option maxRecDepth 20000
theorem Qi5 (l : List ByteArray) (hl : l.length ≤ 100) (hs : ∀ x ∈ l, x.size ≤ 1000) : PS 181 [.c (Qcs l)] (.c (.str (catB l))) := by
  refine PSpec.rm ?_
  refine ov hΓ Tryz.func181 5 0 [.tmp 2] Tryz.ntmps181 Tryz.results181 ?_
  ((conv=>whnf);(repeat' ((first|refine Nd ?_|refine Hv fun _h=>?_);conv=>whnf)))
  refine CallN.pureA QjT (QjH l hl hs ) ?_
  ((conv=>whnf);(repeat' ((first|refine Nd ?_|refine Hv fun _h=>?_);conv=>whnf)))
  exact RM.i0
theorem QiF : HB 181 := hB Tryz.func181
theorem QiN (l : List ByteArray) (hl : l.length ≤ 100) (hs : ∀ x ∈ l, x.size ≤ 1000) : PS 170 [.c (Qcs l)] (.c (.str (catB l))) := by
  refine PSpec.rm ?_
  refine ov hΓ Tryz.func170 5 0 [.tmp 2] Tryz.ntmps170 Tryz.results170 ?_
  ((conv=>whnf);(repeat' ((first|refine Nd ?_|refine Hv fun _h=>?_);conv=>whnf)))
  refine CallN.pureA QjT (QjH l hl hs ) ?_
  ((conv=>whnf);(repeat' ((first|refine Nd ?_|refine Hv fun _h=>?_);conv=>whnf)))
  exact RM.i0
theorem Qix : HB 170 := hB Tryz.func170
def sufS (n : Int) (size k : Nat) : ByteArray := QJ k fun i _ => .int .u8 (putB n (size - k + i))
theorem Qto (n : Int) (size : Nat) : sufS n size size = putS n size := Qga fun i _ => by rw [Nat.sub_self, Nat.zero_add]
theorem QsN {n : Int} {size : Nat} (h1 : 1 ≤ size) (h7 : size ≤ 7) (h0 : 0 ≤ n) (hn : n < 2 ^ (8 * size)) : n.fdiv (2 ^ (min (IntKind.i64.wrap (8 * (size : Int))).toNat IntKind.i64.bits)) = 0 := by
  have e : IntKind.i64.wrap (8 * (size : Int)) = 8 * size := Qa _ (by omega) (by omega)
  rw [e, show (8 * (size : Int)).toNat = 8 * size by omega, Nat.min_eq_left (by show 8 * size ≤ 64; omega), Int.fdiv_eq_ediv_of_nonneg _ (Int.le_of_lt (Int.pow_pos (by decide)))]
  exact Int.ediv_eq_zero_of_lt h0 hn
theorem Qua {n : Int} {i : Nat} (h : i < 7) : IntKind.u8.wrap (n.fdiv (2 ^ (min (IntKind.i64.wrap (8 * (i : Int))).toNat IntKind.i64.bits))) = putB n i := by
  unfold putB
  rw [show IntKind.u64.wrap (IntKind.i64.wrap (8 * (i : Int))) = IntKind.i64.wrap (8 * (i : Int)) by rw [Qa _ (by omega) (by omega), IntKind.wrap_u64]; omega]
theorem Qta {n : Int} {size k : Nat} (h : k < size) : catB [QJ 1 fun _ _ => .int .u8 (putB n (size - 1 - k)), sufS n size k] = sufS n size (k + 1) := by
  show (ByteArray.empty ++ QJ 1 _) ++ sufS n size k = _
  rw [ByteArray.empty_append]
  unfold sufS
  apply ByteArray.ext
  rw [ByteArray.data_append]
  unfold QJ
  apply Array.toList_inj.1
  rw [Array.toList_append]
  simp only [List.toList_toArray]
  rw [show List.range 1 = [0] from rfl, List.range_succ_eq_map]
  simp only [List.map_cons, List.map_nil, List.map_map, List.singleton_append]
  refine List.cons_eq_cons.2 ⟨?_, List.map_congr_left fun i _ => ?_⟩
  · exact congrArg (fun m => Qcy (.int .u8 (putB n m))) (by omega)
  · exact congrArg (fun m => Qcy (.int .u8 (putB n m))) (by show _ = size - (k + 1) + (i + 1); omega)
set_option maxHeartbeats 2000000 in
theorem QeQ (n : Int) (size : Nat) (h1 : 1 ≤ size) (h7 : size ≤ 7) (h0 : 0 ≤ n) (hn : n < 2 ^ (8 * size)) : PS 180 [.c (.int .i64 n), .c (.int .i64 size)] (.t [.inl (.str (putS n size)), .inl (.int .i64 0)]) := by
  have hz := QsN h1 h7 h0 hn
  have hw : 0 ≤ IntKind.i64.wrap (8 * (size : Int)) := by rw [Qa _ (by omega) (by omega)]; omega
  refine PSpec.rm ?_
  refine ov hΓ Tryz.func180 42 0 [.tmp 4, .tmp 5] Tryz.ntmps180 Tryz.results180 ?_
  ((conv=>whnf);(repeat' ((first|refine Nd ?_|refine Hv fun _h=>?_);conv=>whnf)))
  refine Br.no (by rw [hz]; simp; omega) ?_
  ((conv=>whnf);(repeat' ((first|refine Nd ?_|refine Hv fun _h=>?_);conv=>whnf)))
  have w1 := Qa ((size : Int) - 1) (by omega) (by omega)
  refine Lp.mkK hΓ (ι := Nat) [0, 4, 5] (fun k => [(7, .c (.int .i64 ((size : Int) - 1 - k))), (6, .c (.str (sufS n size k)))]) (fun _ => []) (fun k => k ≤ size) (fun k => size - k) 0 (Nat.zero_le _) ?_ ?_
  · exact Mv.k0
  · intro k hk
    ((conv=>whnf);(repeat' ((first|refine Nd ?_|refine Hv fun _h=>?_);conv=>whnf)))
    refine Br.of (fun h2=>?_) (fun h2=>?_)<;>(try simp only [Int.toNat_natCast] at h2)<;>(conv=>whnf)
    · have ei : (size : Int) - 1 - k = ((size - 1 - k : Nat) : Int) := by omega
      have hw2 : 0 ≤ IntKind.i64.wrap (8 * ((size : Int) - 1 - k)) := by rw [Qa _ (by omega) (by omega)]; omega
      have w2 := Qa ((size : Int) - 1 - k - 1) (by omega) (by omega)
      ((conv=>whnf);(repeat' ((first|refine Nd ?_|refine Hv fun _h=>?_);conv=>whnf)))
      refine Need.mk (fun i hi => ⟨_, by obtain rfl : i = 0 := by omega
                                         rfl⟩) ?_
      ((conv=>whnf);(repeat' ((first|refine Nd ?_|refine Hv fun _h=>?_);conv=>whnf)))
      have hb : IntKind.u8.wrap (n.fdiv (2 ^ min (IntKind.i64.wrap (8 * ((size : Int) - 1 - k))).toNat IntKind.i64.bits)) = putB n (size - 1 - k) := by rw [ei]; exact Qua (by omega)
      rw [hb]
      refine CallN.reads QiF (Qi5 [QJ 1 fun _ _ => .int .u8 (putB n (size - 1 - k)), sufS n size k] (by simp) (fun x hx => by
        rcases List.mem_cons.1 hx with rfl | hx
        · rw [QaZ]; omega
        · rw [List.mem_singleton.1 hx]
          unfold sufS
          rw [QaZ]; omega)) (BwA.cons (BwS.c (Bw.sl rfl rfl (fun i hi j hj => by
            match i, hi with
            | 0, _ =>
              have hj : j < 1 := hj
              obtain rfl : j = 0 := by omega
              exact Bw.same (c := .str (QJ 1 fun _ _ => .int .u8 (putB n (size - 1 - k)))) rfl
            | 1, _ =>
              have hj : j < 1 := hj
              obtain rfl : j = 0 := by omega
              exact Bw.same (c := .str (sufS n size k)) rfl) (fun e => by cases e))) BwA.nil) rfl ?_
      ((conv=>whnf);(repeat' ((first|refine Nd ?_|refine Hv fun _h=>?_);conv=>whnf)))
      rw [Qta (by omega)]
      refine ⟨k + 1, by omega, by omega, ?_⟩
      exact Mv.k0
    · ((conv=>whnf);(repeat' ((first|refine Nd ?_|refine Hv fun _h=>?_);conv=>whnf)))
      have : k = size := by omega
      subst this
      rw [Qto]
      exact RM.i0
theorem QeL : HB 180 := hB Tryz.func180
theorem Qge (b : ByteArray) (hb : b.size ≤ 10000000) : PS 151 [.c (.str b)] (.c (.int .u32 (addU 0 b))) := by
 refine PSpec.rm ?_
 refine ov hΓ Tryz.func151 5 0 [.tmp 2] Tryz.ntmps151 Tryz.results151 ?_
 ((conv=>whnf);(repeat' ((first|refine Nd ?_|refine Hv fun _h=>?_);conv=>whnf)))
 refine CallN.pureA Qjs (QjE 0 b hb ) ?_
 ((conv=>whnf);(repeat' ((first|refine Nd ?_|refine Hv fun _h=>?_);conv=>whnf)))
 exact RM.i0
theorem Qgy : HB 151 := hB Tryz.func151
theorem Qsi (b : ByteArray) (hb : b.size ≤ 1000) : PS 172 [.c (.str b), .c (.int .i64 20)] (.c (.str (padS b))) := by
 refine PSpec.rm ?_
 refine ov hΓ Tryz.func172 18 0 [.tmp 4] Tryz.ntmps172 Tryz.results172 ?_
 ((conv=>whnf);(repeat' ((first|refine Nd ?_|refine Hv fun _h=>?_);conv=>whnf)))
 by_cases h : b.size < 20
 ·refine Br.no (decide_eq_false (by omega)) ?_
  have w0 : IntKind.i64.wrap ((20 : Int) - b.size) = ((20 - b.size : Nat) : Int) := by rw [Qa _ (by omega) (by omega)]; omega
  ((conv=>whnf);(repeat' ((first|refine Nd ?_|refine Hv fun _h=>?_);conv=>whnf)))
  rw [w0]
  refine CallN.pureA Qty (QsI (20 - b.size) (by omega) ) ?_
  ((conv=>whnf);(repeat' ((first|refine Nd ?_|refine Hv fun _h=>?_);conv=>whnf)))
  refine CallN.reads QiF (Qi5 [b, QJ (20 - b.size) fun _ _ => .int .u8 0] (by simp) (fun x hx => by
   rcases List.mem_cons.1 hx with rfl | hx
   ·exact hb
   ·rw [List.mem_singleton.1 hx, QaZ]; omega)) (BwA.cons (BwS.c (Bw.sl rfl rfl (fun i hi j hj => by
    match i, hi with
    | 0, _ =>
     have hj : j < 1 := hj
     obtain rfl : j = 0 := by omega
     exact Bw.same (c := .str b) rfl
    | 1, _ =>
     have hj : j < 1 := hj
     obtain rfl : j = 0 := by omega
     exact Bw.same (c := .str (QJ (20 - b.size) fun _ _ => .int .u8 0)) rfl) (fun e => by cases e))) BwA.nil) rfl ?_
  ((conv=>whnf);(repeat' ((first|refine Nd ?_|refine Hv fun _h=>?_);conv=>whnf)))
  rw [show padS b = catB [b, QJ (20 - b.size) fun _ _ => .int .u8 0] by
   show _ = (ByteArray.empty ++ b) ++ _
   rw [ByteArray.empty_append]
   exact if_pos h]
  exact RM.i0
 ·refine Br.yes (decide_eq_true (by omega)) ?_
  ((conv=>whnf);(repeat' ((first|refine Nd ?_|refine Hv fun _h=>?_);conv=>whnf)))
  rw [show padS b = b from if_neg h]
  exact RM.i0
theorem QrK : HB 172 := hB Tryz.func172
theorem QcI (n : Int) (size : Nat) (h1 : 1 ≤ size) (h7 : size ≤ 7) (h0 : 0 ≤ n) (hn : n < 2 ^ (8 * size)) : PS 171 [.c (.int .i64 n), .c (.int .i64 size)] (.c (.str (putS n size))) := by
 refine PSpec.rm ?_
 refine ov hΓ Tryz.func171 14 0 [.tmp 4] Tryz.ntmps171 Tryz.results171 ?_
 ((conv=>whnf);(repeat' ((first|refine Nd ?_|refine Hv fun _h=>?_);conv=>whnf)))
 refine CallN.pureA QeL (QeQ n size h1 h7 h0 hn ) ?_
 ((conv=>whnf);(repeat' ((first|refine Nd ?_|refine Hv fun _h=>?_);conv=>whnf)))
 exact RM.i0
theorem QcH : HB 171 := hB Tryz.func171
set_option maxHeartbeats 2000000 in
theorem Qog (r : Rec) : PS 169 [.a r.cells] (.c (.int .i64 (QB r))) := by
 refine PSpec.rm ?_
 refine ov hΓ Tryz.func169 63 0 [.tmp 2] Tryz.ntmps169 Tryz.results169 ?_
 ((conv=>whnf);(repeat' ((first|refine Nd ?_|refine Hv fun _h=>?_);conv=>whnf)))
 by_cases h1 : 1 ≤ r.kind ∧ r.kind ≤ 6
 ·refine Br.no (by simp; omega) ?_
  ((conv=>whnf);(repeat' ((first|refine Nd ?_|refine Hv fun _h=>?_);conv=>whnf)))
  by_cases h2 : 0 ≤ r.block ∧ r.block ≤ 4294967295 ∧ 0 ≤ r.version ∧ r.version ≤ 1099511627776 ∧ 0 ≤ r.move ∧ r.move ≤ 255
  ·refine Br.no (by simp; omega) ?_
   ((conv=>whnf);(repeat' ((first|refine Nd ?_|refine Hv fun _h=>?_);conv=>whnf)))
   by_cases h3 : r.payload.size ≤ 20 ∧ (r.kind = 1 → r.payload.size = 16) ∧ (r.kind = 2 → r.payload.size = 0)
   ·refine Br.no (by
     obtain ⟨a, b, c⟩ := h3
     by_cases k1 : r.kind = 1
     ·have := b k1
      simp [k1, this]
     ·by_cases k2 : r.kind = 2
      ·have := c k2
       simp [k2, this]
      ·simp [k1, k2]; omega) ?_
    ((conv=>whnf);(repeat' ((first|refine Nd ?_|refine Hv fun _h=>?_);conv=>whnf)))
    rw [show QB r = 0 by unfold QB; rw [if_pos (decide_eq_true h1), if_pos (decide_eq_true h2), if_pos (decide_eq_true h3)]]
    exact RM.i0
   ·refine Br.yes (Decidable.byContradiction fun z => h3 (by
     have z := Bool.eq_false_iff.2 z
     by_cases k1 : r.kind = 1
     ·simp [k1] at z; omega
     ·by_cases k2 : r.kind = 2
      ·simp [k2] at z
       have := z.2
       refine ⟨by omega, by omega, fun _ => ?_⟩
       simp_all
      ·simp [k1, k2] at z; omega)) ?_
    ((conv=>whnf);(repeat' ((first|refine Nd ?_|refine Hv fun _h=>?_);conv=>whnf)))
    rw [show QB r = 2 by unfold QB; rw [if_pos (decide_eq_true h1), if_pos (decide_eq_true h2), if_neg (by rw [decide_eq_true_eq]; exact h3)]]
    exact RM.i0
  ·refine Br.yes (Decidable.byContradiction fun z => h2 (by
    have z := Bool.eq_false_iff.2 z
    simp at z
    omega)) ?_
   ((conv=>whnf);(repeat' ((first|refine Nd ?_|refine Hv fun _h=>?_);conv=>whnf)))
   rw [show QB r = 1 by unfold QB; rw [if_pos (decide_eq_true h1), if_neg (by rw [decide_eq_true_eq]; exact h2)]]
   exact RM.i0
 ·refine Br.yes (Decidable.byContradiction fun z => h1 (by
   have z := Bool.eq_false_iff.2 z
   simp at z
   omega)) ?_
  ((conv=>whnf);(repeat' ((first|refine Nd ?_|refine Hv fun _h=>?_);conv=>whnf)))
  rw [show QB r = 3 by unfold QB; rw [if_neg (by rw [decide_eq_true_eq]; exact h1)]]
  exact RM.i0
theorem Qnd : HB 169 := hB Tryz.func169
theorem WC.strs {ρ : Nat → Nat} {n m : Nat} {t : Bool} {g : Nat → Nat → C} {l : List ByteArray} (hm : m = l.length) (hg : ∀ i, i < m → g i 0 = .str (l.getD i ByteArray.empty)) : WC ρ n (.isl 1 m g t) (Qcs l) :=
 WC.isl hm (fun i hi j hj => by
  obtain rfl : j = 0 := by omega
  exact hg i hi) (fun e => by cases e)
def Qgw (r : Rec) : List ByteArray := [⟨#[90, 65]⟩, putS r.kind 1, putS r.payload.size 1, putS r.block 4, putS r.version 6, putS r.move 1, ⟨#[0]⟩, padS r.payload]
theorem QqI (r : Rec) : catB (Qgw r) = Qay r := by
 unfold catB Qgw Qay
 simp only [List.foldl_cons, List.foldl_nil, ByteArray.empty_append]
theorem QnY {r : Rec} (h : QB r = 0) : ∀ x ∈ Qgw r, x.size ≤ 1000 := fun x hx => by
 obtain ⟨h1, h2, h3⟩ := QaC h
 have hp := Qbg r.payload h3
 simp only [Qgw, List.mem_cons, List.mem_nil_iff, or_false] at hx
 rcases hx with rfl | rfl | rfl | rfl | rfl | rfl | rfl | rfl <;> first | (rw [Qn]; omega) | (rw [hp]; omega) | decide
theorem QsX {r : Rec} (h : QB r = 0) : (Qay r).size = 36 := by
 obtain ⟨h1, h2, h3⟩ := QaC h
 unfold Qay
 simp only [ByteArray.size_append, Qn, Qbg r.payload h3]
 rfl
set_option maxHeartbeats 4000000 in
theorem QgS (r : Rec) : PS 153 [.a r.cells] (.t [.inl (.str (encR r)), .inl (.int .i64 (QB r))]) := by
 refine PSpec.rm ?_
 refine ov hΓ Tryz.func153 39 0 [.tmp 2, .tmp 3] Tryz.ntmps153 Tryz.results153 ?_
 ((conv=>whnf);(repeat' ((first|refine Nd ?_|refine Hv fun _h=>?_);conv=>whnf)))
 refine CallN.pureA Qnd (Qog r ) ?_
 ((conv=>whnf);(repeat' ((first|refine Nd ?_|refine Hv fun _h=>?_);conv=>whnf)))
 by_cases h : QB r = 0
 ·obtain ⟨h1, h2, h3⟩ := QaC h
  refine Br.no (by rw [h]; rfl) ?_
  ((conv=>whnf);(repeat' ((first|refine Nd ?_|refine Hv fun _h=>?_);conv=>whnf)))
  refine Dr.mkE hΓ hMix [4294967296] [] (by kernel_rfl) ?_; conv=>whnf
  ((conv=>whnf);(repeat' ((first|refine Nd ?_|refine Hv fun _h=>?_);conv=>whnf)))
  refine CallP.auto QcH (QcI r.kind 1 (by omega) (by omega) (by omega) (by omega) ) ?_
  ((conv=>whnf);(repeat' ((first|refine Nd ?_|refine Hv fun _h=>?_);conv=>whnf)))
  refine CallP.auto QcH (QcI (r.payload.size : Int) 1 (by omega) (by omega) (by omega) (by omega) ) ?_
  ((conv=>whnf);(repeat' ((first|refine Nd ?_|refine Hv fun _h=>?_);conv=>whnf)))
  refine CallP.auto QcH (QcI r.block 4 (by omega) (by omega) (by omega) (by omega) ) ?_
  ((conv=>whnf);(repeat' ((first|refine Nd ?_|refine Hv fun _h=>?_);conv=>whnf)))
  refine CallP.auto QcH (QcI r.version 6 (by omega) (by omega) (by omega) (by omega) ) ?_
  ((conv=>whnf);(repeat' ((first|refine Nd ?_|refine Hv fun _h=>?_);conv=>whnf)))
  refine CallP.auto QcH (QcI r.move 1 (by omega) (by omega) (by omega) (by omega) ) ?_
  ((conv=>whnf);(repeat' ((first|refine Nd ?_|refine Hv fun _h=>?_);conv=>whnf)))
  refine CallP.auto QrK (Qsi r.payload (by omega) ) ?_
  ((conv=>whnf);(repeat' ((first|refine Nd ?_|refine Hv fun _h=>?_);conv=>whnf)))
  refine CallP.mkW Qix (QiN (Qgw r) leN (QnY h)) (WA.cons rfl (WS.c (WC.strs rfl (fun i hi => by
   match i, hi with
   | 0, _ => rfl
   | 1, _ => rfl
   | 2, _ => rfl
   | 3, _ => rfl
   | 4, _ => rfl
   | 5, _ => rfl
   | 6, _ => rfl
   | 7, _ => rfl))) WA.nil) rfl ?_
  rw [QqI]
  ((conv=>whnf);(repeat' ((first|refine Nd ?_|refine Hv fun _h=>?_);conv=>whnf)))
  have hbs := QsX h
  have ha := Qg1 0 (Qay r)
  have hw := Qa (addU 0 (Qay r)) (by omega) (by omega)
  refine CallN.pureA Qgy (Qge (Qay r) (by omega) ) ?_
  ((conv=>whnf);(repeat' ((first|refine Nd ?_|refine Hv fun _h=>?_);conv=>whnf)))
  refine CallN.pureA QcH (QcI (IntKind.i64.wrap (addU 0 (Qay r))) 4 (by omega) (by omega) (by omega) (by omega) ) ?_
  ((conv=>whnf);(repeat' ((first|refine Nd ?_|refine Hv fun _h=>?_);conv=>whnf)))
  refine CallN.reads Qix (QiN [Qay r, putS (IntKind.i64.wrap (addU 0 (Qay r))) 4] (by simp) (fun x hx => by
   rcases List.mem_cons.1 hx with rfl | hx
   ·omega
   ·rw [List.mem_singleton.1 hx, Qn]; omega)) (BwA.cons (BwS.c (Bw.sl rfl rfl (fun i hi j hj => by
    match i, hi with
    | 0, _ =>
     have hj : j < 1 := hj
     obtain rfl : j = 0 := by omega
     exact Bw.same (c := .str (Qay r)) rfl
    | 1, _ =>
     have hj : j < 1 := hj
     obtain rfl : j = 0 := by omega
     exact Bw.same (c := .str (putS (IntKind.i64.wrap (addU 0 (Qay r))) 4)) rfl) (fun e => by cases e))) BwA.nil) rfl ?_
  ((conv=>whnf);(repeat' ((first|refine Nd ?_|refine Hv fun _h=>?_);conv=>whnf)))
  rw [h, show encR r = catB [Qay r, putS (IntKind.i64.wrap (addU 0 (Qay r))) 4] by
   show _ = (ByteArray.empty ++ Qay r) ++ _
   rw [ByteArray.empty_append]
   exact if_pos h]
  exact RM.i0
 ·refine Br.yes (by simpa using h) ?_
  ((conv=>whnf);(repeat' ((first|refine Nd ?_|refine Hv fun _h=>?_);conv=>whnf)))
  rw [show encR r = ByteArray.empty from if_neg h]
  exact RM.i0
theorem Qgx : HB 153 := hB Tryz.func153
theorem QjP (b : ByteArray) (k : Nat) : 0 ≤ QbV b k ∧ QbV b k < 256 := by
 have h : (b.data.toList.getD k 0).toNat < 256 := UInt8.toNat_lt _
 unfold QbV
 rw [Qa _ (by omega) (by omega)]
 omega
theorem Qvg {y : Int} (h : 0 ≤ y ∧ y < 256) : orW (shW 0) y = y := by
 obtain ⟨n, rfl⟩ := Int.eq_ofNat_of_zero_le h.1
 have e0 : shW 0 = 0 := by decide
 rw [e0]
 unfold orW
 have e1 : (BitVec.ofInt IntKind.i64.bits 0 ||| BitVec.ofInt IntKind.i64.bits (n : Int)).toNat = n := by
  show (BitVec.ofInt 64 0 ||| BitVec.ofInt 64 (n : Int)).toNat = n
  rw [show BitVec.ofInt 64 0 = 0#64 from rfl, BitVec.zero_or]
  rw [BitVec.toNat_ofInt]
  omega
 rw [e1]
 exact Qa _ (by omega) (by omega)
theorem Qef {s : ByteArray} {p : Nat} (h : p < s.size) : getS s p 1 = QbV s p := by
 unfold getS
 rw [if_neg (by omega)]
 show orW (shW 0) (QbV s (p + (1 - 1 - 0))) = _
 exact Qvg (QjP s p)
theorem QrI {r : Rec} (h : QB r = 0) : QbV (encR r) 3 = r.payload.size := by
 obtain ⟨_, _, h3⟩ := QaC h
 have e : (encR r).data.toList.getD 3 0 = Qcy (.int .u8 (putB r.payload.size 0)) := by
  rw [show encR r = Qay r ++ putS (IntKind.i64.wrap (addU 0 (Qay r))) 4 from if_pos h]
  unfold Qay
  simp only [ByteArray.data_append, Array.toList_append, List.append_assoc]
  rfl
 unfold QbV
 rw [e]
 have hp : putB r.payload.size 0 = r.payload.size := by
  show IntKind.u8.wrap ((r.payload.size : Int).fdiv 1) = _
  rw [Int.fdiv_one, IntKind.wrap_u8]
  omega
 rw [hp]
 have hc : (Qcy (.int .u8 (r.payload.size : Int))).toNat = r.payload.size := by
  generalize hn : r.payload.size = n at *
  have : n ≤ 20 := h3
  unfold Qcy
  simp
  omega
 rw [hc]
 exact Qa _ (by omega) (by omega)
set_option maxHeartbeats 4000000 in
theorem QgO (s : ByteArray) : PS 116 [.c (.str s)] (.t [.inr (decR s).cells, .inl (.int .i64 (decE s))]) := by
 refine PSpec.rm ?_
 refine ov hΓ Tryz.func116 70 0 [.cell 2 50, .tmp 3] Tryz.ntmps116 Tryz.results116 ?_
 ((conv=>whnf);(repeat' ((first|refine Nd ?_|refine Hv fun _h=>?_);conv=>whnf)))
 by_cases h0 : s.size = 40
 ·refine Br.no (by simp [h0]) ?_
  ((conv=>whnf);(repeat' ((first|refine Nd ?_|refine Hv fun _h=>?_);conv=>whnf)))
  have hb : s.size ≤ 10000000 := by omega
  refine CallN.pureA Qce (Qcg s 36 4 (by decide) (by decide) (by decide) hb ) ?_
  ((conv=>whnf);(repeat' ((first|refine Nd ?_|refine Hv fun _h=>?_);conv=>whnf)))
  refine CallN.pureA Qgy (Qge (s.extract 0 36) (by rw [ByteArray.size_extract]; omega) ) ?_
  ((conv=>whnf);(repeat' ((first|refine Nd ?_|refine Hv fun _h=>?_);conv=>whnf)))
  by_cases h1 : getS s 36 4 = sumW (s.extract 0 36)
  ·refine Br.no (by rw [h1]; exact bne_self_eq_false _) ?_
   ((conv=>whnf);(repeat' ((first|refine Nd ?_|refine Hv fun _h=>?_);conv=>whnf)))
   have e3 : IntKind.i64.wrap ((s.data.toList.getD 3 0).toNat : Int) = getS s 3 1 := (Qef (by omega)).symm
   have e2 : IntKind.i64.wrap ((s.data.toList.getD 2 0).toNat : Int) = getS s 2 1 := (Qef (by omega)).symm
   have e14 : IntKind.i64.wrap ((s.data.toList.getD 14 0).toNat : Int) = getS s 14 1 := (Qef (by omega)).symm
   have g3 : 0 ≤ getS s 3 1 ∧ getS s 3 1 < 256 := by rw [Qef (by omega)]; exact QjP s 3
   have t3 : Int.toNat 3 = 3 := rfl
   have t2 : Int.toNat 2 = 2 := rfl
   have t14 : Int.toNat 14 = 14 := rfl
   rw [t3, e3]
   by_cases h5 : getS s 3 1 ≤ 20
   ·refine Br.no (decide_eq_false (by omega)) ?_
    have w3 := Qa (16 + getS s 3 1) (by omega) (by omega)
    ((conv=>whnf);(repeat' ((first|refine Nd ?_|refine Hv fun _h=>?_);conv=>whnf)))
    refine Dr.mk hΓ hMix (by kernel_rfl) ?_; conv=>whnf
    ((conv=>whnf);(repeat' ((first|refine Nd ?_|refine Hv fun _h=>?_);conv=>whnf)))
    rw [w3]
    ((conv=>whnf);(repeat' ((first|refine Nd ?_|refine Hv fun _h=>?_);conv=>whnf)))
    refine CallP.auto Qny (QnQ (s.extract 16 (16 + getS s 3 1).toNat) (by rw [ByteArray.size_extract]; omega) ) ?_
    ((conv=>whnf);(repeat' ((first|refine Nd ?_|refine Hv fun _h=>?_);conv=>whnf)))
    refine CallN.pureA Qce (Qcg s 4 4 (by decide) (by decide) (by decide) hb ) ?_
    ((conv=>whnf);(repeat' ((first|refine Nd ?_|refine Hv fun _h=>?_);conv=>whnf)))
    refine CallN.pureA Qce (Qcg s 8 6 (by decide) (by decide) (by decide) hb ) ?_
    ((conv=>whnf);(repeat' ((first|refine Nd ?_|refine Hv fun _h=>?_);conv=>whnf)))
    rw [t2, t14, e2, e14]
    have er : rawR s = ⟨getS s 2 1, getS s 4 4, getS s 8 6, getS s 14 1, s.extract 16 (16 + getS s 3 1).toNat⟩ := by
     unfold rawR
     rw [Int.min_eq_left h5]
    refine CallN.pureA Qgx (QgS ⟨getS s 2 1, getS s 4 4, getS s 8 6, getS s 14 1, s.extract 16 (16 + getS s 3 1).toNat⟩ ) ?_
    rw [← er]
    ((conv=>whnf);(repeat' ((first|refine Nd ?_|refine Hv fun _h=>?_);conv=>whnf)))
    by_cases h2 : QB (rawR s) = 0 ∧ encR (rawR s) = s
    ·refine Br.no (by rw [h2.1, h2.2]; simp) ?_
     ((conv=>whnf);(repeat' ((first|refine Nd ?_|refine Hv fun _h=>?_);conv=>whnf)))
     have e : decE s = 0 := by unfold decE; rw [if_pos h0, if_pos h1, if_pos h2]
     rw [show decR s = rawR s from if_pos e, e, er]
     exact RM.i0
    ·refine Br.yes (by
      refine Decidable.byContradiction fun z => h2 ?_
      simp at z
      exact z) ?_
     ((conv=>whnf);(repeat' ((first|refine Nd ?_|refine Hv fun _h=>?_);conv=>whnf)))
     have e : decE s = 3 := by unfold decE; rw [if_pos h0, if_pos h1, if_neg h2]
     rw [show decR s = default from if_neg (by rw [e]; decide), e]
     exact RM.i0
   ·refine Br.yes (decide_eq_true (by omega)) ?_
    ((conv=>whnf);(repeat' ((first|refine Nd ?_|refine Hv fun _h=>?_);conv=>whnf)))
    have e : decE s = 3 := by
     unfold decE
     rw [if_pos h0, if_pos h1, if_neg]
     rintro ⟨a, b⟩
     have := QrI a
     rw [b, ← Qef (by omega)] at this
     have hp : (rawR s).payload.size ≤ 20 := (QaC a).2.2
     omega
    rw [show decR s = default from if_neg (by rw [e]; decide), e]
    exact RM.i0
  ·refine Br.yes (bne_iff_ne.2 h1) ?_
   ((conv=>whnf);(repeat' ((first|refine Nd ?_|refine Hv fun _h=>?_);conv=>whnf)))
   have e : decE s = 4 := by unfold decE; rw [if_pos h0, if_neg h1]
   rw [show decR s = default from if_neg (by rw [e]; decide), e]
   exact RM.i0
 ·refine Br.yes (by simp; omega) ?_
  ((conv=>whnf);(repeat' ((first|refine Nd ?_|refine Hv fun _h=>?_);conv=>whnf)))
  have e : decE s = 2 := if_neg h0
  rw [show decR s = default from if_neg (by rw [e]; decide), e]
  exact RM.i0
theorem Qgm : HB 116 := hB Tryz.func116
theorem Qg6 {l : List Fnd} {z o : Int} {r : Rec} {t : List C} {n i j : Nat} (hn : n = l.length) (hi : i < l.length + 1) (hj : j < 7) : appG (fndG l) n (Qaf 7 (C.int .i64 z :: C.int .i64 o :: C.int .i64 r.kind :: C.int .i64 r.block :: C.int .i64 r.version :: C.int .i64 r.move :: C.str r.payload :: t)) i j = fndG (l ++ [⟨z, o, r⟩]) i j :=
 QdH (f := Fnd.cell) hn (fun j hj => by
  match j, hj with
  | 0, _ => rfl
  | 1, _ => rfl
  | 2, _ => rfl
  | 3, _ => rfl
  | 4, _ => rfl
  | 5, _ => rfl
  | 6, _ => rfl) hi hj
theorem QdP (z : Int) (l : List ByteArray) : ∀ k, (QaP z l k).length ≤ k
 | 0 => Nat.le_refl _
 | k + 1 => by
  have := QdP z l k
  simp only [QaP, List.length_append]
  unfold QcP
  split <;> simp <;> omega
theorem Fw.fnds {H : List O} {id e n t : Nat} {x : Bool} {g : Nat → Nat → C} {l : List Fnd} (hid : getL H id = some (.arr e 7 n g)) (ht : t = n) (hn : n = l.length) (hg : ∀ i, i < n → ∀ j, j < 7 → g i j = fndG l i j) : Fw H (.sl id 7 t t x) (Qcc l) := by
 subst ht
 exact Fw.slP hid rfl hn hg (fun _ _ => Ql _ _)
theorem QeN {z : Int} {S : List ByteArray} {k : Nat} : QaP z S (k + 1) = QaP z S k ++ QcP z k (S.getD k ByteArray.empty) := rfl
theorem blockR_iff {s : ByteArray} : ((Qak s).2 = true ↔ decE s = 0 ∧ Qdq (decR s) = true) ∧ ((Qak s).2 = true → (Qak s).1 = decR s) := by
 unfold Qak
 split <;> simp_all
theorem scan_cond {s : ByteArray} : (bif (bif decE s == 0 then (bif (decR s).kind == 1 then true else (decR s).kind == 2) else false) then decide ((decR s).version ≥ 1) else false) = true ↔ ((Qak s).2 = true ∧ 1 ≤ (Qak s).1.version) := by
 have h := blockR_iff (s := s)
 constructor
 ·intro q
  simp only [Bool.cond_eq_ite] at q
  have a : (Qak s).2 = true := h.1.2 (by unfold Qdq; simp at q ⊢; omega)
  refine ⟨a, ?_⟩
  rw [h.2 a]
  simp at q
  omega
 ·rintro ⟨a, b⟩
  rw [h.2 a] at b
  have a := h.1.1 a
  unfold Qdq at a
  simp at a
  simp [a.1, b]
  omega
set_option maxHeartbeats 2000000 in
theorem QqC (d : Dev) (hd : d.small) (z : Int) : PS 84 [.a d.cells, .c (.int .i64 z)] (.c (Qcc (QcC d z))) := by
 have hz := hd.z
 have hsz := hd.s
 refine PSpec.rm ?_
 refine ov hΓ Tryz.func84 63 0 [.tmp 4] Tryz.ntmps84 Tryz.results84 ?_
 ((conv=>whnf);(repeat' ((first|refine Nd ?_|refine Hv fun _h=>?_);conv=>whnf)))
 by_cases h : 0 ≤ z ∧ z < d.zones.length
 ·have hl := hsz z.toNat
  refine Br.no (Bool.eq_false_iff.2 fun q => by simp at q; omega) ?_
  ((conv=>whnf);(repeat' ((first|refine Nd ?_|refine Hv fun _h=>?_);conv=>whnf)))
  rw [show QcC d z = QaP z (d.zones.getD z.toNat default).sectors (d.zones.getD z.toNat default).sectors.length from if_pos h]
  generalize hS : (d.zones.getD z.toNat default).sectors = S at *
  refine Lp.reserve 71 7 (fndG []) 5 rfl ?_
  refine Lp.mkK hΓ (ι := Nat) [1, 24, 25] (fun k => [(26, .c (.int .i64 k)), (5, .c (.sl 1 7 (QaP z S k).length (QaP z S k).length false))]) (fun k => [.vr d.cells, .arr 71 7 (QaP z S k).length (fndG (QaP z S k))]) (fun k => k ≤ S.length) (fun k => S.length - k) 0 (Nat.zero_le _) ?_ ?_
  ·exact Mv.k0
  ·intro k hk
   have hkl := QdP z S k
   ((conv=>whnf);(repeat' ((first|refine Nd ?_|refine Hv fun _h=>?_);conv=>whnf)))
   refine Br.of (fun h1=>?_) (fun h1=>?_)<;>(try simp only [Int.toNat_natCast] at h1)<;>(conv=>whnf)
   ·((conv=>whnf);(repeat' ((first|refine Nd ?_|refine Hv fun _h=>?_);conv=>whnf)))
    have w0 := Qa (↑k + 1) (by omega) (by omega)
    refine CallN.pureA Qgm (QgO (S.getD k ByteArray.empty) ) ?_
    ((conv=>whnf);(repeat' ((first|refine Nd ?_|refine Hv fun _h=>?_);conv=>whnf)))
    have hb := blockR_iff (s := S.getD k ByteArray.empty)
    by_cases c : (Qak (S.getD k ByteArray.empty)).2 = true ∧ 1 ≤ (Qak (S.getD k ByteArray.empty)).1.version
    ·have e1 : QcP z k (S.getD k ByteArray.empty) = [⟨z, k, (Qak (S.getD k ByteArray.empty)).1⟩] := if_pos c
     have hd1 := hb.2 c.1
     rw [hd1] at e1
     refine Br.yes (scan_cond.2 c) ?_
     ((conv=>whnf);(repeat' ((first|refine Nd ?_|refine Hv fun _h=>?_);conv=>whnf)))
     refine ⟨k + 1, by omega, by omega, ?_⟩
     rw [QeN, e1]
     refine Mv.k1 ?_
     exact fun i hi j hj => WC.eq (Qg6 rfl (by simpa using hi) hj) (Ql _ _)
    ·have e1 : QcP z k (S.getD k ByteArray.empty) = [] := if_neg c
     refine Br.no (Bool.eq_false_iff.2 fun q => c (scan_cond.1 q)) ?_
     ((conv=>whnf);(repeat' ((first|refine Nd ?_|refine Hv fun _h=>?_);conv=>whnf)))
     refine ⟨k + 1, by omega, by omega, ?_⟩
     rw [QeN, e1, List.append_nil]
     exact Mv.k0
   ·((conv=>whnf);(repeat' ((first|refine Nd ?_|refine Hv fun _h=>?_);conv=>whnf)))
    have : k = S.length := by omega
    subst this
    exact RM.allC (Fw.fnds rfl rfl rfl (fun _ _ _ _ => rfl))
 ·rw [show QcC d z = [] from if_neg h]
  refine Br.yes (Decidable.byContradiction fun q => h (by simp at q; omega)) ?_
  ((conv=>whnf);(repeat' ((first|refine Nd ?_|refine Hv fun _h=>?_);conv=>whnf)))
  exact RM.i0
theorem Qqg : HB 84 := hB Tryz.func84
structure _root_.Go.Am.Dev.tiny (d : Dev) : Prop where
 z : d.zones.length ≤ 100
 s : ∀ i, (d.zones.getD i default).sectors.length ≤ 100
theorem _root_.Go.Am.Dev.tiny.small {d : Dev} (h : d.tiny) : d.small := ⟨by have := h.z; omega, fun i => by have := h.s i; omega⟩
theorem Qf2 {d : Dev} (hd : d.tiny) (z : Int) : (QcC d z).length ≤ 100 := by
 unfold QcC
 split
 ·exact Nat.le_trans (QdP _ _ _) (hd.s _)
 ·simp
theorem Qdx (c : Conf) {d : Dev} (hd : d.tiny) : ∀ k, (Qat c d k).length ≤ 100 * k
 | 0 => Nat.le_refl _
 | k + 1 => by
  have h1 := Qdx c hd k
  have h2 := Qf2 hd k
  simp only [Qat]
  split
  ·rw [List.length_append]; omega
  ·omega
theorem QjG (c : Conf) {d : Dev} (hd : d.tiny) : (Qbd c d).length ≤ 10000 := by
 have h1 := Qdx c hd d.zones.length
 have h2 := hd.z
 unfold Qbd
 omega
theorem QdN {c : Conf} {d : Dev} {k : Nat} : Qat c d (k + 1) = if Qa4 c k = true then Qat c d k ++ QcC d k else Qat c d k := rfl
set_option maxHeartbeats 2000000 in
theorem QrE (c : Conf) (d : Dev) (hd : d.tiny) : PS 43 [.a c.cells, .a d.cells] (.c (Qcc (Qbd c d))) := by
 have hz := hd.z
 refine PSpec.rm ?_
 refine ov hΓ Tryz.func43 23 0 [.tmp 4] Tryz.ntmps43 Tryz.results43 ?_
 ((conv=>whnf);(repeat' ((first|refine Nd ?_|refine Hv fun _h=>?_);conv=>whnf)))
 refine Lp.reserve 71 7 (fndG []) 5 rfl ?_
 refine Lp.mkK hΓ (ι := Nat) [2, 3, 9] (fun k => [(10, .c (.int .i64 k)), (5, .c (.sl 2 7 (Qat c d k).length (Qat c d k).length false))]) (fun k => [.vr c.cells, .vr d.cells, .arr 71 7 (Qat c d k).length (fndG (Qat c d k))]) (fun k => k ≤ d.zones.length) (fun k => d.zones.length - k) 0 (Nat.zero_le _) ?_ ?_
 ·exact Mv.k0
 ·intro k hk
  have hkl := Qdx c hd k
  have hkz := Qf2 hd k
  ((conv=>whnf);(repeat' ((first|refine Nd ?_|refine Hv fun _h=>?_);conv=>whnf)))
  refine Br.of (fun h1=>?_) (fun h1=>?_)<;>(try simp only [Int.toNat_natCast] at h1)<;>(conv=>whnf)
  ·((conv=>whnf);(repeat' ((first|refine Nd ?_|refine Hv fun _h=>?_);conv=>whnf)))
   have w0 := Qa (↑k + 1) (by omega) (by omega)
   refine CallN.pureA Qlq (Qna c k ) ?_
   ((conv=>whnf);(repeat' ((first|refine Nd ?_|refine Hv fun _h=>?_);conv=>whnf)))
   by_cases h : Qa4 c k = true
   ·refine Br.yes h ?_
    ((conv=>whnf);(repeat' ((first|refine Nd ?_|refine Hv fun _h=>?_);conv=>whnf)))
    refine CallN.pureA Qqg (QqC d hd.small k ) ?_
    ((conv=>whnf);(repeat' ((first|refine Nd ?_|refine Hv fun _h=>?_);conv=>whnf)))
    refine ⟨k + 1, by omega, by omega, ?_⟩
    rw [QdN, if_pos h]
    refine Mv.k1 ?_
    exact fun i hi j hj => WC.eq (Qln rfl j) (Ql _ _)
   ·refine Br.no (Bool.eq_false_iff.2 h) ?_
    ((conv=>whnf);(repeat' ((first|refine Nd ?_|refine Hv fun _h=>?_);conv=>whnf)))
    refine ⟨k + 1, by omega, by omega, ?_⟩
    rw [QdN, if_neg h]
    exact Mv.k0
  ·((conv=>whnf);(repeat' ((first|refine Nd ?_|refine Hv fun _h=>?_);conv=>whnf)))
   have : k = d.zones.length := by omega
   subst this
   exact RM.allC (Fw.fnds rfl rfl rfl (fun _ _ _ _ => rfl))
theorem Qrv : HB 43 := hB Tryz.func43
theorem Qpu {l : List Fnd} {k : Nat} (hk : k < l.length) : Qed (l.take (k + 1)) = max (Qed (l.take k)) (l.getD k default).r.version := by
 unfold Qed
 rw [Q1 l hk, List.foldl_append]
 rfl
set_option maxHeartbeats 2000000 in
theorem Qn2 (l : List Fnd) (hl : l.length ≤ 1000000) : PS 51 [.c (Qcc l)] (.c (.int .i64 (Qed l))) := by
 refine PSpec.rm ?_
 refine ov hΓ Tryz.func51 19 0 [.tmp 2] Tryz.ntmps51 Tryz.results51 ?_
 ((conv=>whnf);(repeat' ((first|refine Nd ?_|refine Hv fun _h=>?_);conv=>whnf)))
 refine Lp.mkK hΓ (ι := Nat) [6,7] (fun k => [(8, .c (.int .i64 k)), (3, .c (.int .i64 (Qed (l.take k))))]) (fun k => []) (fun k => k ≤ l.length) (fun k => l.length - k) 0 (Nat.zero_le _) ?_ ?_
 ·exact Mv.k0
 ·intro k hk
  ((conv=>whnf);(repeat' ((first|refine Nd ?_|refine Hv fun _h=>?_);conv=>whnf)))
  refine Br.of (fun h1=>?_) (fun h1=>?_)<;>(try simp only [Int.toNat_natCast] at h1)<;>(conv=>whnf)
  ·((conv=>whnf);(repeat' ((first|refine Nd ?_|refine Hv fun _h=>?_);conv=>whnf)))
   have w0 := Qa (↑k + 1) (by omega) (by omega)
   refine ⟨k + 1, by omega, by omega, ?_⟩
   rw [Qpu (by omega)]
   exact Mv.k0
  ·((conv=>whnf);(repeat' ((first|refine Nd ?_|refine Hv fun _h=>?_);conv=>whnf)))
   have : k = l.length := by omega
   subst this
   rw [List.take_length]
   exact RM.i0
theorem QnT : HB 51 := hB Tryz.func51
theorem sameF_iff {a b : Fnd} : QcX a b = true ↔ (a.r.version = b.r.version → a.r.kind = b.r.kind ∧ a.r.block = b.r.block ∧ a.r.payload = b.r.payload) := decide_eq_true_iff
theorem agreeF_iff {l : List Fnd} : Qft l = true ↔ ∀ i, i < l.length → ∀ k, k < i → QcX (l.getD i default) (l.getD k default) = true := decide_eq_true_iff
def keyI : Key → Int
 | .c (.i _ n) => n
 | _ => 0
@[simp] theorem keyI_i {q : IntKind} {n : Int} : keyI (.c (.i q n)) = n := rfl
def keyN (n : Int) : Key := .c (.i .i64 n)
def setO (l : List Int) : O := .mp (.c (some .i64)) [.b] false (l.map keyN) fun k _ => .bool (decide (keyI k ∈ l))
def insS (l : List Int) (n : Int) : List Int := if n ∈ l then l else l ++ [n]
theorem QmX {l : List Int} {n : Int} : memK (l.map keyN) (.c (.i .i64 n)) = decide (n ∈ l) := by
 unfold memK keyN
 congr 1
 simp only [List.mem_map, Key.c.injEq, KC.i.injEq, true_and, eq_iff_iff]
 exact ⟨fun ⟨a, h1, h2⟩ => h2 ▸ h1, fun h => ⟨n, h, rfl⟩⟩
theorem Quv {l : List Int} {n : Int} : updK (l.map keyN) (.c (.i .i64 n)) = (insS l n).map keyN := by
 unfold updK insS
 rw [QmX]
 by_cases h : n ∈ l
 ·rw [if_pos h, decide_eq_true h]
 ·rw [if_neg h, decide_eq_false h]
  simp [keyN]
theorem QtF {l : List Int} {n x : Int} : x ∈ insS l n ↔ x = n ∨ x ∈ l := by
 unfold insS
 split
 ·rename_i h
  exact ⟨Or.inr, fun e => e.elim (fun e => e ▸ h) id⟩
 ·simp [or_comm]
def bare (r : Rec) : Rec := { r with move := 0 }
def QcV (p : List Fnd) : Int → Rec := p.foldl (fun g f => fun v => if v = f.r.version then bare f.r else g v) (fun _ => default)
def verL (p : List Fnd) : List Int := p.foldl (fun a f => insS a f.r.version) []
def recZ : List Z := [.i .i64, .i .i64, .i .i64, .i .i64, .s]
def Qu7 (p : List Fnd) : O := .mp (.c (some .i64)) recZ true ((verL p).map keyN) fun k j => Qaz (QcV p (keyI k)) j
theorem QmU {l : List Fnd} {k : Nat} (hk : k < l.length) : verL (l.take (k + 1)) = insS (verL (l.take k)) (l.getD k default).r.version := by
 unfold verL
 rw [Q1 l hk, List.foldl_append]
 rfl
theorem Qkh {l : List Fnd} {k : Nat} (hk : k < l.length) (v : Int) : QcV (l.take (k + 1)) v = if v = (l.getD k default).r.version then bare (l.getD k default).r else QcV (l.take k) v := by
 unfold QcV
 rw [Q1 l hk, List.foldl_append]
 rfl
theorem Qma {l : List Fnd} : ∀ {k : Nat}, k ≤ l.length → ∀ v : Int, (v ∈ verL (l.take k) ↔ ∃ j, j < k ∧ (l.getD j default).r.version = v) ∧ (v ∈ verL (l.take k) → ∃ j, j < k ∧ (l.getD j default).r.version = v ∧ QcV (l.take k) v = bare (l.getD j default).r)
 | 0, _, v => by simp [verL]
 | k + 1, hk, v => by
  obtain ⟨h1, h2⟩ := Qma (k := k) (l := l) (by omega) v
  rw [QmU (by omega), QtF, Qkh (by omega)]
  constructor
  ·rw [h1]
   constructor
   ·rintro (rfl | ⟨j, q1, q2⟩)
    ·exact ⟨k, by omega, rfl⟩
    ·exact ⟨j, by omega, q2⟩
   ·rintro ⟨j, q1, q2⟩
    by_cases e : j = k
    ·subst e; exact Or.inl q2.symm
    ·exact Or.inr ⟨j, by omega, q2⟩
  ·intro h
   by_cases e : v = (l.getD k default).r.version
   ·rw [if_pos e]
    exact ⟨k, by omega, e.symm, rfl⟩
   ·rw [if_neg e]
    obtain ⟨j, q1, q2, q3⟩ := h2 (h.resolve_left e)
    exact ⟨j, by omega, q2, q3⟩
theorem seen_cond {m : Bool} {s r : Rec} : (bif m then ((decide (s.kind = r.kind) && (decide (s.block = r.block) && (decide (s.version = r.version) && (decide (s.move = 0) && (decide (s.payload = r.payload) && true))))) == false) else false) = (m && !decide (s = bare r)) := by
 cases m with
 | false => rfl
 | true =>
  obtain ⟨a, b, c, d, e⟩ := s
  simp [bare]
  try rfl
theorem QjJ {f g : Fnd} (h : bare f.r = bare g.r) : QcX f g = true := by
 rw [sameF_iff]
 intro _
 simp only [bare, Rec.mk.injEq] at h
 exact ⟨h.1, h.2.1, h.2.2.2.2⟩
theorem Qj8 {f g : Fnd} (h : QcX f g = true) (hv : f.r.version = g.r.version) : bare f.r = bare g.r := by
 have := sameF_iff.1 h hv
 simp only [bare, Rec.mk.injEq]
 exact ⟨this.1, this.2.1, hv, trivial, this.2.2⟩
theorem Qia {f g : Fnd} (h : QcX f g = true) : QcX g f = true := by
 rw [sameF_iff] at *
 intro e
 have := h e.symm
 exact ⟨this.1.symm, this.2.1.symm, this.2.2.symm⟩
theorem Quo {l : List Fnd} {k : Nat} (hk : k < l.length) (hp : ∀ i, i < k → ∀ j, j < i → QcX (l.getD i default) (l.getD j default) = true) :
  (decide ((l.getD k default).r.version ∈ verL (l.take k)) && !decide (QcV (l.take k) (l.getD k default).r.version = bare (l.getD k default).r)) = false ↔ ∀ j, j < k → QcX (l.getD k default) (l.getD j default) = true := by
 obtain ⟨h1, h2⟩ := Qma (l := l) (k := k) (by omega) (l.getD k default).r.version
 constructor
 ·intro h j hj
  by_cases e : (l.getD k default).r.version = (l.getD j default).r.version
  ·have hm := h1.2 ⟨j, hj, e.symm⟩
   rw [decide_eq_true hm, Bool.true_and] at h
   have hs : QcV (l.take k) (l.getD k default).r.version = bare (l.getD k default).r := by simpa using h
   obtain ⟨i, q1, q2, q3⟩ := h2 hm
   rw [hs] at q3
   by_cases c : i = j
   ·subst c
    exact QjJ q3
   ·have hij : QcX (l.getD i default) (l.getD j default) = true := by
     rcases Nat.lt_or_gt_of_ne c with q | q
     ·exact Qia (hp j hj i q)
     ·exact hp i q1 j q
    exact QjJ (q3.trans (Qj8 hij (q2.trans e)))
  ·rw [sameF_iff]
   exact fun q => absurd q e
 ·intro h
  by_cases hm : (l.getD k default).r.version ∈ verL (l.take k)
  ·obtain ⟨i, q1, q2, q3⟩ := h2 hm
   rw [decide_eq_true hm, q3, decide_eq_true (Qj8 (Qia (h i q1)) q2)]
   rfl
  ·rw [decide_eq_false hm]
   rfl
theorem Quq {p : List Fnd} {f : Fnd} {k : Key} {j : Nat} {cs : List C} (hk : k.sh = .c (some .i64)) (hc : lget cs j = Qaz (bare f.r) j) : updV (fun k j => Qaz (QcV p (keyI k)) j) (.c (.i .i64 f.r.version)) (lget cs) k j = Qaz (if keyI k = f.r.version then bare f.r else QcV p (keyI k)) j := by
 match k, hk with
 | .c (.i q x), hk =>
  cases hk
  change updV _ _ _ _ _ = Qaz (if x = f.r.version then bare f.r else QcV p x) j
  simp only [updV, Key.c.injEq, KC.i.injEq, true_and, keyI_i]
  by_cases c : x = f.r.version
  ·rw [if_pos c, if_pos c]; exact hc
  ·rw [if_neg c, if_neg c]
set_option maxHeartbeats 2000000 in
theorem Qn7 (l : List Fnd) (hl : l.length ≤ 1000000) : PS 44 [.c (Qcc l)] (.c (.bool (Qft l))) := by
 refine PSpec.rm ?_
 refine ov hΓ Tryz.func44 37 0 [.tmp 2] Tryz.ntmps44 Tryz.results44 ?_
 ((conv=>whnf);(repeat' ((first|refine Nd ?_|refine Hv fun _h=>?_);conv=>whnf)))
 refine Lp.mkK hΓ (ι := Nat) [3, 10, 11] (fun k => [(12, .c (.int .i64 k))]) (fun k => [Qu7 (l.take k)]) (fun k => k ≤ l.length ∧ ∀ i, i < k → ∀ j, j < i → QcX (l.getD i default) (l.getD j default) = true) (fun k => l.length - k) 0 ⟨Nat.zero_le _, fun i hi => absurd hi (Nat.not_lt_zero _)⟩ ?_ ?_
 ·refine Mv.k1 ?_
  intro k j hk hj
  refine leF.of_eq ?_
  match j, hj with
  | 0, _ => rfl
  | 1, _ => rfl
  | 2, _ => rfl
  | 3, _ => rfl
  | 4, _ => rfl
 ·rintro k ⟨hk, hk2⟩
  ((conv=>whnf);(repeat' ((first|refine Nd ?_|refine Hv fun _h=>?_);conv=>whnf)))
  refine Br.of (fun h1=>?_) (fun h1=>?_)<;>(try simp only [Int.toNat_natCast] at h1)<;>(conv=>whnf)
  ·((conv=>whnf);(repeat' ((first|refine Nd ?_|refine Hv fun _h=>?_);conv=>whnf)))
   have w0 := Qa (↑k + 1) (by omega) (by omega)
   have hk3 : k < l.length := by omega
   have hs := Quo hk3 hk2
   by_cases c : (decide ((l.getD k default).r.version ∈ verL (l.take k)) && !decide (QcV (l.take k) (l.getD k default).r.version = bare (l.getD k default).r)) = false
   ·refine Br.no (seen_cond.trans (Eq.trans (by rw [QmX]; rfl) c)) ?_
    ((conv=>whnf);(repeat' ((first|refine Nd ?_|refine Hv fun _h=>?_);conv=>whnf)))
    refine ⟨k + 1, ⟨by omega, fun i hi => ?_⟩, by omega, ?_⟩
    ·rcases Nat.lt_succ_iff_lt_or_eq.1 hi with q | rfl
     ·exact hk2 i q
     ·exact hs.1 c
    ·refine Mv.k1 ?_
     refine WO.mp rfl rfl rfl ?_ fun q j hq hj => leF.of_eq ?_
     ·rw [QmU hk3]
      exact Quv
     ·rw [Qkh hk3]
      refine Quq hq ?_
      match j, hj with
      | 0, _ => rfl
      | 1, _ => rfl
      | 2, _ => rfl
      | 3, _ => rfl
      | 4, _ => rfl
   ·refine Br.yes (seen_cond.trans (Eq.trans (by rw [QmX]; rfl) (Bool.not_eq_false _ ▸ c))) ?_
    ((conv=>whnf);(repeat' ((first|refine Nd ?_|refine Hv fun _h=>?_);conv=>whnf)))
    rw [show Qft l = false from Bool.eq_false_iff.2 fun q => c (hs.2 fun j hj => agreeF_iff.1 q k hk3 j hj)]
    exact RM.i0
  ·((conv=>whnf);(repeat' ((first|refine Nd ?_|refine Hv fun _h=>?_);conv=>whnf)))
   have : k = l.length := by omega
   subst this
   rw [agreeF_iff.2 hk2]
   exact RM.i0
theorem Qnk : HB 44 := hB Tryz.func44
end Go.Proofs
end
