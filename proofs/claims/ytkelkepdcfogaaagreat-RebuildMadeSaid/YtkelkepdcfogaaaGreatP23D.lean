/- Contracts, lemmas; no condition. -/
import Derived.Test.YtkelkepdcfogaaaGreatP22D
import Derived.Test.YtkelkepdcfogaaaGreatP13D
set_option linter.all false
section
open Go Go.Am
namespace Go.Proofs
set_option maxRecDepth 20000
theorem QeN (s : ByteArray) : (decR s).payload.size ≤ 20 := by
 unfold decR
 split
 ·rename_i h
  unfold decE at h
  split at h
  ·split at h
   ·split at h
    ·rename_i h3
     exact (QaR h3.1).2.2
    ·cases h
   ·cases h
  ·cases h
 ·exact Nat.zero_le _
def okS (s : ByteArray) : Prop := decE s = 0 ∧ (decR s).kind ≠ 6
theorem Qfq {p : List ByteArray} (h : ∀ s ∈ p, okS s) (q : List ByteArray) : Qai (p ++ q) = (Qai q).map (p.map decR ++ ·) := by
 induction p with
 | nil => simp
 | cons s t ih =>
  obtain ⟨h1, h2⟩ := h s (List.mem_cons_self ..)
  simp only [List.cons_append, Qai, if_pos h1, if_neg h2]
  rw [ih fun x hx => h x (List.mem_cons_of_mem _ hx)]
  cases Qai q <;> rfl
theorem QeG {p : List ByteArray} (h : ∀ s ∈ p, okS s) : Qai p = none := by
 have := Qfq h []
 rw [List.append_nil] at this
 rw [this]; rfl
theorem Qid {p : List ByteArray} (h : ∀ s ∈ p, okS s) {s : ByteArray} {q : List ByteArray} (hs : decE s ≠ 0) : Qai (p ++ s :: q) = none := by
 rw [Qfq h]
 simp only [Qai, if_neg hs]
 rfl
theorem Qez {p : List ByteArray} (h : ∀ s ∈ p, okS s) {s : ByteArray} {q : List ByteArray} (hs : decE s = 0) (h6 : (decR s).kind = 6) : Qai (p ++ s :: q) = some (p.map decR ++ [decR s]) := by
 rw [Qfq h]
 simp only [Qai, if_pos hs, if_pos h6]
 rfl
def secZ (d : Dev) (z : Int) : List ByteArray := (d.zones.getD z.toNat default).sectors
def preS (d : Dev) (zs : List Int) (i k : Nat) : List ByteArray := QaT d (zs.take i) ++ (secZ d (zs.getD i default)).take k
theorem Qmf {d : Dev} {zs : List Int} : preS d zs 0 0 = [] := by simp [preS, QaT]
theorem QgC {d : Dev} {zs : List Int} {i : Nat} (hi : i < zs.length) : preS d zs (i + 1) 0 = preS d zs i (secZ d (zs.getD i default)).length := by
 unfold preS QaT
 rw [Q6 zs hi, List.flatMap_append, List.take_length]
 simp [secZ]
theorem Qml {d : Dev} {zs : List Int} {i k : Nat} (hk : k < (secZ d (zs.getD i default)).length) : preS d zs i (k + 1) = preS d zs i k ++ [(secZ d (zs.getD i default)).getD k default] := by
 unfold preS
 rw [Q6 _ hk, List.append_assoc]
theorem Qk1 {d : Dev} {zs : List Int} {i k : Nat} (hi : i < zs.length) (hk : k < (secZ d (zs.getD i default)).length) : ∃ q, QaT d zs = preS d zs i k ++ (secZ d (zs.getD i default)).getD k default :: q := by
 refine ⟨(secZ d (zs.getD i default)).drop (k + 1) ++ QaT d (zs.drop (i + 1)), ?_⟩
 have h1 : QaT d zs = QaT d (zs.take i) ++ (secZ d (zs.getD i default) ++ QaT d (zs.drop (i + 1))) := by
  conv => lhs; rw [← List.take_append_drop i zs]
  unfold QaT
  rw [List.flatMap_append, List.drop_eq_getElem_cons hi, List.flatMap_cons, Qcf zs i hi]
  rfl
 rw [h1]
 unfold preS
 rw [List.append_assoc]
 congr 1
 conv => lhs; rw [← List.take_append_drop k (secZ d (zs.getD i default))]
 rw [List.append_assoc, List.drop_eq_getElem_cons hk, Qcf _ k hk]
 rfl
theorem QpT {d : Dev} {zs : List Int} : preS d zs zs.length 0 = QaT d zs := by
 unfold preS
 rw [List.take_length]
 simp
theorem QjR {d : Dev} (hd : d.tiny) (zs : List Int) : ∀ i, (QaT d (zs.take i)).length ≤ 100 * i
 | 0 => by simp [QaT]
 | i + 1 => by
  have h1 := QjR hd zs i
  by_cases hi : i < zs.length
  ·unfold QaT at *
   rw [Q6 zs hi, List.flatMap_append, List.length_append]
   have := hd.s (zs.getD i default).toNat
   simp only [List.flatMap_cons, List.flatMap_nil, List.append_nil]
   omega
  ·rw [List.take_of_length_le (by omega)] at *
   omega
theorem preL {d : Dev} (hd : d.tiny) (zs : List Int) (i k : Nat) : (preS d zs i k).length ≤ 100 * (i + 1) := by
 have h1 := QjR hd zs i
 have h2 := hd.s (zs.getD i default).toNat
 unfold preS
 rw [List.length_append, List.length_take]
 unfold secZ
 omega
theorem QsO {c : Conf} {slot : Int} (h : Qn c = 0) (h0 : 0 ≤ slot) (h1 : slot ≤ 1) : Qat c slot = Qas c slot := if_pos ⟨h, h0, h1⟩
theorem Qi5 (c : Conf) (slot : Int) : (Qas c slot).length = (Qi c).toNat := tabL_len _
theorem Qdn {c : Conf} {slot : Int} {i : Nat} (hi : i < (Qi c).toNat) : (Qas c slot).getD i default = slot * Qi c + i := by
 unfold Qas tabL
 rw [Qcf _ _ (by simpa using hi)]
 simp
theorem Qu4 (l : List ByteArray) (i : Nat) : ((l.map decR).getD i default).payload.size ≤ 1000 := by
 by_cases h : i < l.length
 ·rw [Qcf _ i (by simpa using h), List.getElem_map]
  have := QeN l[i]
  omega
 ·rw [show (l.map decR).getD i default = default by simp [List.getD, h]]
  exact Nat.zero_le _
set_option maxHeartbeats 4000000 in
theorem QhT (c : Conf) (d : Dev) (hd : d.tiny) (slot : Int) (h0 : 0 ≤ slot) (h1 : slot ≤ 1) : PS 60 [.a c.cells, .a d.cells, .c (.int .i64 slot)] (.t [.inr (Qz c d slot).cells, .inl (.int .i64 (Qu c d slot))]) := by
 refine PSpec.rm ?_
 refine ov0 hΓ Tryz.func60 88 0 [.cell 6 57, .tmp 7] Tryz.ntmps60 Tryz.results60 ?_
 refine CallN.pureA QcR (QcS c ) (Go0 ?_)
 by_cases hc : Qn c = 0
 ·refine Br.no (by simpa using hc) (Go0 ?_)
  refine Br.no (Bool.eq_false_iff.2 fun q => by simp at q; omega) (Go0 ?_)
  have hsr := Qav (Qay hc).1
  have hsl := QsO hc h0 h1
  have hlen := Qi5 c slot
  refine CallN.pureA QhY (Qh4 c slot ) (Go0 ?_)
  rw [hsl]
  have w1 : IntKind.i64.wrap (((Qas c slot).length : Int) - 1) = ((Qas c slot).length : Int) - 1 := Qa _ (by omega) (by omega)
  refine Dr.mk hΓ hMix (by kernel_rfl) (Go0 ?_)
  have hn1 : (IntKind.i64.wrap (((Qas c slot).length : Int) - 1)).toNat = (Qi c).toNat - 1 := by omega
  have hg : (Qas c slot).getD ((Qi c).toNat - 1) default = slot * Qi c + (((Qi c).toNat - 1 : Nat) : Int) := Qdn (by omega)
  by_cases hz : slot * Qi c + Qi c ≤ d.zones.length
  ·refine Br.no (by rw [hn1, hg]; exact decide_eq_false (by omega)) (Go0 ?_)
   generalize hZ : Qas c slot = zs at *
   have hzr : ∀ i, i < zs.length → 0 ≤ zs.getD i default ∧ zs.getD i default < d.zones.length := fun i hi => by
    subst hZ
    rw [Qdn (by omega)]
    have : 0 ≤ slot * Qi c := Int.mul_nonneg h0 (by omega)
    omega
   refine Lp.reserve 50 5 (recG []) 10 rfl ?_
   refine Lp.mkK hΓ (ι := Nat) [3, 4, 6, 9] (fun i => [(11, .c (.int .i64 i)), (10, .c (.sl 3 5 (preS d zs i 0).length (preS d zs i 0).length false))]) (fun i => [.vr c.cells, .vr d.cells, .vr (default : Bas).cells, .arr 50 5 (preS d zs i 0).length (recG ((preS d zs i 0).map decR))]) (fun i => i ≤ zs.length ∧ ∀ s ∈ preS d zs i 0, okS s) (fun i => zs.length - i) 0 ⟨Nat.zero_le _, by rw [Qmf]; exact fun s hs => absurd hs List.not_mem_nil⟩ ?_ ?_
   ·exact Mv.k0
   ·rintro i ⟨hi, hi2⟩
    refine Go1 fun _h=>?_
    refine Br.of (fun h2=>Go0 ?_) (fun h2=>Go0 ?_)
    ·have w0 := Qa (↑i + 1) (by omega) (by omega)
     obtain ⟨hz0, hz1⟩ := hzr i (by omega)
     have hzs := hd.s (zs.getD i default).toNat
     have hpl := preL hd zs i
     refine Dr.mk hΓ hMix (by kernel_rfl) (Go0 ?_)
     rw [show (d.zones.getD (zs.getD (i : Int).toNat default).toNat default).sectors = secZ d (zs.getD i default) from rfl]
     refine Lp.mkK hΓ (ι := Nat) [3, 4, 6, 9, 11, 12] (fun k => [(13, .c (.int .i64 k)), (10, .c (.sl 3 5 (preS d zs i k).length (preS d zs i k).length false))]) (fun k => [.vr c.cells, .vr d.cells, .vr (default : Bas).cells, .arr 50 5 (preS d zs i k).length (recG ((preS d zs i k).map decR))]) (fun k => k ≤ (secZ d (zs.getD i default)).length ∧ ∀ s ∈ preS d zs i k, okS s) (fun k => (secZ d (zs.getD i default)).length - k) 0 ⟨Nat.zero_le _, hi2⟩ ?_ ?_
     ·exact Mv.k0
     ·rintro k ⟨hk, hk2⟩
      refine Go1 fun _h=>?_
      refine Br.of (fun h3=>Go0 ?_) (fun h3=>Go0 ?_)
      ·have w2 := Qa (↑k + 1) (by omega) (by omega)
       have hkl : k < (secZ d (zs.getD i default)).length := by omega
       obtain ⟨q, hq⟩ := Qk1 (d := d) (zs := zs) (i := i) (k := k) (by omega) hkl
       have hst := Qml (d := d) (zs := zs) (i := i) (k := k) hkl
       have hpk := preL hd zs i k
       rw [show (secZ d (zs.getD i default)).getD (k : Int).toNat ByteArray.empty = (secZ d (zs.getD i default)).getD k default from rfl]
       generalize hs : (secZ d (zs.getD i default)).getD k default = s at *
       refine CallN.pureA Qev (QeR s ) (Go0 ?_)
       by_cases c1 : decE s = 0
       ·refine Br.no (by simpa using c1) (Go0 ?_)
        by_cases c2 : (decR s).kind = 6
        ·refine Br.yes (by simpa using c2) (Go0 ?_)
         have hR : ((preS d zs i k).map decR ++ [decR s]).length = (preS d zs i k).length + 1 := by simp
         have hg2 : ∀ (t : List C) (i' j : Nat), i' < (preS d zs i k).length + 1 → j < 5 → appG (recG ((preS d zs i k).map decR)) (preS d zs i k).length (Q4 5 (C.int .i64 (decR s).kind :: C.int .i64 (decR s).block :: C.int .i64 (decR s).version :: C.int .i64 (decR s).move :: C.str (decR s).payload :: t)) i' j = recG ((preS d zs i k).map decR ++ [decR s]) i' j := fun t i' j hi' hj => QhM (by simp) (by simpa using hi') hj
         refine CallN.fzK 3 [3, 4, 6] [] [.vr c.cells, .vr d.cells, .vr (default : Bas).cells, .dead, .vr (decR s).cells] [.a c.cells, .c (Qck ((preS d zs i k).map decR ++ [decR s]))] rfl leN (fun i' hi' j hj => (congrArg C.imm (hg2 _ i' j hi' hj)).trans (Qar _ _)) wb0 wb0 (by (first|refine wb1 ?_|refine wb2 ?_ ?_|refine wb3 ?_ ?_ ?_|refine wb4 ?_ ?_ ?_ ?_) <;> exact WC.fz rfl hR.symm (fun i' hi' j hj => leF.of_eq (hg2 _ i' j hi' hj)) (fun e => by cases e)) leN ?_
         refine CallN.pureA QnX (QmB c ((preS d zs i k).map decR ++ [decR s]) (by omega) (fun i' => by rw [← List.map_singleton (f := decR) (a := s), ← List.map_append]; exact Qu4 _ _) ) (Go0 ?_)
         have e : Qu c d slot = Qa8 c ((preS d zs i k).map decR ++ [decR s]) := by unfold Qu; rw [if_pos hc, if_pos hz, hZ, hq, Qez hk2 c1 c2]
         have e2 : Qz c d slot = Qa9 c ((preS d zs i k).map decR ++ [decR s]) := by
          unfold Qz
          rw [e, hZ, hq, Qez hk2 c1 c2]
          by_cases q0 : Qa8 c ((preS d zs i k).map decR ++ [decR s]) = 0
          ·rw [if_pos q0]
          ·rw [if_neg q0]; exact (if_neg q0).symm
         rw [e, e2]
         exact RM.i0
        ·refine Br.no (by simpa using c2) (Go0 ?_)
         refine ⟨k + 1, ⟨by omega, ?_⟩, by omega, ?_⟩
         ·rw [hst]
          intro x hx
          rcases List.mem_append.1 hx with hx | hx
          ·exact hk2 x hx
          ·rw [List.mem_singleton.1 hx]; exact ⟨c1, c2⟩
         ·rw [hst]
          refine Mv.k1 ?_
          exact fun i' hi' j hj => WC.eq ((QhM (x := decR s) (by simp) (by simpa using hi') hj).trans (by rw [List.map_append]; rfl)) (Qar _ _)
       ·refine Br.yes (by simpa using c1) (Go0 ?_)
        have e : Qu c d slot = 3 := by unfold Qu; rw [if_pos hc, if_pos hz, hZ, hq, Qid hk2 c1]
        rw [show Qz c d slot = default from if_neg (by rw [e]; decide), e]
        exact RM.i0
      ·have : k = (secZ d (zs.getD i default)).length := by omega
       subst this
       refine ⟨i + 1, ⟨by omega, ?_⟩, by omega, ?_⟩
       ·rw [QgC (by omega)]; exact hk2
       ·rw [QgC (by omega)]
        exact Mv.k0
    ·have : i = zs.length := by omega
     subst this
     rw [QpT] at hi2
     have e : Qu c d slot = 3 := by unfold Qu; rw [if_pos hc, if_pos hz, hZ, QeG hi2]
     rw [show Qz c d slot = default from if_neg (by rw [e]; decide), e]
     exact RM.i0
  ·refine Br.yes (by rw [hn1, hg]; exact decide_eq_true (by omega)) (Go0 ?_)
   have e : Qu c d slot = 5 := by unfold Qu; rw [if_pos hc, if_neg hz]
   rw [show Qz c d slot = default from if_neg (by rw [e]; decide), e]
   exact RM.i0
 ·refine Br.yes (by simpa using hc) (Go0 ?_)
  have e : Qu c d slot = Qn c := if_neg hc
  rw [show Qz c d slot = default from if_neg (by rw [e]; exact hc), e]
  exact RM.i0
theorem QhW : HB 60 := hB Tryz.func60
theorem newest_cond {e f : Int} {a b : Int} : (bif e == 0 then (bif f != 0 then true else decide (a ≥ b)) else false) = true ↔ (e = 0 ∧ (f ≠ 0 ∨ b ≤ a)) := by
 by_cases h1 : e = 0 <;> by_cases h2 : f = 0 <;> simp [h1, h2]
set_option maxHeartbeats 2000000 in
theorem QlD (c : Conf) (d : Dev) (hd : d.tiny) : PS 20 [.a c.cells, .a d.cells] (.t [.inr (Qg c d).1.cells, .inl (.int .i64 (Qg c d).2)]) := by
 refine PSpec.rm ?_
 refine ov0 hΓ Tryz.func20 42 0 [.cell 4 57, .tmp 5] Tryz.ntmps20 Tryz.results20 ?_
 refine CallN.pureA QhW (QhT c d hd 0 (by decide) (by decide) ) (Go0 ?_)
 refine CallN.pureA QhW (QhT c d hd 1 (by decide) (by decide) ) (Go0 ?_)
 by_cases h1 : Qu c d 0 = 0 ∧ (Qu c d 1 ≠ 0 ∨ (Qz c d 1).seq ≤ (Qz c d 0).seq)
 ·refine Br.yes (newest_cond.2 h1) (Go0 ?_)
  rw [show Qg c d = (Qz c d 0, 0) from if_pos h1]
  exact RM.i0
 ·refine Br.no (Bool.eq_false_iff.2 fun q => h1 (newest_cond.1 q)) (Go0 ?_)
  by_cases h2 : Qu c d 1 = 0
  ·refine Br.yes (by simpa using h2) (Go0 ?_)
   rw [show Qg c d = (Qz c d 1, 1) from by unfold Qg; rw [if_neg h1, if_pos h2]]
   exact RM.i0
  ·refine Br.no (by simpa using h2) (Go0 ?_)
   rw [show Qg c d = (default, -1) from by unfold Qg; rw [if_neg h1, if_neg h2]]
   exact RM.i0
theorem Qlp : HB 20 := hB Tryz.func20
theorem Qkh (a b : Int) (size : Nat) (h1 : 1 ≤ size) (h7 : size ≤ 7) (ha0 : 0 ≤ a) (ha : a < 2 ^ (8 * size)) (hb0 : 0 ≤ b) (hb : b < 2 ^ (8 * size)) : PS 174 [.c (.int .i64 a), .c (.int .i64 b), .c (.int .i64 size)] (.c (.str (putS a size ++ putS b size))) := by
 have p1 := Qp a size
 have p2 := Qp b size
 refine PSpec.rm ?_
 refine ov0 hΓ Tryz.func174 26 0 [.tmp 6] Tryz.ntmps174 Tryz.results174 ?_
 refine CallN.pureA Qfj (QeU a size h1 h7 ha0 ha ) (Go0 ?_)
 refine CallN.pureA Qfj (QeU b size h1 h7 hb0 hb ) (Go0 ?_)
 exact RM.i0
theorem Qla : HB 174 := hB Tryz.func174
set_option maxHeartbeats 2000000 in
theorem Qpb (b : Bas) (hl : b.ents.length ≤ 1000000) : PS 173 [.a b.cells] (.c (.int .i64 (QJ b.seq b.next b.cut b.ents))) := by
 refine PSpec.rm ?_
 refine ov0 hΓ Tryz.func173 113 0 [.tmp 2] Tryz.ntmps173 Tryz.results173 ?_
 by_cases h1 : 1 ≤ b.seq ∧ b.seq < 1099511627776 ∧ 1 ≤ b.next ∧ b.next ≤ 1099511627776 ∧ 1 ≤ b.cut ∧ b.cut ≤ b.next
 ·refine Br.no (Bool.eq_false_iff.2 fun z => by simp at z; omega) (Go1 fun _h=>?_)
  by_cases h2 : 128 < b.ents.length
  ·refine Br.yes (by simpa using (by omega : (128 : Int) < b.ents.length)) (Go0 ?_)
   rw [show QJ b.seq b.next b.cut b.ents = 19 by unfold QJ; rw [if_pos h1, if_pos h2]]
   exact RM.i0
  ·refine Br.no (by simpa using (by omega : (b.ents.length : Int) ≤ 128)) (Go1 fun _h=>?_)
   have he : QJ b.seq b.next b.cut b.ents = QX b.ents b.next b.ents.length := by unfold QJ; rw [if_pos h1, if_neg h2]
   rw [he]
   refine Lp.mkK hΓ (ι := Nat) [1, 41, 42] (fun k => [(43, .c (.int .i64 k)), (3, .c (.int .i64 (if k = 0 then -1 else (b.ents.getD (k - 1) default).block)))]) (fun k => [.vr b.cells]) (fun k => k ≤ b.ents.length ∧ QX b.ents b.next k = 0) (fun k => b.ents.length - k) 0 ⟨Nat.zero_le _, rfl⟩ ?_ ?_
   ·exact Mv.k0
   ·rintro k ⟨hk, hk2⟩
    refine Go0 ?_
    refine Br.of (fun h3=>Go0 ?_) (fun h3=>Go0 ?_)
    ·have w0 := Qa (↑k + 1) (by omega) (by omega)
     have e1 : QX b.ents b.next (k + 1) = if Qam (b.ents.getD k default) b.next = 0 then if 0 < k ∧ (b.ents.getD k default).block ≤ (b.ents.getD (k - 1) default).block then 17 else 0 else Qam (b.ents.getD k default) b.next := by
      simp only [QX]; rw [if_pos hk2]
     rw [show b.ents.getD (k : Int).toNat default = b.ents.getD k default from rfl]
     generalize he2 : b.ents.getD k default = x at *
     by_cases q1 : x.kind = 1
     ·refine Br.no (by simpa using q1) (Go0 ?_)
      by_cases q2 : 0 ≤ x.block ∧ x.block < 128 ∧ 1 ≤ x.version ∧ x.version < b.next ∧ 0 ≤ x.move ∧ x.move ≤ 255
      ·refine Br.no (Bool.eq_false_iff.2 fun z => by simp at z; omega) (Go0 ?_)
       by_cases q3 : 0 ≤ x.zone ∧ x.zone < 32 ∧ 0 ≤ x.offset ∧ x.offset < 64
       ·refine Br.no (Bool.eq_false_iff.2 fun z => by simp at z; omega) (Go0 ?_)
        have e2 : Qam x b.next = 0 := by unfold Qam; rw [if_pos q1, if_pos ⟨q2.1, q2.2.1, q2.2.2.1, q2.2.2.2.1, q2.2.2.2.2.1, q2.2.2.2.2.2, q3⟩]
        rw [if_pos e2] at e1
        by_cases q4 : 0 < k ∧ x.block ≤ (b.ents.getD (k - 1) default).block
        ·refine Br.yes (by rw [if_neg (show ¬ k = 0 by omega)]; exact decide_eq_true q4.2) (Go0 ?_)
         rw [if_pos q4] at e1
         rw [Qb3 (by omega) e1 (by decide)]
         exact RM.i0
        ·refine Br.no (decide_eq_false fun z => ?_) ?_
         ·by_cases k0 : k = 0
          ·rw [if_pos k0] at z; omega
          ·rw [if_neg k0] at z; exact q4 ⟨by omega, z⟩
         ·refine Go0 ?_
          rw [if_neg q4] at e1
          refine ⟨k + 1, ⟨by omega, e1⟩, by omega, ?_⟩
          rw [if_neg (show ¬ k + 1 = 0 by omega), show k + 1 - 1 = k from rfl, he2]
          exact Mv.k0
       ·refine Br.yes (Decidable.byContradiction fun z => q3 (by simp at z; omega)) (Go0 ?_)
        have e2 : Qam x b.next = 1 := by unfold Qam; rw [if_pos q1, if_neg fun z => q3 z.2.2.2.2.2.2]
        rw [e2, if_neg (by decide)] at e1
        rw [Qb3 (by omega) e1 (by decide)]
        exact RM.i0
      ·refine Br.yes (Decidable.byContradiction fun z => q2 (by simp at z; omega)) (Go0 ?_)
       have e2 : Qam x b.next = 1 := by unfold Qam; rw [if_pos q1, if_neg fun z => q2 ⟨z.1, z.2.1, z.2.2.1, z.2.2.2.1, z.2.2.2.2.1, z.2.2.2.2.2.1⟩]
       rw [e2, if_neg (by decide)] at e1
       rw [Qb3 (by omega) e1 (by decide)]
       exact RM.i0
     ·refine Br.yes (by simpa using q1) (Go0 ?_)
      have e2 : Qam x b.next = 3 := by unfold Qam; rw [if_neg q1]
      rw [e2, if_neg (by decide)] at e1
      rw [Qb3 (by omega) e1 (by decide)]
      exact RM.i0
    ·have : k = b.ents.length := by omega
     subst this
     rw [hk2]
     exact RM.i0
 ·refine Br.yes (Decidable.byContradiction fun z => h1 (by simp at z; omega)) (Go0 ?_)
  rw [show QJ b.seq b.next b.cut b.ents = 1 by unfold QJ; rw [if_neg h1]]
  exact RM.i0
theorem Qol : HB 173 := hB Tryz.func173
theorem QsK {x : Int} (h0 : 0 ≤ x) (h1 : x < 4294967296) : notU (notU x) = x := by
 obtain ⟨a, rfl⟩ : ∃ a : Nat, x = a := ⟨x.toNat, by omega⟩
 have ha : a < 4294967296 := by omega
 unfold notU
 have e := QeC (a := 4294967295) (b := a) (by decide) ha
 rw [show ((4294967295 : Nat) : Int) = 4294967295 from rfl] at e
 rw [e]
 have e2 := QeC (a := 4294967295) (b := 4294967295 ^^^ a) (by decide) (Qf6 (by decide) ha)
 rw [show ((4294967295 : Nat) : Int) = 4294967295 from rfl] at e2
 rw [e2, ← Nat.xor_assoc, Nat.xor_self, Nat.zero_xor]
theorem Qo9 {a b : ByteArray} {k : Nat} (h : k < a.size) : QaH (a ++ b) k = QaH a k := by
 unfold QaH
 rw [ByteArray.data_append, Array.toList_append]
 have : k < a.data.toList.length := h
 simp [List.getD, List.getElem?_append_left this]
theorem Ql4 {a b : ByteArray} {k : Nat} : QaH (a ++ b) (a.size + k) = QaH b k := by
 unfold QaH
 rw [ByteArray.data_append, Array.toList_append]
 have e : a.size = a.data.toList.length := rfl
 rw [e]
 simp [List.getD, List.getElem?_append_right]
theorem QmK {s : Int} {a b : ByteArray} : ∀ k, k ≤ a.size → Q3 s (a ++ b) k = Q3 s a k
 | 0, _ => rfl
 | k + 1, h => by
  show Qbb QaY 8 (xorU (Q3 s (a ++ b) k) (QaH (a ++ b) k)) = Qbb QaY 8 (xorU (Q3 s a k) (QaH a k))
  rw [QmK k (by omega), Qo9 (by omega)]
theorem Qks {s : Int} {a b : ByteArray} : ∀ k, Q3 s (a ++ b) (a.size + k) = Q3 (addU s a) b k
 | 0 => by
  show Q3 s (a ++ b) a.size = notU (notU (Q3 s a a.size))
  have := Qh8 s a a.size
  rw [QsK this.1 this.2, QmK _ (Nat.le_refl _)]
 | k + 1 => by
  show Qbb QaY 8 (xorU (Q3 s (a ++ b) (a.size + k)) (QaH (a ++ b) (a.size + k))) = Qbb QaY 8 (xorU (Q3 (addU s a) b k) (QaH b k))
  rw [Qks k, Ql4]
theorem QoK {s : Int} {a b : ByteArray} : addU s (a ++ b) = addU (addU s a) b := by
 show notU (Q3 s (a ++ b) (a ++ b).size) = notU (Q3 (addU s a) b b.size)
 rw [ByteArray.size_append, Qks]
theorem QmW {l : List Rec} {k : Nat} (h : QC (l.getD k default) = 0) : addU 0 (QU l (k + 1)) = addU (addU 0 (QU l k)) ((encR (l.getD k default)).extract 0 36) := by
 rw [show QU l (k + 1) = QU l k ++ (encR (l.getD k default)).extract 0 36 from if_pos h]
 exact QoK
set_option maxHeartbeats 2000000 in
theorem Qqq (l : List Rec) (hl : l.length ≤ 1000) : PS 175 [.c (Qck l)] (.c (.str (Qdq l))) := by
 refine PSpec.rm ?_
 refine ov0 hΓ Tryz.func175 37 0 [.tmp 2] Tryz.ntmps175 Tryz.results175 ?_
 refine CallN.pureA Qg6 (Qhp ByteArray.empty (by decide) ) (Go1 fun _h=>?_)
 refine Lp.mkK hΓ (ι := Nat) [11, 12] (fun k => [(13, .c (.int .i64 k)), (3, .c (.int .u32 (addU 0 (QU l k))))]) (fun k => []) (fun k => k ≤ l.length) (fun k => l.length - k) 0 (Nat.zero_le _) ?_ ?_
 ·exact Mv.k0
 ·intro k hk
  refine Go0 ?_
  refine Br.of (fun h1=>Go0 ?_) (fun h1=>Go0 ?_)
  ·have w0 := Qa (↑k + 1) (by omega) (by omega)
   refine CallN.pureA Qht (Qhh (l.getD k default) ) (Go1 fun _h=>?_)
   by_cases h2 : QC (l.getD k default) = 0
   ·have hz := QgY h2
    refine Br.yes (by rw [hz]; rfl) (Go0 ?_)
    refine CallN.pureA QkU (Qkn (addU 0 (QU l k)) ((encR (l.getD k default)).extract 0 36) (by rw [ByteArray.size_extract]; omega) ) (Go0 ?_)
    refine ⟨k + 1, by omega, by omega, ?_⟩
    rw [QmW h2]
    exact Mv.k0
   ·have hz : encR (l.getD k default) = ByteArray.empty := if_neg h2
    refine Br.no (by rw [hz]; rfl) (Go0 ?_)
    refine ⟨k + 1, by omega, by omega, ?_⟩
    rw [show QU l (k + 1) = QU l k from if_neg h2]
    exact Mv.k0
  ·have : k = l.length := by omega
   subst this
   have hu := QhI 0 (QU l l.length)
   have w0 : sumW (QU l l.length) = addU 0 (QU l l.length) := Qa _ (by omega) (by omega)
   refine CallN.pureA Qfj (QeU (sumW (QU l l.length)) 4 (by decide) (by decide) (by rw [w0]; omega) (by rw [w0]; omega) ) (Go0 ?_)
   exact RM.i0
theorem Qqv : HB 175 := hB Tryz.func175
theorem Qon (l : List Rec) (n : Nat) (hn : n = l.length) (hl : n ≤ 1000) : CS 175 [.c (.sl 0 5 n n false)] [.arr 50 5 n (recG l)] fun s H => s = .c (.str (Qdq l)) ∧ H = [.arr 50 5 n (recG l)] := by
 subst hn
 exact CSpec.reads (Qqq l hl) (BwA.cons (BwS.c (Bw.sl rfl rfl (fun i _ j _ => Bw.same (Qar _ _)) (fun e => by cases e))) BwA.nil) rfl ⟨rfl, rfl⟩
theorem Qoj : HB 175 := Qqv
theorem QvY {l : List Rec} {x : Rec} {n : Nat} {g : Nat → Nat → C} (hn : n = l.length) (hg : ∀ j, j < 5 → g 0 j = QaK x j) {i j : Nat} (hi : i < n + 1) (hj : j < 5) : appG (recG l) n g i j = recG (l ++ [x]) i j := by
 subst hn
 simp only [appG, recG, rowG, List.getD]
 split
 ·rw [List.getElem?_append_left (by assumption)]
 ·have : i = l.length := by omega
  subst this
  simp [hg j hj]
theorem Qhe (l : List Rec) (x : Rec) (n : Nat) (hn : n = l.length) (hl : n ≤ 1000000) (g : Nat → Nat → C) (b : Bool) (hg : ∀ j, j < 5 → g 0 j = QaK x j) : CS 154 [.c (.sl 0 5 n n false), .c (.isl 5 1 g b)] [.arr 50 5 n (recG l)] fun s H => s = .c (.sl 0 5 (n + 1) (n + 1) false) ∧ H = [.arr 50 5 (n + 1) (recG (l ++ [x]))] := by
 refine CSpec.rm ?_
 refine ov0 hΓ Tryz.func154 8 1 [.tmp 4] Tryz.ntmps154 Tryz.results154 ?_
 refine ⟨_, _, ?_, rfl, rfl⟩
 refine RM.w1 ?_
 exact fun i hi j hj => WC.eq (QvY hn hg hi hj) (Qar _ _)
theorem QgU : HB 154 := hB Tryz.func154
theorem QrQ (x : Rec) (g : Nat → Nat → C) (b : Bool) (hg : ∀ j, j < 5 → g 0 j = QaK x j) : CS 154 [.c .nils, .c (.isl 5 1 g b)] [] fun s H => s = .c (.sl 0 5 1 1 false) ∧ H = [.arr 50 5 1 (recG [x])] := by
 refine CSpec.rm ?_
 refine ov0 hΓ Tryz.func154 8 0 [.tmp 4] Tryz.ntmps154 Tryz.results154 ?_
 refine ⟨_, _, ?_, rfl, rfl⟩
 refine RM.w1 ?_
 intro i hi j hj
 have : i = 0 := by omega
 subst this
 exact WC.eq (hg j hj) (Qar _ _)
theorem QrI : HB 154 := hB Tryz.func154
set_option maxHeartbeats 4000000 in
theorem Qnw (b : Bas) (hl : b.ents.length ≤ 1000000) : PS 155 [.a b.cells] (.t [.inl (Qck (Qa4 b.seq b.next b.cut b.ents)), .inl (.int .i64 (QJ b.seq b.next b.cut b.ents))]) := by
 refine PSpec.rm ?_
 refine ov0 hΓ Tryz.func155 62 0 [.tmp 2, .tmp 3] Tryz.ntmps155 Tryz.results155 ?_
 refine CallN.pureA Qol (Qpb b hl ) (Go0 ?_)
 by_cases h0 : QJ b.seq b.next b.cut b.ents = 0
 ·refine Br.no (by simpa using h0) (Go1 fun _h=>?_)
  obtain ⟨h1, h2, h3⟩ := Qc3 h0
  have p1 := Qp b.next 6
  have p2 := Qp b.cut 6
  refine Dr.mkE hΓ hMix [4294967296, 154] [] (by kernel_rfl) (Go0 ?_)
  refine CallP.auto Qla (Qkh b.next b.cut 6 (by decide) (by decide) (by omega) (by omega) (by omega) (by omega) ) (Go0 ?_)
  have hg0 : ∀ (t : List C) (j : Nat), j < 5 → Q4 5 (C.int .i64 4 :: C.int .i64 b.ents.length :: C.int .i64 b.seq :: C.int .i64 0 :: C.str (putS b.next 6 ++ putS b.cut 6) :: t) 0 j = QaK (Qbz b.seq b.next b.cut b.ents) j := fun t j hj => by
   match j, hj with
   | 0, _ => rfl
   | 1, _ => rfl
   | 2, _ => rfl
   | 3, _ => rfl
   | 4, _ => rfl
  refine CallE.autoI [] QrI (QrQ (Qbz b.seq b.next b.cut b.ents) _ _ (hg0 _)) plh (Go1 fun _h=>?_)
  refine Lp.mkK hΓ (ι := Nat) [1, 5, 29, 30] (fun k => [(6, .c (.sl 1 5 (k + 1) (k + 1) false)), (31, .c (.int .i64 k))]) (fun k => [.vr b.cells, .arr 50 5 (k + 1) (recG (Qbz b.seq b.next b.cut b.ents :: (b.ents.take k).map QbL))]) (fun k => k ≤ b.ents.length) (fun k => b.ents.length - k) 0 (Nat.zero_le _) ?_ ?_
  ·exact Mv.k0
  ·intro k hk
   have hlk : (Qbz b.seq b.next b.cut b.ents :: (b.ents.take k).map QbL).length = k + 1 := by simp; omega
   refine Go0 ?_
   refine Br.of (fun h4=>Go0 ?_) (fun h4=>Go0 ?_)
   ·have he := Qg0 (Qd8 h3 k (by omega))
    have w0 := Qa (↑k + 1) (by omega) (by omega)
    have p3 := Qp (b.ents.getD k default).zone 2
    have p4 := Qp (b.ents.getD k default).offset 2
    refine Dr.mkE hΓ hMix [4294967296, 154] [] (by kernel_rfl) (Go0 ?_)
    rw [show b.ents.getD (k : Int).toNat default = b.ents.getD k default from rfl]
    refine CallP.auto Qla (Qkh (b.ents.getD k default).zone (b.ents.getD k default).offset 2 (by decide) (by decide) (by omega) (by omega) (by omega) (by omega) ) (Go0 ?_)
    refine CallE.autoI [1] QgU (Qhe (Qbz b.seq b.next b.cut b.ents :: (b.ents.take k).map QbL) (QbL (b.ents.getD k default)) (k + 1) hlk.symm (by omega) _ _ (fun j hj => match j, hj with | 0, _ => rfl | 1, _ => rfl | 2, _ => rfl | 3, _ => rfl | 4, _ => rfl)) plh (Go0 ?_)
    refine ⟨k + 1, by omega, by omega, ?_⟩
    rw [Q6 b.ents (by omega), List.map_append]
    exact Mv.k0
   ·have : k = b.ents.length := by omega
    subst this
    rw [List.take_length] at *
    refine Dr.mkE hΓ hMix [4294967296, 175, 154] [(0, 5), (1, 5), (2, 5), (3, 5)] (by kernel_rfl) (Go0 ?_)
    refine CallE.autoI [1] Qoj (Qon (Qbz b.seq b.next b.cut b.ents :: List.map QbL b.ents) (b.ents.length + 1) hlk.symm (by omega)) plh (Go0 ?_)
    refine CallE.autoI [1] QgU (Qhe (Qbz b.seq b.next b.cut b.ents :: List.map QbL b.ents) ⟨6, b.ents.length, b.seq, 0, Qdq (QbN b.seq b.next b.cut b.ents)⟩ (b.ents.length + 1) hlk.symm (by omega) _ _ (fun j hj => match j, hj with | 0, _ => rfl | 1, _ => rfl | 2, _ => rfl | 3, _ => rfl | 4, _ => rfl)) plh (Go0 ?_)
    rw [h0, show Qa4 b.seq b.next b.cut b.ents = QbN b.seq b.next b.cut b.ents ++ [⟨6, b.ents.length, b.seq, 0, Qdq (QbN b.seq b.next b.cut b.ents)⟩] from if_pos h0]
    exact RM.allT (FwT.consC (Fw.slP rfl rfl (by simp [QbN]) (fun _ _ _ _ => rfl) (fun i j => Qar _ _)) (FwT.consC (Fw.same rfl) FwT.nil))
 ·refine Br.yes (by simpa using h0) (Go0 ?_)
  rw [show Qa4 b.seq b.next b.cut b.ents = [] from if_neg h0]
  exact RM.i0
theorem Qnl : HB 155 := hB Tryz.func155
theorem QtP {seq next cut : Int} {l : List Ent} (h : QJ seq next cut l = 0) : Qa4 seq next cut l = Qbz seq next cut l :: (l.map QbL ++ [⟨6, l.length, seq, 0, Qdq (QbN seq next cut l)⟩]) := by
 unfold Qa4
 rw [if_pos h]
 rfl
theorem Qh1 {seq next cut : Int} {l : List Ent} (h : QJ seq next cut l = 0) : (Qa4 seq next cut l).length = l.length + 2 ∧ ((Qa4 seq next cut l).getD 0 default).payload.size = 12 ∧ ∀ k, k < l.length → ((Qa4 seq next cut l).getD (k + 1) default).payload.size = 4 := by
 rw [QtP h]
 refine ⟨by simp, ?_, fun k hk => ?_⟩
 ·show (putS next 6 ++ putS cut 6).size = 12
  rw [ByteArray.size_append, Qp, Qp]
 ·have : (Qbz seq next cut l :: (l.map QbL ++ [⟨6, l.length, seq, 0, Qdq (QbN seq next cut l)⟩])).getD (k + 1) default = QbL l[k] := by
   simp [List.getD, hk, List.getElem?_append_left]
  rw [this]
  show (putS _ 2 ++ putS _ 2).size = 4
  rw [ByteArray.size_append, Qp, Qp]
theorem Qpy {l : List Rec} (h : 2 ≤ l.length) : (QB l).ents.length = l.length - 2 := by
 show ((midL l).map entD).length = _
 unfold midL
 rw [List.length_map, List.length_take, List.length_drop]
 omega
theorem Qfh {l : List Rec} (h : QaU l = 0) : 2 ≤ l.length ∧ l.length ≤ 130 ∧ (l.getD 0 default).payload.size = 12 ∧ ∀ k, k + 2 < l.length → (l.getD (k + 1) default).payload.size = 4 := by
 unfold QaU at h
 split at h
 ·rename_i hh
  obtain ⟨h1, h2, h3⟩ := hh
  obtain ⟨s1, s2, s3⟩ := Qh1 h2
  obtain ⟨_, b2, _⟩ := Qc3 h2
  rw [Qpy h1] at *
  rw [← h3] at s2 s3
  exact ⟨h1, by omega, s2, fun k hk => s3 k (by omega)⟩
 ·cases h
set_option maxHeartbeats 4000000 in
theorem QnH (l : List Rec) (hl : l.length ≤ 100000) (hp : ∀ i, (l.getD i default).payload.size ≤ 1000) : PS 119 [.c (Qck l)] (.t [.inr (Qao l).cells, .inl (.int .i64 (QaU l))]) := by
 have hsh : QaU l ≠ 0 → QaU l = 3 ∧ Qao l = default := fun h => by
  have e : QaU l = 3 := by
   unfold QaU at *
   split
   ·rename_i q; rw [if_pos q] at h; exact absurd rfl h
   ·rfl
  exact ⟨e, if_neg h⟩
 refine PSpec.rm ?_
 refine ov hΓ Tryz.func119 121 0 [.cell 2 57, .tmp 3] Tryz.ntmps119 Tryz.results119 ?_
 refine Go1 fun _h=>?_
 rw [show (l.getD (Int.toNat 0) default) = l.getD 0 default from rfl]
 have h0 := hp 0
 have w9 : IntKind.i64.wrap ((l.length : Int) - 1) = (l.length : Int) - 1 := Qa _ (by omega) (by omega)
 by_cases c1 : 2 ≤ l.length ∧ l.length ≤ 130 ∧ (l.getD 0 default).payload.size = 12
 ·refine Br.no (Bool.eq_false_iff.2 fun q => by simp [-List.getD_eq_getElem?_getD] at q; omega) ?_
  refine Go0 ?_
  obtain ⟨h, hl2, hp0⟩ := c1
  refine CallN.pureA Qcy (QcE (l.getD 0 default).payload 0 6 (by decide) (by decide) (by decide) (by omega) ) (Go0 ?_)
  refine CallN.pureA Qcy (QcE (l.getD 0 default).payload 6 6 (by decide) (by decide) (by decide) (by omega) ) (Go1 fun _h=>?_)
  have hml : (QbZ l (l.length - 2)).length = l.length - 2 := Qeo (by omega)
  have hraw : (QB l).ents = QbZ l (l.length - 2) := rfl
  have hrl := Qpy h
  rw [show (IntKind.i64.wrap ((l.length : Int) - 1)).toNat - Int.toNat 1 = l.length - 2 by rw [w9]; omega]
  refine Lp.mkK hΓ (ι := Nat) [0, 2, 4, 5, 56, 57] (fun k => [(58, .c (.int .i64 k))]) (fun k => [.vr (default : Bas).cells, .vr [.int .i64 (l.getD 0 default).version, .int .i64 (getS (l.getD 0 default).payload 0 6), .int .i64 (getS (l.getD 0 default).payload 6 6), .sl 2 6 k k false], .arr 67 6 k (entG (QbZ l k))]) (fun k => k + 2 ≤ l.length) (fun k => l.length - k) 0 (by omega) ?_ ?_
  ·refine (Mv.reserveO 1 3 67 6 (entG []) rfl rfl rfl rfl).trans ?_
   exact Mv.k0
  ·intro k hk
   have w0 := Qa ((k : Int) + 1) (by omega) (by omega)
   refine Go0 ?_
   refine Br.of (fun h1=>Go1 fun _h=>?_) (fun h1=>Go0 ?_)
   ·have hk2 : k + 2 < l.length := by omega
    have hpk := hp (k + 1)
    rw [show l.getD (Int.toNat 1 + (k : Int).toNat) default = l.getD (k + 1) default by rw [Int.toNat_natCast, Nat.add_comm]; rfl]
    by_cases c2 : (l.getD (k + 1) default).payload.size = 4
    ·refine Br.no (by rw [c2]; rfl) (Go0 ?_)
     refine CallN.pureA Qcy (QcE (l.getD (k + 1) default).payload 0 2 (by decide) (by decide) (by decide) (by omega) ) (Go0 ?_)
     refine CallN.pureA Qcy (QcE (l.getD (k + 1) default).payload 2 2 (by decide) (by decide) (by decide) (by omega) ) (Go0 ?_)
     refine ⟨k + 1, by omega, by omega, ?_⟩
     rw [QmL (by omega)]
     refine Mv.k1 ?_
     exact fun i hi j hj => WC.eq (Qii (x := entD (l.getD (k + 1) default)) (Qeo (by omega)).symm (by rw [Qeo (by omega)]; exact hi) hj) (QK _ _)
    ·refine Br.yes (by simp [-List.getD_eq_getElem?_getD]; omega) ?_
     refine Go0 ?_
     obtain ⟨e1, e2⟩ := hsh fun e => c2 ((Qfh e).2.2.2 k hk2)
     rw [e1, e2]
     exact RM.i0
   ·have hk2 : k = l.length - 2 := by omega
    subst hk2
    refine CallN.fzK 2 [0, 2, 3, 4, 5] [] [.vr (default : Bas).cells, .vr [.int .i64 (l.getD 0 default).version, .int .i64 (getS (l.getD 0 default).payload 0 6), .int .i64 (getS (l.getD 0 default).payload 6 6), QQ (QbZ l (l.length - 2))], .dead] [.a [.int .i64 (l.getD 0 default).version, .int .i64 (getS (l.getD 0 default).payload 0 6), .int .i64 (getS (l.getD 0 default).payload 6 6), QQ (QbZ l (l.length - 2))]] rfl leN (fun i _ j _ => QK _ _) wb0 wb0 wb0 leN ?_
    have hen := Qk9 (QB l).seq (QB l).next (QB l).cut (QB l).ents
    refine CallN.pureA Qnl (Qnw (QB l) (by omega) ) (Go0 ?_)
    by_cases c2 : QJ (QB l).seq (QB l).next (QB l).cut (QB l).ents = 0
    ·refine Br.no (by simpa using c2) (Go1 fun _h=>?_)
     have hsl := (Qh1 c2).1
     generalize hA : Qa4 (QB l).seq (QB l).next (QB l).cut (QB l).ents = A at *
     have hlA : l.length = A.length := by omega
     refine Lp.mkK hΓ (ι := Nat) [0, 2, 5, 105, 106] (fun k => [(107, .c (.int .i64 k))]) (fun k => [.vr (default : Bas).cells, .vr [.int .i64 (l.getD 0 default).version, .int .i64 (getS (l.getD 0 default).payload 0 6), .int .i64 (getS (l.getD 0 default).payload 6 6), QQ (QbZ l (l.length - 2))], .dead]) (fun k => k ≤ A.length ∧ ∀ j, j < k → l.getD j default = A.getD j default) (fun k => A.length - k) 0 ⟨Nat.zero_le _, fun i hi => absurd hi (Nat.not_lt_zero _)⟩ ?_ ?_
     ·exact Mv.k0
     ·rintro k ⟨hk3, hk4⟩
      refine Go0 ?_
      refine Br.of (fun h5=>Go0 ?_) (fun h5=>Go0 ?_)
      ·have w1 := Qa ((k : Int) + 1) (by omega) (by omega)
       refine Dr.mk hΓ hMix (by kernel_rfl) (Go0 ?_)
       by_cases c3 : l.getD k default = A.getD k default
       ·refine Br.no (rec_cond.trans (by show (!decide (A.getD k default = l.getD k default)) = false; rw [decide_eq_true c3.symm]; rfl)) (Go0 ?_)
        refine ⟨k + 1, ⟨by omega, fun j hj => ?_⟩, by omega, ?_⟩
        ·rcases Nat.lt_succ_iff_lt_or_eq.1 hj with q | rfl
         ·exact hk4 j q
         ·exact c3
        ·exact Mv.k0
       ·refine Br.yes (rec_cond.trans (by show (!decide (A.getD k default = l.getD k default)) = true; rw [decide_eq_false (fun e => c3 e.symm)]; rfl)) (Go0 ?_)
        obtain ⟨e1, e2⟩ := hsh fun e => c3 (by
         unfold QaU at e
         split at e
         ·rename_i q
          rw [hA] at q
          rw [← q.2.2]
         ·cases e)
        rw [e1, e2]
        exact RM.i0
      ·have : k = A.length := by omega
       subst this
       have e : QaU l = 0 := if_pos ⟨h, c2, by rw [hA]; exact QcF hlA (by rw [hlA]; exact hk4)⟩
       rw [show Qao l = QB l from if_pos e, e]
       exact RM.i0
    ·refine Br.yes (by simpa using c2) (Go0 ?_)
     obtain ⟨e1, e2⟩ := hsh fun e => c2 (by
      unfold QaU at e
      split at e
      ·rename_i q; exact q.2.1
      ·cases e)
     rw [e1, e2]
     exact RM.i0
 ·refine Br.yes (Decidable.byContradiction fun q => c1 (by simp [-List.getD_eq_getElem?_getD] at q; omega)) ?_
  refine Go0 ?_
  obtain ⟨e1, e2⟩ := hsh fun e => c1 ⟨(Qfh e).1, (Qfh e).2.1, (Qfh e).2.2.1⟩
  rw [e1, e2]
  exact RM.i0
theorem Qm4 : HB 119 := hB Tryz.func119
set_option maxHeartbeats 2000000 in
theorem Qpc (c : Conf) (slot : Int) (h0 : 0 ≤ slot) (h1 : slot ≤ 1) (hc : Qn c = 0) : PS 117 [.a c.cells, .c (.int .i64 slot)] (.c (QbY (Qas c slot))) := by
 have hr := (Qay hc).1
 have hs := Qav hr
 refine PSpec.rm ?_
 refine ov0 hΓ Tryz.func117 40 0 [.tmp 4] Tryz.ntmps117 Tryz.results117 ?_
 refine CallN.pureA QjC (Qjl c hc ) (Go0 ?_)
 have hsl : slot = 0 ∨ slot = 1 := by omega
 refine Br.no (by rcases hsl with rfl | rfl <;> rfl) ?_
 refine Go0 ?_
 refine Lp.reserve 3 1 (QcT .i64 []) 7 rfl ?_
 refine Lp.mkK hΓ (ι := Nat) [1, 5, 25] (fun k => [(26, .c (.int .i64 k)), (7, .c (.sl 2 1 k k false))]) (fun k => [.vr c.cells, .vr (Lay.cells c), .arr 3 1 k (QcT .i64 (tabL (fun k => slot * Qi c + (k : Nat)) k))]) (fun k => k ≤ (Qi c).toNat) (fun k => (Qi c).toNat - k) 0 (Nat.zero_le _) ?_ ?_
 ·exact Mv.k0
 ·intro k hk
  refine Go0 ?_
  refine Br.of (fun h2=>?_) (fun h2=>?_)<;>(try simp only [Int.toNat_natCast] at h2)<;>refine Go0 ?_
  ·have w0 := Qa (↑k + 1) (by omega) (by omega)
   refine ⟨k + 1, by omega, by omega, ?_⟩
   refine Mv.k1 ?_
   intro i hi j hj
   have e1 : IntKind.i64.wrap (IntKind.i64.wrap (slot * Qi c) + (k : Int)) = slot * Qi c + (k : Nat) := by
    rcases hsl with rfl | rfl
    ·rw [Qa (0 * Qi c) (by omega) (by omega), Qa _ (by omega) (by omega)]
    ·rw [Qa (1 * Qi c) (by omega) (by omega), Qa _ (by omega) (by omega)]
   rw [e1, QkK]
   exact WC.eq (Ql8 (by simp) (by first | omega | (simp; omega)) hj) rfl
  ·have : k = (Qi c).toNat := by omega
   subst this
   exact RM.allC (Fw.ints rfl rfl (tabL_len _).symm (fun _ _ _ _ => rfl))
theorem Qo6 : HB 117 := hB Tryz.func117
theorem Qn9 {p : List ByteArray} : Qai p = none ∨ ∃ l, Qai p = some l ∧ l.length ≤ p.length := by
 induction p with
 | nil => exact Or.inl rfl
 | cons s t ih =>
  unfold Qai
  split
  ·split
   ·exact Or.inr ⟨_, rfl, by simp⟩
   ·rcases ih with ih | ⟨l, h1, h2⟩
    ·rw [ih]; exact Or.inl rfl
    ·rw [h1]; exact Or.inr ⟨_, rfl, by simp; omega⟩
  ·exact Or.inl rfl
def Qbo (d : Dev) (zs : List Int) : List Rec := (Qai (QaT d zs)).getD []
set_option maxHeartbeats 4000000 in
theorem QmS (d : Dev) (hd : d.tiny) (zs : List Int) (hz : zs.length ≤ 200) (hzr : ∀ i, i < zs.length → 0 ≤ zs.getD i default ∧ zs.getD i default < d.zones.length) : PS 118 [.a d.cells, .c (QbY zs)] (.t [.inl (Qck (Qbo d zs)), .inl (.bool (Qai (QaT d zs)).isSome)]) := by
 refine PSpec.rm ?_
 refine ov hΓ Tryz.func118 46 0 [.tmp 4, .tmp 5] Tryz.ntmps118 Tryz.results118 ?_
 refine Go1 fun _h=>?_
 refine Lp.reserve 50 5 (recG []) 4 rfl ?_
 refine Lp.mkK hΓ (ι := Nat) [2, 5, 12, 13] (fun i => [(14, .c (.int .i64 i)), (4, .c (.sl 1 5 (preS d zs i 0).length (preS d zs i 0).length false))]) (fun i => [.vr d.cells, .arr 50 5 (preS d zs i 0).length (recG ((preS d zs i 0).map decR))]) (fun i => i ≤ zs.length ∧ ∀ s ∈ preS d zs i 0, okS s) (fun i => zs.length - i) 0 ⟨Nat.zero_le _, by rw [Qmf]; exact fun s hs => absurd hs List.not_mem_nil⟩ ?_ ?_
 ·exact Mv.k0
 ·rintro i ⟨hi, hi2⟩
  refine Go0 ?_
  refine Br.of (fun h2=>?_) (fun h2=>?_)<;>(try simp only [Int.toNat_natCast] at h2)<;>(conv=>whnf)
  ·refine Go1 fun _h=>?_
   have w0 := Qa (↑i + 1) (by omega) (by omega)
   obtain ⟨hz0, hz1⟩ := hzr i (by omega)
   have hzs : (secZ d (zs.getD i default)).length ≤ 100 := hd.s _
   have hpl := preL hd zs i
   have hdz := hd.z
   refine Go0 ?_
   rw [show (d.zones.getD (zs.getD (i : Int).toNat default).toNat default).sectors = secZ d (zs.getD i default) from rfl]
   refine Lp.mkK hΓ (ι := Nat) [2, 5, 12, 13, 14, 23, 24] (fun k => [(25, .c (.int .i64 k)), (4, .c (.sl 1 5 (preS d zs i k).length (preS d zs i k).length false))]) (fun k => [.vr d.cells, .arr 50 5 (preS d zs i k).length (recG ((preS d zs i k).map decR))]) (fun k => k ≤ (secZ d (zs.getD i default)).length ∧ ∀ s ∈ preS d zs i k, okS s) (fun k => (secZ d (zs.getD i default)).length - k) 0 ⟨Nat.zero_le _, hi2⟩ ?_ ?_
   ·exact Mv.k0
   ·rintro k ⟨hk, hk2⟩
    refine Go0 ?_
    refine Br.of (fun h3=>?_) (fun h3=>?_)<;>(try simp only [Int.toNat_natCast] at h3)<;>refine Go0 ?_
    ·have w2 := Qa (↑k + 1) (by omega) (by omega)
     have hkl : k < (secZ d (zs.getD i default)).length := by omega
     obtain ⟨q, hq⟩ := Qk1 (d := d) (zs := zs) (i := i) (k := k) (by omega) hkl
     have hst := Qml (d := d) (zs := zs) (i := i) (k := k) hkl
     have hpk := preL hd zs i k
     rw [show (secZ d (zs.getD i default)).getD (k : Int).toNat ByteArray.empty = (secZ d (zs.getD i default)).getD k default from rfl]
     generalize hs : (secZ d (zs.getD i default)).getD k default = s at *
     refine CallN.pureA Qhn (Qhl s ) (Go0 ?_)
     by_cases c1 : decE s = 0
     ·refine Br.no (by simpa using c1) (Go0 ?_)
      have hg1 : ∀ (t : List C) (i' j : Nat), i' < 1 → j < 5 → Q4 5 (C.int .i64 (decR s).kind :: C.int .i64 (decR s).block :: C.int .i64 (decR s).version :: C.int .i64 (decR s).move :: C.str (decR s).payload :: t) i' j = recG [decR s] i' j := fun t i' j hi' hj => by
       have : i' = 0 := by omega
       subst this
       match j, hj with
       | 0, _ => rfl
       | 1, _ => rfl
       | 2, _ => rfl
       | 3, _ => rfl
       | 4, _ => rfl
      refine CallN.fzK 3 [2, 5, 10, 12, 13, 14, 23, 24, 25] [] [.vr d.cells, .arr 50 5 (preS d zs i k).length (recG ((preS d zs i k).map decR)), .vr (decR s).cells, .dead] [.c (.sl 1 5 (preS d zs i k).length (preS d zs i k).length false), .c (.isl 5 1 (recG [decR s]) false)] rfl leN (fun i' hi' j hj => (congrArg C.imm (hg1 _ i' j hi' hj)).trans (Qar _ _)) (by (first|refine wb1 ?_|refine wb2 ?_ ?_|refine wb3 ?_ ?_ ?_|refine wb4 ?_ ?_ ?_ ?_) <;> exact fun i _ j _ => WC.fzI (Qar _ _)) wb0 (by (first|refine wb1 ?_|refine wb2 ?_ ?_|refine wb3 ?_ ?_ ?_|refine wb4 ?_ ?_ ?_ ?_) <;> exact WC.fz rfl rfl (fun i' hi' j hj => leF.of_eq (hg1 _ i' j hi' hj)) (fun e => by cases e)) leN ?_
      refine CallN.autoI [1] QgU (Qhe ((preS d zs i k).map decR) (decR s) (preS d zs i k).length (by simp) (by omega) (recG [decR s]) false (fun j hj => rfl)) plh (Go0 ?_)
      by_cases c2 : (decR s).kind = 6
      ·refine Br.yes (by simpa using c2) (Go0 ?_)
       have e := Qez (q := q) hk2 c1 c2
       rw [show Qbo d zs = (preS d zs i k).map decR ++ [decR s] by unfold Qbo; rw [hq, e]; rfl, hq, e]
       exact RM.allT (FwT.consC (Fw.slP rfl rfl (by simp) (fun _ _ _ _ => rfl) (fun i j => Qar _ _)) (FwT.consC (Fw.same rfl) FwT.nil))
      ·refine Br.no (by simpa using c2) (Go0 ?_)
       refine ⟨k + 1, ⟨by omega, ?_⟩, by omega, ?_⟩
       ·rw [hst]
        intro x hx
        rcases List.mem_append.1 hx with hx | hx
        ·exact hk2 x hx
        ·rw [List.mem_singleton.1 hx]; exact ⟨c1, c2⟩
       ·have hle : (preS d zs i k ++ [s]).length = (preS d zs i k).length + 1 := by simp
        rw [hst, List.map_append, show [s].map decR = [decR s] from rfl]
        exact Mv.k0
     ·refine Br.yes (by simpa using c1) (Go0 ?_)
      have e := Qid (q := q) hk2 c1
      rw [show Qbo d zs = [] by unfold Qbo; rw [hq, e]; rfl, hq, e]
      exact RM.i0
    ·have : k = (secZ d (zs.getD i default)).length := by omega
     subst this
     refine ⟨i + 1, ⟨by omega, ?_⟩, by omega, ?_⟩
     ·rw [QgC (by omega)]; exact hk2
     ·rw [QgC (by omega)]
      exact Mv.k0
  ·refine Go0 ?_
   have : i = zs.length := by omega
   subst this
   rw [QpT] at hi2
   rw [show Qbo d zs = [] by unfold Qbo; rw [QeG hi2]; rfl, QeG hi2]
   exact RM.i0
theorem Qnc : HB 118 := hB Tryz.func118
theorem QqQ {d : Dev} (hd : d.tiny) {zs : List Int} (hz : zs.length ≤ 200) : (Qbo d zs).length ≤ 100000 := by
 have h1 := QjR hd zs zs.length
 rw [List.take_length] at h1
 unfold Qbo
 rcases Qn9 (p := QaT d zs) with h | ⟨l, h2, h3⟩
 ·rw [h]; exact Nat.zero_le _
 ·rw [h2]
  show l.length ≤ _
  omega
theorem QoM {p : List ByteArray} : ∀ {l : List Rec}, Qai p = some l → ∀ r ∈ l, r.payload.size ≤ 20 := by
 induction p with
 | nil => intro l h; cases h
 | cons s t ih =>
  intro l h r hr
  unfold Qai at h
  split at h
  ·split at h
   ·cases h
    rw [List.mem_singleton.1 hr]
    exact QeN s
   ·cases q : Qai t with
    | none => rw [q] at h; cases h
    | some l' =>
     rw [q] at h
     cases h
     rcases List.mem_cons.1 hr with rfl | hr
     ·exact QeN s
     ·exact ih q r hr
  ·cases h
theorem Qrg (d : Dev) (zs : List Int) (i : Nat) : ((Qbo d zs).getD i default).payload.size ≤ 1000 := by
 by_cases h : i < (Qbo d zs).length
 ·rw [Qcf _ i h]
  have hm := List.getElem_mem h
  generalize (Qbo d zs)[i] = r at hm ⊢
  unfold Qbo at hm
  cases q : Qai (QaT d zs) with
  | none => rw [q] at hm; exact absurd hm List.not_mem_nil
  | some l =>
   rw [q] at hm
   have := QoM q r hm
   omega
 ·rw [show (Qbo d zs).getD i default = default by simp [List.getD, h]]
  exact Nat.zero_le _
set_option maxHeartbeats 4000000 in
theorem Qqy (c : Conf) (d : Dev) (hd : d.tiny) (slot : Int) (h0 : 0 ≤ slot) (h1 : slot ≤ 1) : PS 85 [.a c.cells, .a d.cells, .c (.int .i64 slot)] (.t [.inr (Qz c d slot).cells, .inl (.int .i64 (Qu c d slot))]) := by
 refine PSpec.rm ?_
 refine ov0 hΓ Tryz.func85 91 0 [.cell 6 57, .tmp 7] Tryz.ntmps85 Tryz.results85 ?_
 refine CallN.pureA Qfl (Qfo c ) (Go0 ?_)
 by_cases hc : Qn c = 0
 ·refine Br.no (by simpa using hc) (Go0 ?_)
  have hs01 : slot = 0 ∨ slot = 1 := by omega
  refine Br.no (by rcases hs01 with rfl | rfl <;> rfl) ?_
  refine Go0 ?_
  have hsr := Qav (Qay hc).1
  have hlen := Qi5 c slot
  refine CallN.pureA Qo6 (Qpc c slot h0 h1 hc ) (Go1 fun _h=>?_)
  refine Lp.mkK hΓ (ι := Nat) [3, 4, 6, 9, 32, 33] (fun k => [(34, .c (.int .i64 k))]) (fun k => [.vr c.cells, .vr d.cells, .vr (default : Bas).cells]) (fun k => k ≤ (Qas c slot).length ∧ ∀ i, i < k → (Qas c slot).getD i default < d.zones.length) (fun k => (Qas c slot).length - k) 0 ⟨Nat.zero_le _, fun i hi => absurd hi (Nat.not_lt_zero _)⟩ ?_ ?_
  ·exact Mv.k0
  ·rintro k ⟨hk, hk2⟩
   refine Go0 ?_
   refine Br.of (fun h2=>?_) (fun h2=>?_)<;>(try simp only [Int.toNat_natCast] at h2)<;>(conv=>whnf)
   ·refine Go1 fun _h=>?_
    have w0 := Qa (↑k + 1) (by omega) (by omega)
    by_cases c1 : (Qas c slot).getD k default < d.zones.length
    ·refine Br.no (decide_eq_false (by show ¬ (Qas c slot).getD k default ≥ _; omega)) (Go0 ?_)
     refine ⟨k + 1, ⟨by omega, fun j hj => ?_⟩, by omega, ?_⟩
     ·rcases Nat.lt_succ_iff_lt_or_eq.1 hj with q | rfl
      ·exact hk2 j q
      ·exact c1
     ·exact Mv.k0
    ·refine Br.yes (decide_eq_true (by show (Qas c slot).getD k default ≥ _; omega)) (Go0 ?_)
     have hz : ¬ slot * Qi c + Qi c ≤ d.zones.length := fun q => c1 (by rw [Qdn (by omega)]; omega)
     have e : Qu c d slot = 5 := by unfold Qu; rw [if_pos hc, if_neg hz]
     rw [show Qz c d slot = default from if_neg (by rw [e]; decide), e]
     exact RM.i0
   ·refine Go0 ?_
    have : k = (Qas c slot).length := by omega
    subst this
    have hz : slot * Qi c + Qi c ≤ d.zones.length := by
     have := hk2 ((Qi c).toNat - 1) (by omega)
     rw [Qdn (by omega)] at this
     omega
    have hs0 : 0 ≤ slot * Qi c := Int.mul_nonneg h0 (by omega)
    refine CallN.pureA Qnc (QmS d hd (Qas c slot) (by omega) (fun i hi => ⟨by rw [Qdn (by omega)]; omega, hk2 i hi⟩) ) (Go0 ?_)
    have hrl := QqQ hd (zs := Qas c slot) (by omega)
    have hrp := Qrg d (Qas c slot)
    cases q : Qai (QaT d (Qas c slot)) with
    | none =>
     refine Br.yes rfl (Go0 ?_)
     have e : Qu c d slot = 3 := by unfold Qu; rw [if_pos hc, if_pos hz, q]
     rw [show Qz c d slot = default from if_neg (by rw [e]; decide), e]
     exact RM.i0
    | some l =>
     refine Br.no rfl (Go0 ?_)
     have hq : Qbo d (Qas c slot) = l := by unfold Qbo; rw [q]; rfl
     rw [hq] at hrl hrp
     rw [hq]
     refine CallN.pureA Qm4 (QnH l hrl hrp ) (Go0 ?_)
     have hd2 := Qkm l
     have w1 : IntKind.i64.wrap (((Qao l).ents.length : Int) - 1) = ((Qao l).ents.length : Int) - 1 := Qa _ (by omega) (by omega)
     refine Dr.mk hΓ hMix (by kernel_rfl) (Go0 ?_)
     have ee : Qu c d slot = Qa8 c l := by unfold Qu; rw [if_pos hc, if_pos hz, q]
     have eb : Qz c d slot = Qa9 c l := by
      unfold Qz
      rw [ee, q]
      by_cases q0 : Qa8 c l = 0
      ·rw [if_pos q0]
      ·rw [if_neg q0]; exact (if_neg q0).symm
     rw [ee, eb]
     by_cases c1 : QaU l = 0 ∧ (Qao l).ents.length ≤ c.blocks ∧ (0 < (Qao l).ents.length → ((Qao l).ents.getD ((Qao l).ents.length - 1) default).block < c.blocks)
     ·refine Br.no (Bool.eq_false_iff.2 fun q => whole_cond.1 (by rw [w1] at q; exact q) c1) (Go0 ?_)
      have e : Qa8 c l = 0 := if_pos c1
      rw [show Qa9 c l = Qao l from if_pos e, e]
      exact RM.i0
     ·refine Br.yes (by rw [w1]; exact whole_cond.2 c1) (Go0 ?_)
      have e : Qa8 c l = 3 := if_neg c1
      rw [show Qa9 c l = default from if_neg (by rw [e]; decide), e]
      exact RM.i0
 ·refine Br.yes (by simpa using hc) (Go0 ?_)
  have e : Qu c d slot = Qn c := if_neg hc
  rw [show Qz c d slot = default from if_neg (by rw [e]; exact hc), e]
  exact RM.i0
theorem QrD : HB 85 := hB Tryz.func85
theorem QpC {c : Conf} {d : Dev} {slot : Int} (h : Qu c d slot = 0) : 1 ≤ (Qz c d slot).seq := by
 unfold Qz
 rw [if_pos h]
 unfold Qu at h
 split at h
 ·split at h
  ·split at h
   ·cases h
   ·rename_i l q
    try rw [q]
    show 1 ≤ (Qa9 c l).seq
    unfold Qa9
    rw [if_pos h]
    unfold Qa8 at h
    split at h
    ·rename_i w
     have w := w.1
     unfold Qao
     rw [if_pos w]
     unfold QaU at w
     split at w
     ·rename_i ww
      exact (Qc3 ww.2.1).1.1
     ·cases w
    ·cases h
  ·cases h
 ·rename_i q; exact absurd h q
def QcX (c : Conf) (d : Dev) : Nat → Bas × Int
 | 0 => (default, -1)
 | k + 1 => if Qu c d k = 0 ∧ (QcX c d k).1.seq < (Qz c d k).seq then (Qz c d k, k) else QcX c d k
theorem QsJ (c : Conf) (d : Dev) : QcX c d 2 = Qg c d := by
 have h0 : QcX c d 1 = if Qu c d 0 = 0 then (Qz c d 0, 0) else (default, -1) := by
  show (if Qu c d (0 : Nat) = 0 ∧ (QcX c d 0).1.seq < (Qz c d (0 : Nat)).seq then _ else _) = _
  by_cases h : Qu c d 0 = 0
  ·have := QpC h
   rw [if_pos h, if_pos ⟨h, by show (0 : Int) < _; exact this⟩]
   rfl
  ·rw [if_neg h, if_neg fun q => h q.1]; rfl
 show (if Qu c d (1 : Nat) = 0 ∧ (QcX c d 1).1.seq < (Qz c d (1 : Nat)).seq then _ else _) = _
 rw [h0]
 unfold Qg
 by_cases h : Qu c d 0 = 0
 ·rw [if_pos h]
  by_cases g : Qu c d 1 = 0
  ·by_cases k : (Qz c d 1).seq ≤ (Qz c d 0).seq
   ·rw [if_neg fun q => by have := q.2; have e : (Qz c d ((1 : Nat) : Int)).seq = (Qz c d 1).seq := rfl; simp only at this; omega, if_pos ⟨h, Or.inr k⟩]
   ·rw [if_pos ⟨g, by show (Qz c d 0).seq < (Qz c d 1).seq; omega⟩, if_neg fun q => q.2.elim (fun z => z g) k, if_pos g]
    rfl
  ·rw [if_neg fun q => g q.1, if_pos ⟨h, Or.inl g⟩]
 ·rw [if_neg h]
  by_cases g : Qu c d 1 = 0
  ·have := QpC g
   rw [if_pos ⟨g, by show (0 : Int) < _; exact this⟩, if_neg fun q => h q.1, if_pos g]
   rfl
  ·rw [if_neg fun q => g q.1, if_neg fun q => h q.1, if_neg g]
set_option maxHeartbeats 2000000 in
theorem QmH (c : Conf) (d : Dev) (hd : d.tiny) : PS 45 [.a c.cells, .a d.cells] (.t [.inr (Qg c d).1.cells, .inl (.int .i64 (Qg c d).2)]) := by
 refine PSpec.rm ?_
 refine ov0 hΓ Tryz.func45 36 0 [.cell 4 57, .tmp 5] Tryz.ntmps45 Tryz.results45 ?_
 refine Lp.mkK hΓ (ι := Nat) [2, 3, 4, 6] (fun k => [(12, .c (.int .i64 k)), (7, .c (.int .i64 (QcX c d k).2))]) (fun k => [.vr c.cells, .vr d.cells, .vr (default : Bas).cells, .vr (QcX c d k).1.cells]) (fun k => k ≤ 2) (fun k => 2 - k) 0 (Nat.zero_le _) ?_ ?_
 ·exact Mv.k0
 ·intro k hk
  refine Go0 ?_
  refine Br.of (fun h1=>?_) (fun h1=>?_)<;>(try simp only [Int.toNat_natCast] at h1)<;>refine Go0 ?_
  ·have w0 := Qa (↑k + 1) (by omega) (by omega)
   refine CallN.pureA QrD (Qqy c d hd k (by omega) (by omega) ) (Go0 ?_)
   by_cases h : Qu c d k = 0 ∧ (QcX c d k).1.seq < (Qz c d k).seq
   ·refine Br.yes (by rw [h.1]; exact decide_eq_true h.2) (Go0 ?_)
    refine ⟨k + 1, by omega, by omega, ?_⟩
    rw [show QcX c d (k + 1) = (Qz c d k, (k : Int)) from if_pos h]
    exact Mv.k0
   ·refine Br.no (Bool.eq_false_iff.2 fun q => h ?_) ?_
    ·by_cases g : Qu c d k = 0
     ·refine ⟨g, ?_⟩
      rw [g] at q
      exact of_decide_eq_true q
     ·rw [beq_false_of_ne g] at q
      cases q
    ·refine Go0 ?_
     refine ⟨k + 1, by omega, by omega, ?_⟩
     rw [show QcX c d (k + 1) = QcX c d k from if_neg h]
     exact Mv.k0
  ·have : k = 2 := by omega
   subst this
   rw [QsJ]
   exact RM.i0
theorem QnJ : HB 45 := hB Tryz.func45
end Go.Proofs
end
