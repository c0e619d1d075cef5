/- Contracts, lemmas; no condition. -/
import Derived.Test.YtkelkepdcfogaaaGreatP22C
import Derived.Test.YtkelkepdcfogaaaGreatP13C
set_option linter.all false
section
open Go Go.Am
namespace Go.Proofs
set_option maxRecDepth 20000
theorem Qeg (s : ByteArray) : (decR s).payload.size ≤ 20 := by
 unfold decR
 split
 ·rename_i h
  unfold decE at h
  split at h
  ·split at h
   ·split at h
    ·rename_i h3
     exact (QaL h3.1).2.2
    ·cases h
   ·cases h
  ·cases h
 ·exact Nat.zero_le _
def okS (s : ByteArray) : Prop := decE s = 0 ∧ (decR s).kind ≠ 6
theorem Qfk {p : List ByteArray} (h : ∀ s ∈ p, okS s) (q : List ByteArray) : Qad (p ++ q) = (Qad q).map (p.map decR ++ ·) := by
 induction p with
 | nil => simp
 | cons s t ih =>
  obtain ⟨h1, h2⟩ := h s (List.mem_cons_self ..)
  simp only [List.cons_append, Qad, if_pos h1, if_neg h2]
  rw [ih fun x hx => h x (List.mem_cons_of_mem _ hx)]
  cases Qad q <;> rfl
theorem QeF {p : List ByteArray} (h : ∀ s ∈ p, okS s) : Qad p = none := by
 have := Qfk h []
 rw [List.append_nil] at this
 rw [this]; rfl
theorem QhG {p : List ByteArray} (h : ∀ s ∈ p, okS s) {s : ByteArray} {q : List ByteArray} (hs : decE s ≠ 0) : Qad (p ++ s :: q) = none := by
 rw [Qfk h]
 simp only [Qad, if_neg hs]
 rfl
theorem Qes {p : List ByteArray} (h : ∀ s ∈ p, okS s) {s : ByteArray} {q : List ByteArray} (hs : decE s = 0) (h6 : (decR s).kind = 6) : Qad (p ++ s :: q) = some (p.map decR ++ [decR s]) := by
 rw [Qfk h]
 simp only [Qad, if_pos hs, if_pos h6]
 rfl
def secZ (d : Dev) (z : Int) : List ByteArray := (d.zones.getD z.toNat default).sectors
def preS (d : Dev) (zs : List Int) (i k : Nat) : List ByteArray := QaM d (zs.take i) ++ (secZ d (zs.getD i default)).take k
theorem Qmo {d : Dev} {zs : List Int} : preS d zs 0 0 = [] := by simp [preS, QaM]
theorem Qgc {d : Dev} {zs : List Int} {i : Nat} (hi : i < zs.length) : preS d zs (i + 1) 0 = preS d zs i (secZ d (zs.getD i default)).length := by
 unfold preS QaM
 rw [Qaa zs hi, List.flatMap_append, List.take_length]
 simp [secZ]
theorem QlN {d : Dev} {zs : List Int} {i k : Nat} (hk : k < (secZ d (zs.getD i default)).length) : preS d zs i (k + 1) = preS d zs i k ++ [(secZ d (zs.getD i default)).getD k default] := by
 unfold preS
 rw [Qaa _ hk, List.append_assoc]
theorem Qke {d : Dev} {zs : List Int} {i k : Nat} (hi : i < zs.length) (hk : k < (secZ d (zs.getD i default)).length) : ∃ q, QaM d zs = preS d zs i k ++ (secZ d (zs.getD i default)).getD k default :: q := by
 refine ⟨(secZ d (zs.getD i default)).drop (k + 1) ++ QaM d (zs.drop (i + 1)), ?_⟩
 have h1 : QaM d zs = QaM d (zs.take i) ++ (secZ d (zs.getD i default) ++ QaM d (zs.drop (i + 1))) := by
  conv => lhs; rw [← List.take_append_drop i zs]
  unfold QaM
  rw [List.flatMap_append, List.drop_eq_getElem_cons hi, List.flatMap_cons, Qas zs i hi]
  rfl
 rw [h1]
 unfold preS
 rw [List.append_assoc]
 congr 1
 conv => lhs; rw [← List.take_append_drop k (secZ d (zs.getD i default))]
 rw [List.append_assoc, List.drop_eq_getElem_cons hk, Qas _ k hk]
 rfl
theorem QoU {d : Dev} {zs : List Int} : preS d zs zs.length 0 = QaM d zs := by
 unfold preS
 rw [List.take_length]
 simp
theorem Qjw {d : Dev} (hd : d.tiny) (zs : List Int) : ∀ i, (QaM d (zs.take i)).length ≤ 100 * i
 | 0 => by simp [QaM]
 | i + 1 => by
  have h1 := Qjw hd zs i
  by_cases hi : i < zs.length
  ·unfold QaM at *
   rw [Qaa zs hi, List.flatMap_append, List.length_append]
   have := hd.s (zs.getD i default).toNat
   simp only [List.flatMap_cons, List.flatMap_nil, List.append_nil]
   omega
  ·rw [List.take_of_length_le (by omega)] at *
   omega
theorem preL {d : Dev} (hd : d.tiny) (zs : List Int) (i k : Nat) : (preS d zs i k).length ≤ 100 * (i + 1) := by
 have h1 := Qjw hd zs i
 have h2 := hd.s (zs.getD i default).toNat
 unfold preS
 rw [List.length_append, List.length_take]
 unfold secZ
 omega
theorem QrN {c : Conf} {slot : Int} (h : Qm c = 0) (h0 : 0 ≤ slot) (h1 : slot ≤ 1) : Qaq c slot = Qap c slot := if_pos ⟨h, h0, h1⟩
theorem Qi1 (c : Conf) (slot : Int) : (Qap c slot).length = (Qi c).toNat := tabL_len _
theorem Qc6 {c : Conf} {slot : Int} {i : Nat} (hi : i < (Qi c).toNat) : (Qap c slot).getD i default = slot * Qi c + i := by
 unfold Qap tabL
 rw [Qas _ _ (by simpa using hi)]
 simp
theorem QuK (l : List ByteArray) (i : Nat) : ((l.map decR).getD i default).payload.size ≤ 1000 := by
 by_cases h : i < l.length
 ·rw [Qas _ i (by simpa using h), List.getElem_map]
  have := Qeg l[i]
  omega
 ·rw [show (l.map decR).getD i default = default by simp [List.getD, h]]
  exact Nat.zero_le _
set_option maxHeartbeats 4000000 in
theorem Qhu (c : Conf) (d : Dev) (hd : d.tiny) (slot : Int) (h0 : 0 ≤ slot) (h1 : slot ≤ 1) : PS 60 [.a c.cells, .a d.cells, .c (.int .i64 slot)] (.t [.inr (Qx c d slot).cells, .inl (.int .i64 (Qu c d slot))]) := by
 refine PSpec.rm ?_
 refine ov0 hΓ Tryz.func60 88 0 [.cell 6 57, .tmp 7] Tryz.ntmps60 Tryz.results60 ?_
 refine CallN.pureA QdE (Qdw c ) (Go0 ?_)
 by_cases hc : Qm c = 0
 ·refine Br.no (by simpa using hc) (Go0 ?_)
  refine Br.no (Bool.eq_false_iff.2 fun q => by simp at q; omega) (Go0 ?_)
  have hsr := Qao (Qat hc).1
  have hsl := QrN hc h0 h1
  have hlen := Qi1 c slot
  refine CallN.pureA Qhz (QhR c slot ) (Go0 ?_)
  rw [hsl]
  have w1 : IntKind.i64.wrap (((Qap c slot).length : Int) - 1) = ((Qap c slot).length : Int) - 1 := Qa _ (by omega) (by omega)
  refine Dr.mk hΓ hMix (by kernel_rfl) (Go0 ?_)
  have hn1 : (IntKind.i64.wrap (((Qap c slot).length : Int) - 1)).toNat = (Qi c).toNat - 1 := by omega
  have hg : (Qap c slot).getD ((Qi c).toNat - 1) default = slot * Qi c + (((Qi c).toNat - 1 : Nat) : Int) := Qc6 (by omega)
  by_cases hz : slot * Qi c + Qi c ≤ d.zones.length
  ·refine Br.no (by rw [hn1, hg]; exact decide_eq_false (by omega)) (Go0 ?_)
   generalize hZ : Qap c slot = zs at *
   have hzr : ∀ i, i < zs.length → 0 ≤ zs.getD i default ∧ zs.getD i default < d.zones.length := fun i hi => by
    subst hZ
    rw [Qc6 (by omega)]
    have : 0 ≤ slot * Qi c := Int.mul_nonneg h0 (by omega)
    omega
   refine Lp.reserve 50 5 (recG []) 10 rfl ?_
   refine Lp.mkK hΓ (ι := Nat) [3, 4, 6, 9] (fun i => [(11, .c (.int .i64 i)), (10, .c (.sl 3 5 (preS d zs i 0).length (preS d zs i 0).length false))]) (fun i => [.vr c.cells, .vr d.cells, .vr (default : Bas).cells, .arr 50 5 (preS d zs i 0).length (recG ((preS d zs i 0).map decR))]) (fun i => i ≤ zs.length ∧ ∀ s ∈ preS d zs i 0, okS s) (fun i => zs.length - i) 0 ⟨Nat.zero_le _, by rw [Qmo]; exact fun s hs => absurd hs List.not_mem_nil⟩ ?_ ?_
   ·exact Mv.k0
   ·rintro i ⟨hi, hi2⟩
    refine Go1 fun _h=>?_
    refine Br.of (fun h2=>Go0 ?_) (fun h2=>Go0 ?_)
    ·have w0 := Qa (↑i + 1) (by omega) (by omega)
     obtain ⟨hz0, hz1⟩ := hzr i (by omega)
     have hzs := hd.s (zs.getD i default).toNat
     have hpl := preL hd zs i
     refine Dr.mk hΓ hMix (by kernel_rfl) (Go0 ?_)
     rw [show (d.zones.getD (zs.getD (i : Int).toNat default).toNat default).sectors = secZ d (zs.getD i default) from rfl]
     refine Lp.mkK hΓ (ι := Nat) [3, 4, 6, 9, 11, 12] (fun k => [(13, .c (.int .i64 k)), (10, .c (.sl 3 5 (preS d zs i k).length (preS d zs i k).length false))]) (fun k => [.vr c.cells, .vr d.cells, .vr (default : Bas).cells, .arr 50 5 (preS d zs i k).length (recG ((preS d zs i k).map decR))]) (fun k => k ≤ (secZ d (zs.getD i default)).length ∧ ∀ s ∈ preS d zs i k, okS s) (fun k => (secZ d (zs.getD i default)).length - k) 0 ⟨Nat.zero_le _, hi2⟩ ?_ ?_
     ·exact Mv.k0
     ·rintro k ⟨hk, hk2⟩
      refine Go1 fun _h=>?_
      refine Br.of (fun h3=>Go0 ?_) (fun h3=>Go0 ?_)
      ·have w2 := Qa (↑k + 1) (by omega) (by omega)
       have hkl : k < (secZ d (zs.getD i default)).length := by omega
       obtain ⟨q, hq⟩ := Qke (d := d) (zs := zs) (i := i) (k := k) (by omega) hkl
       have hst := QlN (d := d) (zs := zs) (i := i) (k := k) hkl
       have hpk := preL hd zs i k
       rw [show (secZ d (zs.getD i default)).getD (k : Int).toNat ByteArray.empty = (secZ d (zs.getD i default)).getD k default from rfl]
       generalize hs : (secZ d (zs.getD i default)).getD k default = s at *
       refine CallN.pureA Qeq (Qej s ) (Go0 ?_)
       by_cases c1 : decE s = 0
       ·refine Br.no (by simpa using c1) (Go0 ?_)
        by_cases c2 : (decR s).kind = 6
        ·refine Br.yes (by simpa using c2) (Go0 ?_)
         have hR : ((preS d zs i k).map decR ++ [decR s]).length = (preS d zs i k).length + 1 := by simp
         have hg2 : ∀ (t : List C) (i' j : Nat), i' < (preS d zs i k).length + 1 → j < 5 → appG (recG ((preS d zs i k).map decR)) (preS d zs i k).length (Qag 5 (C.int .i64 (decR s).kind :: C.int .i64 (decR s).block :: C.int .i64 (decR s).version :: C.int .i64 (decR s).move :: C.str (decR s).payload :: t)) i' j = recG ((preS d zs i k).map decR ++ [decR s]) i' j := fun t i' j hi' hj => Qhr (by simp) (by simpa using hi') hj
         refine CallN.fzK 3 [3, 4, 6] [] [.vr c.cells, .vr d.cells, .vr (default : Bas).cells, .dead, .vr (decR s).cells] [.a c.cells, .c (Qcb ((preS d zs i k).map decR ++ [decR s]))] rfl leN (fun i' hi' j hj => (congrArg C.imm (hg2 _ i' j hi' hj)).trans (Qal _ _)) wb0 wb0 (by (first|refine wb1 ?_|refine wb2 ?_ ?_|refine wb3 ?_ ?_ ?_|refine wb4 ?_ ?_ ?_ ?_) <;> exact WC.fz rfl hR.symm (fun i' hi' j hj => leF.of_eq (hg2 _ i' j hi' hj)) (fun e => by cases e)) leN ?_
         refine CallN.pureA Qno (Qnt c ((preS d zs i k).map decR ++ [decR s]) (by omega) (fun i' => by rw [← List.map_singleton (f := decR) (a := s), ← List.map_append]; exact QuK _ _) ) (Go0 ?_)
         have e : Qu c d slot = Qa4 c ((preS d zs i k).map decR ++ [decR s]) := by unfold Qu; rw [if_pos hc, if_pos hz, hZ, hq, Qes hk2 c1 c2]
         have e2 : Qx c d slot = Qa3 c ((preS d zs i k).map decR ++ [decR s]) := by
          unfold Qx
          rw [e, hZ, hq, Qes hk2 c1 c2]
          by_cases q0 : Qa4 c ((preS d zs i k).map decR ++ [decR s]) = 0
          ·rw [if_pos q0]
          ·rw [if_neg q0]; exact (if_neg q0).symm
         rw [e, e2]
         exact RM.i0
        ·refine Br.no (by simpa using c2) (Go0 ?_)
         refine ⟨k + 1, ⟨by omega, ?_⟩, by omega, ?_⟩
         ·rw [hst]
          intro x hx
          rcases List.mem_append.1 hx with hx | hx
          ·exact hk2 x hx
          ·rw [List.mem_singleton.1 hx]; exact ⟨c1, c2⟩
         ·rw [hst]
          refine Mv.k1 ?_
          exact fun i' hi' j hj => WC.eq ((Qhr (x := decR s) (by simp) (by simpa using hi') hj).trans (by rw [List.map_append]; rfl)) (Qal _ _)
       ·refine Br.yes (by simpa using c1) (Go0 ?_)
        have e : Qu c d slot = 3 := by unfold Qu; rw [if_pos hc, if_pos hz, hZ, hq, QhG hk2 c1]
        rw [show Qx c d slot = default from if_neg (by rw [e]; decide), e]
        exact RM.i0
      ·have : k = (secZ d (zs.getD i default)).length := by omega
       subst this
       refine ⟨i + 1, ⟨by omega, ?_⟩, by omega, ?_⟩
       ·rw [Qgc (by omega)]; exact hk2
       ·rw [Qgc (by omega)]
        exact Mv.k0
    ·have : i = zs.length := by omega
     subst this
     rw [QoU] at hi2
     have e : Qu c d slot = 3 := by unfold Qu; rw [if_pos hc, if_pos hz, hZ, QeF hi2]
     rw [show Qx c d slot = default from if_neg (by rw [e]; decide), e]
     exact RM.i0
  ·refine Br.yes (by rw [hn1, hg]; exact decide_eq_true (by omega)) (Go0 ?_)
   have e : Qu c d slot = 5 := by unfold Qu; rw [if_pos hc, if_neg hz]
   rw [show Qx c d slot = default from if_neg (by rw [e]; decide), e]
   exact RM.i0
 ·refine Br.yes (by simpa using hc) (Go0 ?_)
  have e : Qu c d slot = Qm c := if_neg hc
  rw [show Qx c d slot = default from if_neg (by rw [e]; exact hc), e]
  exact RM.i0
theorem QhS : HB 60 := hB Tryz.func60
theorem newest_cond {e f : Int} {a b : Int} : (bif e == 0 then (bif f != 0 then true else decide (a ≥ b)) else false) = true ↔ (e = 0 ∧ (f ≠ 0 ∨ b ≤ a)) := by
 by_cases h1 : e = 0 <;> by_cases h2 : f = 0 <;> simp [h1, h2]
set_option maxHeartbeats 2000000 in
theorem Qk8 (c : Conf) (d : Dev) (hd : d.tiny) : PS 20 [.a c.cells, .a d.cells] (.t [.inr (Qo c d).1.cells, .inl (.int .i64 (Qo c d).2)]) := by
 refine PSpec.rm ?_
 refine ov0 hΓ Tryz.func20 42 0 [.cell 4 57, .tmp 5] Tryz.ntmps20 Tryz.results20 ?_
 refine CallN.pureA QhS (Qhu c d hd 0 (by decide) (by decide) ) (Go0 ?_)
 refine CallN.pureA QhS (Qhu c d hd 1 (by decide) (by decide) ) (Go0 ?_)
 by_cases h1 : Qu c d 0 = 0 ∧ (Qu c d 1 ≠ 0 ∨ (Qx c d 1).seq ≤ (Qx c d 0).seq)
 ·refine Br.yes (newest_cond.2 h1) (Go0 ?_)
  rw [show Qo c d = (Qx c d 0, 0) from if_pos h1]
  exact RM.i0
 ·refine Br.no (Bool.eq_false_iff.2 fun q => h1 (newest_cond.1 q)) (Go0 ?_)
  by_cases h2 : Qu c d 1 = 0
  ·refine Br.yes (by simpa using h2) (Go0 ?_)
   rw [show Qo c d = (Qx c d 1, 1) from by unfold Qo; rw [if_neg h1, if_pos h2]]
   exact RM.i0
  ·refine Br.no (by simpa using h2) (Go0 ?_)
   rw [show Qo c d = (default, -1) from by unfold Qo; rw [if_neg h1, if_neg h2]]
   exact RM.i0
theorem Qk3 : HB 20 := hB Tryz.func20
theorem Qki (a b : Int) (size : Nat) (h1 : 1 ≤ size) (h7 : size ≤ 7) (ha0 : 0 ≤ a) (ha : a < 2 ^ (8 * size)) (hb0 : 0 ≤ b) (hb : b < 2 ^ (8 * size)) : PS 174 [.c (.int .i64 a), .c (.int .i64 b), .c (.int .i64 size)] (.c (.str (putS a size ++ putS b size))) := by
 have p1 := Qp a size
 have p2 := Qp b size
 refine PSpec.rm ?_
 refine ov0 hΓ Tryz.func174 26 0 [.tmp 6] Tryz.ntmps174 Tryz.results174 ?_
 refine CallN.pureA Qe0 (Qfd a size h1 h7 ha0 ha ) (Go0 ?_)
 refine CallN.pureA Qe0 (Qfd b size h1 h7 hb0 hb ) (Go0 ?_)
 exact RM.i0
theorem QjW : HB 174 := hB Tryz.func174
set_option maxHeartbeats 2000000 in
theorem QoI (b : Bas) (hl : b.ents.length ≤ 1000000) : PS 173 [.a b.cells] (.c (.int .i64 (QG b.seq b.next b.cut b.ents))) := by
 refine PSpec.rm ?_
 refine ov0 hΓ Tryz.func173 113 0 [.tmp 2] Tryz.ntmps173 Tryz.results173 ?_
 by_cases h1 : 1 ≤ b.seq ∧ b.seq < 1099511627776 ∧ 1 ≤ b.next ∧ b.next ≤ 1099511627776 ∧ 1 ≤ b.cut ∧ b.cut ≤ b.next
 ·refine Br.no (Bool.eq_false_iff.2 fun z => by simp at z; omega) (Go1 fun _h=>?_)
  by_cases h2 : 128 < b.ents.length
  ·refine Br.yes (by simpa using (by omega : (128 : Int) < b.ents.length)) (Go0 ?_)
   rw [show QG b.seq b.next b.cut b.ents = 19 by unfold QG; rw [if_pos h1, if_pos h2]]
   exact RM.i0
  ·refine Br.no (by simpa using (by omega : (b.ents.length : Int) ≤ 128)) (Go1 fun _h=>?_)
   have he : QG b.seq b.next b.cut b.ents = QT b.ents b.next b.ents.length := by unfold QG; rw [if_pos h1, if_neg h2]
   rw [he]
   refine Lp.mkK hΓ (ι := Nat) [1, 41, 42] (fun k => [(43, .c (.int .i64 k)), (3, .c (.int .i64 (if k = 0 then -1 else (b.ents.getD (k - 1) default).block)))]) (fun k => [.vr b.cells]) (fun k => k ≤ b.ents.length ∧ QT b.ents b.next k = 0) (fun k => b.ents.length - k) 0 ⟨Nat.zero_le _, rfl⟩ ?_ ?_
   ·exact Mv.k0
   ·rintro k ⟨hk, hk2⟩
    refine Go0 ?_
    refine Br.of (fun h3=>Go0 ?_) (fun h3=>Go0 ?_)
    ·have w0 := Qa (↑k + 1) (by omega) (by omega)
     have e1 : QT b.ents b.next (k + 1) = if Qah (b.ents.getD k default) b.next = 0 then if 0 < k ∧ (b.ents.getD k default).block ≤ (b.ents.getD (k - 1) default).block then 17 else 0 else Qah (b.ents.getD k default) b.next := by
      simp only [QT]; rw [if_pos hk2]
     rw [show b.ents.getD (k : Int).toNat default = b.ents.getD k default from rfl]
     generalize he2 : b.ents.getD k default = x at *
     by_cases q1 : x.kind = 1
     ·refine Br.no (by simpa using q1) (Go0 ?_)
      by_cases q2 : 0 ≤ x.block ∧ x.block < 128 ∧ 1 ≤ x.version ∧ x.version < b.next ∧ 0 ≤ x.move ∧ x.move ≤ 255
      ·refine Br.no (Bool.eq_false_iff.2 fun z => by simp at z; omega) (Go0 ?_)
       by_cases q3 : 0 ≤ x.zone ∧ x.zone < 32 ∧ 0 ≤ x.offset ∧ x.offset < 64
       ·refine Br.no (Bool.eq_false_iff.2 fun z => by simp at z; omega) (Go0 ?_)
        have e2 : Qah x b.next = 0 := by unfold Qah; rw [if_pos q1, if_pos ⟨q2.1, q2.2.1, q2.2.2.1, q2.2.2.2.1, q2.2.2.2.2.1, q2.2.2.2.2.2, q3⟩]
        rw [if_pos e2] at e1
        by_cases q4 : 0 < k ∧ x.block ≤ (b.ents.getD (k - 1) default).block
        ·refine Br.yes (by rw [if_neg (show ¬ k = 0 by omega)]; exact decide_eq_true q4.2) (Go0 ?_)
         rw [if_pos q4] at e1
         rw [QbW (by omega) e1 (by decide)]
         exact RM.i0
        ·refine Br.no (decide_eq_false fun z => ?_) ?_
         ·by_cases k0 : k = 0
          ·rw [if_pos k0] at z; omega
          ·rw [if_neg k0] at z; exact q4 ⟨by omega, z⟩
         ·refine Go0 ?_
          rw [if_neg q4] at e1
          refine ⟨k + 1, ⟨by omega, e1⟩, by omega, ?_⟩
          rw [if_neg (show ¬ k + 1 = 0 by omega), show k + 1 - 1 = k from rfl, he2]
          exact Mv.k0
       ·refine Br.yes (Decidable.byContradiction fun z => q3 (by simp at z; omega)) (Go0 ?_)
        have e2 : Qah x b.next = 1 := by unfold Qah; rw [if_pos q1, if_neg fun z => q3 z.2.2.2.2.2.2]
        rw [e2, if_neg (by decide)] at e1
        rw [QbW (by omega) e1 (by decide)]
        exact RM.i0
      ·refine Br.yes (Decidable.byContradiction fun z => q2 (by simp at z; omega)) (Go0 ?_)
       have e2 : Qah x b.next = 1 := by unfold Qah; rw [if_pos q1, if_neg fun z => q2 ⟨z.1, z.2.1, z.2.2.1, z.2.2.2.1, z.2.2.2.2.1, z.2.2.2.2.2.1⟩]
       rw [e2, if_neg (by decide)] at e1
       rw [QbW (by omega) e1 (by decide)]
       exact RM.i0
     ·refine Br.yes (by simpa using q1) (Go0 ?_)
      have e2 : Qah x b.next = 3 := by unfold Qah; rw [if_neg q1]
      rw [e2, if_neg (by decide)] at e1
      rw [QbW (by omega) e1 (by decide)]
      exact RM.i0
    ·have : k = b.ents.length := by omega
     subst this
     rw [hk2]
     exact RM.i0
 ·refine Br.yes (Decidable.byContradiction fun z => h1 (by simp at z; omega)) (Go0 ?_)
  rw [show QG b.seq b.next b.cut b.ents = 1 by unfold QG; rw [if_neg h1]]
  exact RM.i0
theorem Qot : HB 173 := hB Tryz.func173
theorem QrC {x : Int} (h0 : 0 ≤ x) (h1 : x < 4294967296) : notU (notU x) = x := by
 obtain ⟨a, rfl⟩ : ∃ a : Nat, x = a := ⟨x.toNat, by omega⟩
 have ha : a < 4294967296 := by omega
 unfold notU
 have e := QeG (a := 4294967295) (b := a) (by decide) ha
 rw [show ((4294967295 : Nat) : Int) = 4294967295 from rfl] at e
 rw [e]
 have e2 := QeG (a := 4294967295) (b := 4294967295 ^^^ a) (by decide) (Qga (by decide) ha)
 rw [show ((4294967295 : Nat) : Int) = 4294967295 from rfl] at e2
 rw [e2, ← Nat.xor_assoc, Nat.xor_self, Nat.zero_xor]
theorem Qn5 {a b : ByteArray} {k : Nat} (h : k < a.size) : QaC (a ++ b) k = QaC a k := by
 unfold QaC
 rw [ByteArray.data_append, Array.toList_append]
 have : k < a.data.toList.length := h
 simp [List.getD, List.getElem?_append_left this]
theorem Qnw {a b : ByteArray} {k : Nat} : QaC (a ++ b) (a.size + k) = QaC b k := by
 unfold QaC
 rw [ByteArray.data_append, Array.toList_append]
 have e : a.size = a.data.toList.length := rfl
 rw [e]
 simp [List.getD, List.getElem?_append_right]
theorem QmO {s : Int} {a b : ByteArray} : ∀ k, k ≤ a.size → Q1 s (a ++ b) k = Q1 s a k
 | 0, _ => rfl
 | k + 1, h => by
  show Qa9 QaX 8 (xorU (Q1 s (a ++ b) k) (QaC (a ++ b) k)) = Qa9 QaX 8 (xorU (Q1 s a k) (QaC a k))
  rw [QmO k (by omega), Qn5 (by omega)]
theorem QkV {s : Int} {a b : ByteArray} : ∀ k, Q1 s (a ++ b) (a.size + k) = Q1 (addU s a) b k
 | 0 => by
  show Q1 s (a ++ b) a.size = notU (notU (Q1 s a a.size))
  have := QhL s a a.size
  rw [QrC this.1 this.2, QmO _ (Nat.le_refl _)]
 | k + 1 => by
  show Qa9 QaX 8 (xorU (Q1 s (a ++ b) (a.size + k)) (QaC (a ++ b) (a.size + k))) = Qa9 QaX 8 (xorU (Q1 (addU s a) b k) (QaC b k))
  rw [QkV k, Qnw]
theorem QnS {s : Int} {a b : ByteArray} : addU s (a ++ b) = addU (addU s a) b := by
 show notU (Q1 s (a ++ b) (a ++ b).size) = notU (Q1 (addU s a) b b.size)
 rw [ByteArray.size_append, QkV]
theorem QlE {l : List Rec} {k : Nat} (h : QA (l.getD k default) = 0) : addU 0 (QQ l (k + 1)) = addU (addU 0 (QQ l k)) ((encR (l.getD k default)).extract 0 36) := by
 rw [show QQ l (k + 1) = QQ l k ++ (encR (l.getD k default)).extract 0 36 from if_pos h]
 exact QnS
set_option maxHeartbeats 2000000 in
theorem Qrf (l : List Rec) (hl : l.length ≤ 1000) : PS 175 [.c (Qcb l)] (.c (.str (Qdi l))) := by
 refine PSpec.rm ?_
 refine ov0 hΓ Tryz.func175 37 0 [.tmp 2] Tryz.ntmps175 Tryz.results175 ?_
 refine CallN.pureA Qgy (Qhc ByteArray.empty (by decide) ) (Go1 fun _h=>?_)
 refine Lp.mkK hΓ (ι := Nat) [11, 12] (fun k => [(13, .c (.int .i64 k)), (3, .c (.int .u32 (addU 0 (QQ l k))))]) (fun k => []) (fun k => k ≤ l.length) (fun k => l.length - k) 0 (Nat.zero_le _) ?_ ?_
 ·exact Mv.k0
 ·intro k hk
  refine Go0 ?_
  refine Br.of (fun h1=>Go0 ?_) (fun h1=>Go0 ?_)
  ·have w0 := Qa (↑k + 1) (by omega) (by omega)
   refine CallN.pureA Qhe (Qg2 (l.getD k default) ) (Go1 fun _h=>?_)
   by_cases h2 : QA (l.getD k default) = 0
   ·have hz := Qg7 h2
    refine Br.yes (by rw [hz]; rfl) (Go0 ?_)
    refine CallN.pureA QkS (Qkh (addU 0 (QQ l k)) ((encR (l.getD k default)).extract 0 36) (by rw [ByteArray.size_extract]; omega) ) (Go0 ?_)
    refine ⟨k + 1, by omega, by omega, ?_⟩
    rw [QlE h2]
    exact Mv.k0
   ·have hz : encR (l.getD k default) = ByteArray.empty := if_neg h2
    refine Br.no (by rw [hz]; rfl) (Go0 ?_)
    refine ⟨k + 1, by omega, by omega, ?_⟩
    rw [show QQ l (k + 1) = QQ l k from if_neg h2]
    exact Mv.k0
  ·have : k = l.length := by omega
   subst this
   have hu := Qhm 0 (QQ l l.length)
   have w0 : sumW (QQ l l.length) = addU 0 (QQ l l.length) := Qa _ (by omega) (by omega)
   refine CallN.pureA Qe0 (Qfd (sumW (QQ l l.length)) 4 (by decide) (by decide) (by rw [w0]; omega) (by rw [w0]; omega) ) (Go0 ?_)
   exact RM.i0
theorem QqI : HB 175 := hB Tryz.func175
theorem QoC (l : List Rec) (n : Nat) (hn : n = l.length) (hl : n ≤ 1000) : CS 175 [.c (.sl 0 5 n n false)] [.arr 50 5 n (recG l)] fun s H => s = .c (.str (Qdi l)) ∧ H = [.arr 50 5 n (recG l)] := by
 subst hn
 exact CSpec.reads (Qrf l hl) (BwA.cons (BwS.c (Bw.sl rfl rfl (fun i _ j _ => Bw.same (Qal _ _)) (fun e => by cases e))) BwA.nil) rfl ⟨rfl, rfl⟩
theorem QoL : HB 175 := QqI
theorem QvB {l : List Rec} {x : Rec} {n : Nat} {g : Nat → Nat → C} (hn : n = l.length) (hg : ∀ j, j < 5 → g 0 j = QaF x j) {i j : Nat} (hi : i < n + 1) (hj : j < 5) : appG (recG l) n g i j = recG (l ++ [x]) i j := by
 subst hn
 simp only [appG, recG, rowG, List.getD]
 split
 ·rw [List.getElem?_append_left (by assumption)]
 ·have : i = l.length := by omega
  subst this
  simp [hg j hj]
theorem Qg9 (l : List Rec) (x : Rec) (n : Nat) (hn : n = l.length) (hl : n ≤ 1000000) (g : Nat → Nat → C) (b : Bool) (hg : ∀ j, j < 5 → g 0 j = QaF x j) : CS 154 [.c (.sl 0 5 n n false), .c (.isl 5 1 g b)] [.arr 50 5 n (recG l)] fun s H => s = .c (.sl 0 5 (n + 1) (n + 1) false) ∧ H = [.arr 50 5 (n + 1) (recG (l ++ [x]))] := by
 refine CSpec.rm ?_
 refine ov0 hΓ Tryz.func154 8 1 [.tmp 4] Tryz.ntmps154 Tryz.results154 ?_
 refine ⟨_, _, ?_, rfl, rfl⟩
 refine RM.w1 ?_
 exact fun i hi j hj => WC.eq (QvB hn hg hi hj) (Qal _ _)
theorem QgD : HB 154 := hB Tryz.func154
theorem Qta (x : Rec) (g : Nat → Nat → C) (b : Bool) (hg : ∀ j, j < 5 → g 0 j = QaF x j) : CS 154 [.c .nils, .c (.isl 5 1 g b)] [] fun s H => s = .c (.sl 0 5 1 1 false) ∧ H = [.arr 50 5 1 (recG [x])] := by
 refine CSpec.rm ?_
 refine ov0 hΓ Tryz.func154 8 0 [.tmp 4] Tryz.ntmps154 Tryz.results154 ?_
 refine ⟨_, _, ?_, rfl, rfl⟩
 refine RM.w1 ?_
 intro i hi j hj
 have : i = 0 := by omega
 subst this
 exact WC.eq (hg j hj) (Qal _ _)
theorem QsE : HB 154 := hB Tryz.func154
set_option maxHeartbeats 4000000 in
theorem Qnu (b : Bas) (hl : b.ents.length ≤ 1000000) : PS 155 [.a b.cells] (.t [.inl (Qcb (Qa0 b.seq b.next b.cut b.ents)), .inl (.int .i64 (QG b.seq b.next b.cut b.ents))]) := by
 refine PSpec.rm ?_
 refine ov0 hΓ Tryz.func155 62 0 [.tmp 2, .tmp 3] Tryz.ntmps155 Tryz.results155 ?_
 refine CallN.pureA Qot (QoI b hl ) (Go0 ?_)
 by_cases h0 : QG b.seq b.next b.cut b.ents = 0
 ·refine Br.no (by simpa using h0) (Go1 fun _h=>?_)
  obtain ⟨h1, h2, h3⟩ := QcX h0
  have p1 := Qp b.next 6
  have p2 := Qp b.cut 6
  refine Dr.mkE hΓ hMix [4294967296, 154] [] (by kernel_rfl) (Go0 ?_)
  refine CallP.auto QjW (Qki b.next b.cut 6 (by decide) (by decide) (by omega) (by omega) (by omega) (by omega) ) (Go0 ?_)
  have hg0 : ∀ (t : List C) (j : Nat), j < 5 → Qag 5 (C.int .i64 4 :: C.int .i64 b.ents.length :: C.int .i64 b.seq :: C.int .i64 0 :: C.str (putS b.next 6 ++ putS b.cut 6) :: t) 0 j = QaF (Qbv b.seq b.next b.cut b.ents) j := fun t j hj => by
   match j, hj with
   | 0, _ => rfl
   | 1, _ => rfl
   | 2, _ => rfl
   | 3, _ => rfl
   | 4, _ => rfl
  refine CallE.autoI [] QsE (Qta (Qbv b.seq b.next b.cut b.ents) _ _ (hg0 _)) plh (Go1 fun _h=>?_)
  refine Lp.mkK hΓ (ι := Nat) [1, 5, 29, 30] (fun k => [(6, .c (.sl 1 5 (k + 1) (k + 1) false)), (31, .c (.int .i64 k))]) (fun k => [.vr b.cells, .arr 50 5 (k + 1) (recG (Qbv b.seq b.next b.cut b.ents :: (b.ents.take k).map QbK))]) (fun k => k ≤ b.ents.length) (fun k => b.ents.length - k) 0 (Nat.zero_le _) ?_ ?_
  ·exact Mv.k0
  ·intro k hk
   have hlk : (Qbv b.seq b.next b.cut b.ents :: (b.ents.take k).map QbK).length = k + 1 := by simp; omega
   refine Go0 ?_
   refine Br.of (fun h4=>Go0 ?_) (fun h4=>Go0 ?_)
   ·have he := Qg8 (QdY h3 k (by omega))
    have w0 := Qa (↑k + 1) (by omega) (by omega)
    have p3 := Qp (b.ents.getD k default).zone 2
    have p4 := Qp (b.ents.getD k default).offset 2
    refine Dr.mkE hΓ hMix [4294967296, 154] [] (by kernel_rfl) (Go0 ?_)
    rw [show b.ents.getD (k : Int).toNat default = b.ents.getD k default from rfl]
    refine CallP.auto QjW (Qki (b.ents.getD k default).zone (b.ents.getD k default).offset 2 (by decide) (by decide) (by omega) (by omega) (by omega) (by omega) ) (Go0 ?_)
    refine CallE.autoI [1] QgD (Qg9 (Qbv b.seq b.next b.cut b.ents :: (b.ents.take k).map QbK) (QbK (b.ents.getD k default)) (k + 1) hlk.symm (by omega) _ _ (fun j hj => match j, hj with | 0, _ => rfl | 1, _ => rfl | 2, _ => rfl | 3, _ => rfl | 4, _ => rfl)) plh (Go0 ?_)
    refine ⟨k + 1, by omega, by omega, ?_⟩
    rw [Qaa b.ents (by omega), List.map_append]
    exact Mv.k0
   ·have : k = b.ents.length := by omega
    subst this
    rw [List.take_length] at *
    refine Dr.mkE hΓ hMix [4294967296, 175, 154] [(0, 5), (1, 5), (2, 5), (3, 5)] (by kernel_rfl) (Go0 ?_)
    refine CallE.autoI [1] QoL (QoC (Qbv b.seq b.next b.cut b.ents :: List.map QbK b.ents) (b.ents.length + 1) hlk.symm (by omega)) plh (Go0 ?_)
    refine CallE.autoI [1] QgD (Qg9 (Qbv b.seq b.next b.cut b.ents :: List.map QbK b.ents) ⟨6, b.ents.length, b.seq, 0, Qdi (QbM b.seq b.next b.cut b.ents)⟩ (b.ents.length + 1) hlk.symm (by omega) _ _ (fun j hj => match j, hj with | 0, _ => rfl | 1, _ => rfl | 2, _ => rfl | 3, _ => rfl | 4, _ => rfl)) plh (Go0 ?_)
    rw [h0, show Qa0 b.seq b.next b.cut b.ents = QbM b.seq b.next b.cut b.ents ++ [⟨6, b.ents.length, b.seq, 0, Qdi (QbM b.seq b.next b.cut b.ents)⟩] from if_pos h0]
    exact RM.allT (FwT.consC (Fw.slP rfl rfl (by simp [QbM]) (fun _ _ _ _ => rfl) (fun i j => Qal _ _)) (FwT.consC (Fw.same rfl) FwT.nil))
 ·refine Br.yes (by simpa using h0) (Go0 ?_)
  rw [show Qa0 b.seq b.next b.cut b.ents = [] from if_neg h0]
  exact RM.i0
theorem Ql0 : HB 155 := hB Tryz.func155
theorem QtG {seq next cut : Int} {l : List Ent} (h : QG seq next cut l = 0) : Qa0 seq next cut l = Qbv seq next cut l :: (l.map QbK ++ [⟨6, l.length, seq, 0, Qdi (QbM seq next cut l)⟩]) := by
 unfold Qa0
 rw [if_pos h]
 rfl
theorem Qhy {seq next cut : Int} {l : List Ent} (h : QG seq next cut l = 0) : (Qa0 seq next cut l).length = l.length + 2 ∧ ((Qa0 seq next cut l).getD 0 default).payload.size = 12 ∧ ∀ k, k < l.length → ((Qa0 seq next cut l).getD (k + 1) default).payload.size = 4 := by
 rw [QtG h]
 refine ⟨by simp, ?_, fun k hk => ?_⟩
 ·show (putS next 6 ++ putS cut 6).size = 12
  rw [ByteArray.size_append, Qp, Qp]
 ·have : (Qbv seq next cut l :: (l.map QbK ++ [⟨6, l.length, seq, 0, Qdi (QbM seq next cut l)⟩])).getD (k + 1) default = QbK l[k] := by
   simp [List.getD, hk, List.getElem?_append_left]
  rw [this]
  show (putS _ 2 ++ putS _ 2).size = 4
  rw [ByteArray.size_append, Qp, Qp]
theorem Qpk {l : List Rec} (h : 2 ≤ l.length) : (Qz l).ents.length = l.length - 2 := by
 show ((midL l).map entD).length = _
 unfold midL
 rw [List.length_map, List.length_take, List.length_drop]
 omega
theorem Qe5 {l : List Rec} (h : QaJ l = 0) : 2 ≤ l.length ∧ l.length ≤ 130 ∧ (l.getD 0 default).payload.size = 12 ∧ ∀ k, k + 2 < l.length → (l.getD (k + 1) default).payload.size = 4 := by
 unfold QaJ at h
 split at h
 ·rename_i hh
  obtain ⟨h1, h2, h3⟩ := hh
  obtain ⟨s1, s2, s3⟩ := Qhy h2
  obtain ⟨_, b2, _⟩ := QcX h2
  rw [Qpk h1] at *
  rw [← h3] at s2 s3
  exact ⟨h1, by omega, s2, fun k hk => s3 k (by omega)⟩
 ·cases h
set_option maxHeartbeats 4000000 in
theorem QlW (l : List Rec) (hl : l.length ≤ 100000) (hp : ∀ i, (l.getD i default).payload.size ≤ 1000) : PS 119 [.c (Qcb l)] (.t [.inr (Qak l).cells, .inl (.int .i64 (QaJ l))]) := by
 have hsh : QaJ l ≠ 0 → QaJ l = 3 ∧ Qak l = default := fun h => by
  have e : QaJ l = 3 := by
   unfold QaJ at *
   split
   ·rename_i q; rw [if_pos q] at h; exact absurd rfl h
   ·rfl
  exact ⟨e, if_neg h⟩
 refine PSpec.rm ?_
 refine ov hΓ Tryz.func119 121 0 [.cell 2 57, .tmp 3] Tryz.ntmps119 Tryz.results119 ?_
 refine Go1 fun _h=>?_
 rw [show (l.getD (Int.toNat 0) default) = l.getD 0 default from rfl]
 have h0 := hp 0
 have w9 : IntKind.i64.wrap ((l.length : Int) - 1) = (l.length : Int) - 1 := Qa _ (by omega) (by omega)
 by_cases c1 : 2 ≤ l.length ∧ l.length ≤ 130 ∧ (l.getD 0 default).payload.size = 12
 ·refine Br.no (Bool.eq_false_iff.2 fun q => by simp [-List.getD_eq_getElem?_getD] at q; omega) ?_
  refine Go0 ?_
  obtain ⟨h, hl2, hp0⟩ := c1
  refine CallN.pureA Qcq (Qcn (l.getD 0 default).payload 0 6 (by decide) (by decide) (by decide) (by omega) ) (Go0 ?_)
  refine CallN.pureA Qcq (Qcn (l.getD 0 default).payload 6 6 (by decide) (by decide) (by decide) (by omega) ) (Go1 fun _h=>?_)
  have hml : (QbQ l (l.length - 2)).length = l.length - 2 := Qea (by omega)
  have hraw : (Qz l).ents = QbQ l (l.length - 2) := rfl
  have hrl := Qpk h
  rw [show (IntKind.i64.wrap ((l.length : Int) - 1)).toNat - Int.toNat 1 = l.length - 2 by rw [w9]; omega]
  refine Lp.mkK hΓ (ι := Nat) [0, 2, 4, 5, 56, 57] (fun k => [(58, .c (.int .i64 k))]) (fun k => [.vr (default : Bas).cells, .vr [.int .i64 (l.getD 0 default).version, .int .i64 (getS (l.getD 0 default).payload 0 6), .int .i64 (getS (l.getD 0 default).payload 6 6), .sl 2 6 k k false], .arr 67 6 k (entG (QbQ l k))]) (fun k => k + 2 ≤ l.length) (fun k => l.length - k) 0 (by omega) ?_ ?_
  ·refine (Mv.reserveO 1 3 67 6 (entG []) rfl rfl rfl rfl).trans ?_
   exact Mv.k0
  ·intro k hk
   have w0 := Qa ((k : Int) + 1) (by omega) (by omega)
   refine Go0 ?_
   refine Br.of (fun h1=>Go1 fun _h=>?_) (fun h1=>Go0 ?_)
   ·have hk2 : k + 2 < l.length := by omega
    have hpk := hp (k + 1)
    rw [show l.getD (Int.toNat 1 + (k : Int).toNat) default = l.getD (k + 1) default by rw [Int.toNat_natCast, Nat.add_comm]; rfl]
    by_cases c2 : (l.getD (k + 1) default).payload.size = 4
    ·refine Br.no (by rw [c2]; rfl) (Go0 ?_)
     refine CallN.pureA Qcq (Qcn (l.getD (k + 1) default).payload 0 2 (by decide) (by decide) (by decide) (by omega) ) (Go0 ?_)
     refine CallN.pureA Qcq (Qcn (l.getD (k + 1) default).payload 2 2 (by decide) (by decide) (by decide) (by omega) ) (Go0 ?_)
     refine ⟨k + 1, by omega, by omega, ?_⟩
     rw [Qna (by omega)]
     refine Mv.k1 ?_
     exact fun i hi j hj => WC.eq (Qia (x := entD (l.getD (k + 1) default)) (Qea (by omega)).symm (by rw [Qea (by omega)]; exact hi) hj) (QH _ _)
    ·refine Br.yes (by simp [-List.getD_eq_getElem?_getD]; omega) ?_
     refine Go0 ?_
     obtain ⟨e1, e2⟩ := hsh fun e => c2 ((Qe5 e).2.2.2 k hk2)
     rw [e1, e2]
     exact RM.i0
   ·have hk2 : k = l.length - 2 := by omega
    subst hk2
    refine CallN.fzK 2 [0, 2, 3, 4, 5] [] [.vr (default : Bas).cells, .vr [.int .i64 (l.getD 0 default).version, .int .i64 (getS (l.getD 0 default).payload 0 6), .int .i64 (getS (l.getD 0 default).payload 6 6), QS (QbQ l (l.length - 2))], .dead] [.a [.int .i64 (l.getD 0 default).version, .int .i64 (getS (l.getD 0 default).payload 0 6), .int .i64 (getS (l.getD 0 default).payload 6 6), QS (QbQ l (l.length - 2))]] rfl leN (fun i _ j _ => QH _ _) wb0 wb0 wb0 leN ?_
    have hen := Qkv (Qz l).seq (Qz l).next (Qz l).cut (Qz l).ents
    refine CallN.pureA Ql0 (Qnu (Qz l) (by omega) ) (Go0 ?_)
    by_cases c2 : QG (Qz l).seq (Qz l).next (Qz l).cut (Qz l).ents = 0
    ·refine Br.no (by simpa using c2) (Go1 fun _h=>?_)
     have hsl := (Qhy c2).1
     generalize hA : Qa0 (Qz l).seq (Qz l).next (Qz l).cut (Qz l).ents = A at *
     have hlA : l.length = A.length := by omega
     refine Lp.mkK hΓ (ι := Nat) [0, 2, 5, 105, 106] (fun k => [(107, .c (.int .i64 k))]) (fun k => [.vr (default : Bas).cells, .vr [.int .i64 (l.getD 0 default).version, .int .i64 (getS (l.getD 0 default).payload 0 6), .int .i64 (getS (l.getD 0 default).payload 6 6), QS (QbQ l (l.length - 2))], .dead]) (fun k => k ≤ A.length ∧ ∀ j, j < k → l.getD j default = A.getD j default) (fun k => A.length - k) 0 ⟨Nat.zero_le _, fun i hi => absurd hi (Nat.not_lt_zero _)⟩ ?_ ?_
     ·exact Mv.k0
     ·rintro k ⟨hk3, hk4⟩
      refine Go0 ?_
      refine Br.of (fun h5=>Go0 ?_) (fun h5=>Go0 ?_)
      ·have w1 := Qa ((k : Int) + 1) (by omega) (by omega)
       refine Dr.mk hΓ hMix (by kernel_rfl) (Go0 ?_)
       by_cases c3 : l.getD k default = A.getD k default
       ·refine Br.no (rec_cond.trans (by show (!decide (A.getD k default = l.getD k default)) = false; rw [decide_eq_true c3.symm]; rfl)) (Go0 ?_)
        refine ⟨k + 1, ⟨by omega, fun j hj => ?_⟩, by omega, ?_⟩
        ·rcases Nat.lt_succ_iff_lt_or_eq.1 hj with q | rfl
         ·exact hk4 j q
         ·exact c3
        ·exact Mv.k0
       ·refine Br.yes (rec_cond.trans (by show (!decide (A.getD k default = l.getD k default)) = true; rw [decide_eq_false (fun e => c3 e.symm)]; rfl)) (Go0 ?_)
        obtain ⟨e1, e2⟩ := hsh fun e => c3 (by
         unfold QaJ at e
         split at e
         ·rename_i q
          rw [hA] at q
          rw [← q.2.2]
         ·cases e)
        rw [e1, e2]
        exact RM.i0
      ·have : k = A.length := by omega
       subst this
       have e : QaJ l = 0 := if_pos ⟨h, c2, by rw [hA]; exact Qcy hlA (by rw [hlA]; exact hk4)⟩
       rw [show Qak l = Qz l from if_pos e, e]
       exact RM.i0
    ·refine Br.yes (by simpa using c2) (Go0 ?_)
     obtain ⟨e1, e2⟩ := hsh fun e => c2 (by
      unfold QaJ at e
      split at e
      ·rename_i q; exact q.2.1
      ·cases e)
     rw [e1, e2]
     exact RM.i0
 ·refine Br.yes (Decidable.byContradiction fun q => c1 (by simp [-List.getD_eq_getElem?_getD] at q; omega)) ?_
  refine Go0 ?_
  obtain ⟨e1, e2⟩ := hsh fun e => c1 ⟨(Qe5 e).1, (Qe5 e).2.1, (Qe5 e).2.2.1⟩
  rw [e1, e2]
  exact RM.i0
theorem Qnq : HB 119 := hB Tryz.func119
set_option maxHeartbeats 2000000 in
theorem QoA (c : Conf) (slot : Int) (h0 : 0 ≤ slot) (h1 : slot ≤ 1) (hc : Qm c = 0) : PS 117 [.a c.cells, .c (.int .i64 slot)] (.c (QbS (Qap c slot))) := by
 have hr := (Qat hc).1
 have hs := Qao hr
 refine PSpec.rm ?_
 refine ov0 hΓ Tryz.func117 40 0 [.tmp 4] Tryz.ntmps117 Tryz.results117 ?_
 refine CallN.pureA Qja (Qi2 c hc ) (Go0 ?_)
 have hsl : slot = 0 ∨ slot = 1 := by omega
 refine Br.no (by rcases hsl with rfl | rfl <;> rfl) ?_
 refine Go0 ?_
 refine Lp.reserve 3 1 (QcF .i64 []) 7 rfl ?_
 refine Lp.mkK hΓ (ι := Nat) [1, 5, 25] (fun k => [(26, .c (.int .i64 k)), (7, .c (.sl 2 1 k k false))]) (fun k => [.vr c.cells, .vr (Lay.cells c), .arr 3 1 k (QcF .i64 (tabL (fun k => slot * Qi c + (k : Nat)) k))]) (fun k => k ≤ (Qi c).toNat) (fun k => (Qi c).toNat - k) 0 (Nat.zero_le _) ?_ ?_
 ·exact Mv.k0
 ·intro k hk
  refine Go0 ?_
  refine Br.of (fun h2=>?_) (fun h2=>?_)<;>(try simp only [Int.toNat_natCast] at h2)<;>refine Go0 ?_
  ·have w0 := Qa (↑k + 1) (by omega) (by omega)
   refine ⟨k + 1, by omega, by omega, ?_⟩
   refine Mv.k1 ?_
   intro i hi j hj
   have e1 : IntKind.i64.wrap (IntKind.i64.wrap (slot * Qi c) + (k : Int)) = slot * Qi c + (k : Nat) := by
    rcases hsl with rfl | rfl
    ·rw [Qa (0 * Qi c) (by omega) (by omega), Qa _ (by omega) (by omega)]
    ·rw [Qa (1 * Qi c) (by omega) (by omega), Qa _ (by omega) (by omega)]
   rw [e1, Qj0]
   exact WC.eq (QlY (by simp) (by first | omega | (simp; omega)) hj) rfl
  ·have : k = (Qi c).toNat := by omega
   subst this
   exact RM.allC (Fw.ints rfl rfl (tabL_len _).symm (fun _ _ _ _ => rfl))
theorem QnV : HB 117 := hB Tryz.func117
theorem Ql1 {p : List ByteArray} : Qad p = none ∨ ∃ l, Qad p = some l ∧ l.length ≤ p.length := by
 induction p with
 | nil => exact Or.inl rfl
 | cons s t ih =>
  unfold Qad
  split
  ·split
   ·exact Or.inr ⟨_, rfl, by simp⟩
   ·rcases ih with ih | ⟨l, h1, h2⟩
    ·rw [ih]; exact Or.inl rfl
    ·rw [h1]; exact Or.inr ⟨_, rfl, by simp; omega⟩
  ·exact Or.inl rfl
def Qbk (d : Dev) (zs : List Int) : List Rec := (Qad (QaM d zs)).getD []
set_option maxHeartbeats 4000000 in
theorem Qm4 (d : Dev) (hd : d.tiny) (zs : List Int) (hz : zs.length ≤ 200) (hzr : ∀ i, i < zs.length → 0 ≤ zs.getD i default ∧ zs.getD i default < d.zones.length) : PS 118 [.a d.cells, .c (QbS zs)] (.t [.inl (Qcb (Qbk d zs)), .inl (.bool (Qad (QaM d zs)).isSome)]) := by
 refine PSpec.rm ?_
 refine ov hΓ Tryz.func118 46 0 [.tmp 4, .tmp 5] Tryz.ntmps118 Tryz.results118 ?_
 refine Go1 fun _h=>?_
 refine Lp.reserve 50 5 (recG []) 4 rfl ?_
 refine Lp.mkK hΓ (ι := Nat) [2, 5, 12, 13] (fun i => [(14, .c (.int .i64 i)), (4, .c (.sl 1 5 (preS d zs i 0).length (preS d zs i 0).length false))]) (fun i => [.vr d.cells, .arr 50 5 (preS d zs i 0).length (recG ((preS d zs i 0).map decR))]) (fun i => i ≤ zs.length ∧ ∀ s ∈ preS d zs i 0, okS s) (fun i => zs.length - i) 0 ⟨Nat.zero_le _, by rw [Qmo]; exact fun s hs => absurd hs List.not_mem_nil⟩ ?_ ?_
 ·exact Mv.k0
 ·rintro i ⟨hi, hi2⟩
  refine Go0 ?_
  refine Br.of (fun h2=>?_) (fun h2=>?_)<;>(try simp only [Int.toNat_natCast] at h2)<;>(conv=>whnf)
  ·refine Go1 fun _h=>?_
   have w0 := Qa (↑i + 1) (by omega) (by omega)
   obtain ⟨hz0, hz1⟩ := hzr i (by omega)
   have hzs : (secZ d (zs.getD i default)).length ≤ 100 := hd.s _
   have hpl := preL hd zs i
   have hdz := hd.z
   refine Go0 ?_
   rw [show (d.zones.getD (zs.getD (i : Int).toNat default).toNat default).sectors = secZ d (zs.getD i default) from rfl]
   refine Lp.mkK hΓ (ι := Nat) [2, 5, 12, 13, 14, 23, 24] (fun k => [(25, .c (.int .i64 k)), (4, .c (.sl 1 5 (preS d zs i k).length (preS d zs i k).length false))]) (fun k => [.vr d.cells, .arr 50 5 (preS d zs i k).length (recG ((preS d zs i k).map decR))]) (fun k => k ≤ (secZ d (zs.getD i default)).length ∧ ∀ s ∈ preS d zs i k, okS s) (fun k => (secZ d (zs.getD i default)).length - k) 0 ⟨Nat.zero_le _, hi2⟩ ?_ ?_
   ·exact Mv.k0
   ·rintro k ⟨hk, hk2⟩
    refine Go0 ?_
    refine Br.of (fun h3=>?_) (fun h3=>?_)<;>(try simp only [Int.toNat_natCast] at h3)<;>refine Go0 ?_
    ·have w2 := Qa (↑k + 1) (by omega) (by omega)
     have hkl : k < (secZ d (zs.getD i default)).length := by omega
     obtain ⟨q, hq⟩ := Qke (d := d) (zs := zs) (i := i) (k := k) (by omega) hkl
     have hst := QlN (d := d) (zs := zs) (i := i) (k := k) hkl
     have hpk := preL hd zs i k
     rw [show (secZ d (zs.getD i default)).getD (k : Int).toNat ByteArray.empty = (secZ d (zs.getD i default)).getD k default from rfl]
     generalize hs : (secZ d (zs.getD i default)).getD k default = s at *
     refine CallN.pureA QgF (Qg5 s ) (Go0 ?_)
     by_cases c1 : decE s = 0
     ·refine Br.no (by simpa using c1) (Go0 ?_)
      have hg1 : ∀ (t : List C) (i' j : Nat), i' < 1 → j < 5 → Qag 5 (C.int .i64 (decR s).kind :: C.int .i64 (decR s).block :: C.int .i64 (decR s).version :: C.int .i64 (decR s).move :: C.str (decR s).payload :: t) i' j = recG [decR s] i' j := fun t i' j hi' hj => by
       have : i' = 0 := by omega
       subst this
       match j, hj with
       | 0, _ => rfl
       | 1, _ => rfl
       | 2, _ => rfl
       | 3, _ => rfl
       | 4, _ => rfl
      refine CallN.fzK 3 [2, 5, 10, 12, 13, 14, 23, 24, 25] [] [.vr d.cells, .arr 50 5 (preS d zs i k).length (recG ((preS d zs i k).map decR)), .vr (decR s).cells, .dead] [.c (.sl 1 5 (preS d zs i k).length (preS d zs i k).length false), .c (.isl 5 1 (recG [decR s]) false)] rfl leN (fun i' hi' j hj => (congrArg C.imm (hg1 _ i' j hi' hj)).trans (Qal _ _)) (by (first|refine wb1 ?_|refine wb2 ?_ ?_|refine wb3 ?_ ?_ ?_|refine wb4 ?_ ?_ ?_ ?_) <;> exact fun i _ j _ => WC.fzI (Qal _ _)) wb0 (by (first|refine wb1 ?_|refine wb2 ?_ ?_|refine wb3 ?_ ?_ ?_|refine wb4 ?_ ?_ ?_ ?_) <;> exact WC.fz rfl rfl (fun i' hi' j hj => leF.of_eq (hg1 _ i' j hi' hj)) (fun e => by cases e)) leN ?_
      refine CallN.autoI [1] QgD (Qg9 ((preS d zs i k).map decR) (decR s) (preS d zs i k).length (by simp) (by omega) (recG [decR s]) false (fun j hj => rfl)) plh (Go0 ?_)
      by_cases c2 : (decR s).kind = 6
      ·refine Br.yes (by simpa using c2) (Go0 ?_)
       have e := Qes (q := q) hk2 c1 c2
       rw [show Qbk d zs = (preS d zs i k).map decR ++ [decR s] by unfold Qbk; rw [hq, e]; rfl, hq, e]
       exact RM.allT (FwT.consC (Fw.slP rfl rfl (by simp) (fun _ _ _ _ => rfl) (fun i j => Qal _ _)) (FwT.consC (Fw.same rfl) FwT.nil))
      ·refine Br.no (by simpa using c2) (Go0 ?_)
       refine ⟨k + 1, ⟨by omega, ?_⟩, by omega, ?_⟩
       ·rw [hst]
        intro x hx
        rcases List.mem_append.1 hx with hx | hx
        ·exact hk2 x hx
        ·rw [List.mem_singleton.1 hx]; exact ⟨c1, c2⟩
       ·have hle : (preS d zs i k ++ [s]).length = (preS d zs i k).length + 1 := by simp
        rw [hst, List.map_append, show [s].map decR = [decR s] from rfl]
        exact Mv.k0
     ·refine Br.yes (by simpa using c1) (Go0 ?_)
      have e := QhG (q := q) hk2 c1
      rw [show Qbk d zs = [] by unfold Qbk; rw [hq, e]; rfl, hq, e]
      exact RM.i0
    ·have : k = (secZ d (zs.getD i default)).length := by omega
     subst this
     refine ⟨i + 1, ⟨by omega, ?_⟩, by omega, ?_⟩
     ·rw [Qgc (by omega)]; exact hk2
     ·rw [Qgc (by omega)]
      exact Mv.k0
  ·refine Go0 ?_
   have : i = zs.length := by omega
   subst this
   rw [QoU] at hi2
   rw [show Qbk d zs = [] by unfold Qbk; rw [QeF hi2]; rfl, QeF hi2]
   exact RM.i0
theorem Qny : HB 118 := hB Tryz.func118
theorem QqB {d : Dev} (hd : d.tiny) {zs : List Int} (hz : zs.length ≤ 200) : (Qbk d zs).length ≤ 100000 := by
 have h1 := Qjw hd zs zs.length
 rw [List.take_length] at h1
 unfold Qbk
 rcases Ql1 (p := QaM d zs) with h | ⟨l, h2, h3⟩
 ·rw [h]; exact Nat.zero_le _
 ·rw [h2]
  show l.length ≤ _
  omega
theorem QnY {p : List ByteArray} : ∀ {l : List Rec}, Qad p = some l → ∀ r ∈ l, r.payload.size ≤ 20 := by
 induction p with
 | nil => intro l h; cases h
 | cons s t ih =>
  intro l h r hr
  unfold Qad at h
  split at h
  ·split at h
   ·cases h
    rw [List.mem_singleton.1 hr]
    exact Qeg s
   ·cases q : Qad t with
    | none => rw [q] at h; cases h
    | some l' =>
     rw [q] at h
     cases h
     rcases List.mem_cons.1 hr with rfl | hr
     ·exact Qeg s
     ·exact ih q r hr
  ·cases h
theorem QpQ (d : Dev) (zs : List Int) (i : Nat) : ((Qbk d zs).getD i default).payload.size ≤ 1000 := by
 by_cases h : i < (Qbk d zs).length
 ·rw [Qas _ i h]
  have hm := List.getElem_mem h
  generalize (Qbk d zs)[i] = r at hm ⊢
  unfold Qbk at hm
  cases q : Qad (QaM d zs) with
  | none => rw [q] at hm; exact absurd hm List.not_mem_nil
  | some l =>
   rw [q] at hm
   have := QnY q r hm
   omega
 ·rw [show (Qbk d zs).getD i default = default by simp [List.getD, h]]
  exact Nat.zero_le _
set_option maxHeartbeats 4000000 in
theorem Qps (c : Conf) (d : Dev) (hd : d.tiny) (slot : Int) (h0 : 0 ≤ slot) (h1 : slot ≤ 1) : PS 85 [.a c.cells, .a d.cells, .c (.int .i64 slot)] (.t [.inr (Qx c d slot).cells, .inl (.int .i64 (Qu c d slot))]) := by
 refine PSpec.rm ?_
 refine ov0 hΓ Tryz.func85 91 0 [.cell 6 57, .tmp 7] Tryz.ntmps85 Tryz.results85 ?_
 refine CallN.pureA Qfg (Qfr c ) (Go0 ?_)
 by_cases hc : Qm c = 0
 ·refine Br.no (by simpa using hc) (Go0 ?_)
  have hs01 : slot = 0 ∨ slot = 1 := by omega
  refine Br.no (by rcases hs01 with rfl | rfl <;> rfl) ?_
  refine Go0 ?_
  have hsr := Qao (Qat hc).1
  have hlen := Qi1 c slot
  refine CallN.pureA QnV (QoA c slot h0 h1 hc ) (Go1 fun _h=>?_)
  refine Lp.mkK hΓ (ι := Nat) [3, 4, 6, 9, 32, 33] (fun k => [(34, .c (.int .i64 k))]) (fun k => [.vr c.cells, .vr d.cells, .vr (default : Bas).cells]) (fun k => k ≤ (Qap c slot).length ∧ ∀ i, i < k → (Qap c slot).getD i default < d.zones.length) (fun k => (Qap c slot).length - k) 0 ⟨Nat.zero_le _, fun i hi => absurd hi (Nat.not_lt_zero _)⟩ ?_ ?_
  ·exact Mv.k0
  ·rintro k ⟨hk, hk2⟩
   refine Go0 ?_
   refine Br.of (fun h2=>?_) (fun h2=>?_)<;>(try simp only [Int.toNat_natCast] at h2)<;>(conv=>whnf)
   ·refine Go1 fun _h=>?_
    have w0 := Qa (↑k + 1) (by omega) (by omega)
    by_cases c1 : (Qap c slot).getD k default < d.zones.length
    ·refine Br.no (decide_eq_false (by show ¬ (Qap c slot).getD k default ≥ _; omega)) (Go0 ?_)
     refine ⟨k + 1, ⟨by omega, fun j hj => ?_⟩, by omega, ?_⟩
     ·rcases Nat.lt_succ_iff_lt_or_eq.1 hj with q | rfl
      ·exact hk2 j q
      ·exact c1
     ·exact Mv.k0
    ·refine Br.yes (decide_eq_true (by show (Qap c slot).getD k default ≥ _; omega)) (Go0 ?_)
     have hz : ¬ slot * Qi c + Qi c ≤ d.zones.length := fun q => c1 (by rw [Qc6 (by omega)]; omega)
     have e : Qu c d slot = 5 := by unfold Qu; rw [if_pos hc, if_neg hz]
     rw [show Qx c d slot = default from if_neg (by rw [e]; decide), e]
     exact RM.i0
   ·refine Go0 ?_
    have : k = (Qap c slot).length := by omega
    subst this
    have hz : slot * Qi c + Qi c ≤ d.zones.length := by
     have := hk2 ((Qi c).toNat - 1) (by omega)
     rw [Qc6 (by omega)] at this
     omega
    have hs0 : 0 ≤ slot * Qi c := Int.mul_nonneg h0 (by omega)
    refine CallN.pureA Qny (Qm4 d hd (Qap c slot) (by omega) (fun i hi => ⟨by rw [Qc6 (by omega)]; omega, hk2 i hi⟩) ) (Go0 ?_)
    have hrl := QqB hd (zs := Qap c slot) (by omega)
    have hrp := QpQ d (Qap c slot)
    cases q : Qad (QaM d (Qap c slot)) with
    | none =>
     refine Br.yes rfl (Go0 ?_)
     have e : Qu c d slot = 3 := by unfold Qu; rw [if_pos hc, if_pos hz, q]
     rw [show Qx c d slot = default from if_neg (by rw [e]; decide), e]
     exact RM.i0
    | some l =>
     refine Br.no rfl (Go0 ?_)
     have hq : Qbk d (Qap c slot) = l := by unfold Qbk; rw [q]; rfl
     rw [hq] at hrl hrp
     rw [hq]
     refine CallN.pureA Qnq (QlW l hrl hrp ) (Go0 ?_)
     have hd2 := Qkm l
     have w1 : IntKind.i64.wrap (((Qak l).ents.length : Int) - 1) = ((Qak l).ents.length : Int) - 1 := Qa _ (by omega) (by omega)
     refine Dr.mk hΓ hMix (by kernel_rfl) (Go0 ?_)
     have ee : Qu c d slot = Qa4 c l := by unfold Qu; rw [if_pos hc, if_pos hz, q]
     have eb : Qx c d slot = Qa3 c l := by
      unfold Qx
      rw [ee, q]
      by_cases q0 : Qa4 c l = 0
      ·rw [if_pos q0]
      ·rw [if_neg q0]; exact (if_neg q0).symm
     rw [ee, eb]
     by_cases c1 : QaJ l = 0 ∧ (Qak l).ents.length ≤ c.blocks ∧ (0 < (Qak l).ents.length → ((Qak l).ents.getD ((Qak l).ents.length - 1) default).block < c.blocks)
     ·refine Br.no (Bool.eq_false_iff.2 fun q => whole_cond.1 (by rw [w1] at q; exact q) c1) (Go0 ?_)
      have e : Qa4 c l = 0 := if_pos c1
      rw [show Qa3 c l = Qak l from if_pos e, e]
      exact RM.i0
     ·refine Br.yes (by rw [w1]; exact whole_cond.2 c1) (Go0 ?_)
      have e : Qa4 c l = 3 := if_neg c1
      rw [show Qa3 c l = default from if_neg (by rw [e]; decide), e]
      exact RM.i0
 ·refine Br.yes (by simpa using hc) (Go0 ?_)
  have e : Qu c d slot = Qm c := if_neg hc
  rw [show Qx c d slot = default from if_neg (by rw [e]; exact hc), e]
  exact RM.i0
theorem Qpu : HB 85 := hB Tryz.func85
theorem Qo5 {c : Conf} {d : Dev} {slot : Int} (h : Qu c d slot = 0) : 1 ≤ (Qx c d slot).seq := by
 unfold Qx
 rw [if_pos h]
 unfold Qu at h
 split at h
 ·split at h
  ·split at h
   ·cases h
   ·rename_i l q
    try rw [q]
    show 1 ≤ (Qa3 c l).seq
    unfold Qa3
    rw [if_pos h]
    unfold Qa4 at h
    split at h
    ·rename_i w
     have w := w.1
     unfold Qak
     rw [if_pos w]
     unfold QaJ at w
     split at w
     ·rename_i ww
      exact (QcX ww.2.1).1.1
     ·cases w
    ·cases h
  ·cases h
 ·rename_i q; exact absurd h q
def QcH (c : Conf) (d : Dev) : Nat → Bas × Int
 | 0 => (default, -1)
 | k + 1 => if Qu c d k = 0 ∧ (QcH c d k).1.seq < (Qx c d k).seq then (Qx c d k, k) else QcH c d k
theorem Qsi (c : Conf) (d : Dev) : QcH c d 2 = Qo c d := by
 have h0 : QcH c d 1 = if Qu c d 0 = 0 then (Qx c d 0, 0) else (default, -1) := by
  show (if Qu c d (0 : Nat) = 0 ∧ (QcH c d 0).1.seq < (Qx c d (0 : Nat)).seq then _ else _) = _
  by_cases h : Qu c d 0 = 0
  ·have := Qo5 h
   rw [if_pos h, if_pos ⟨h, by show (0 : Int) < _; exact this⟩]
   rfl
  ·rw [if_neg h, if_neg fun q => h q.1]; rfl
 show (if Qu c d (1 : Nat) = 0 ∧ (QcH c d 1).1.seq < (Qx c d (1 : Nat)).seq then _ else _) = _
 rw [h0]
 unfold Qo
 by_cases h : Qu c d 0 = 0
 ·rw [if_pos h]
  by_cases g : Qu c d 1 = 0
  ·by_cases k : (Qx c d 1).seq ≤ (Qx c d 0).seq
   ·rw [if_neg fun q => by have := q.2; have e : (Qx c d ((1 : Nat) : Int)).seq = (Qx c d 1).seq := rfl; simp only at this; omega, if_pos ⟨h, Or.inr k⟩]
   ·rw [if_pos ⟨g, by show (Qx c d 0).seq < (Qx c d 1).seq; omega⟩, if_neg fun q => q.2.elim (fun z => z g) k, if_pos g]
    rfl
  ·rw [if_neg fun q => g q.1, if_pos ⟨h, Or.inl g⟩]
 ·rw [if_neg h]
  by_cases g : Qu c d 1 = 0
  ·have := Qo5 g
   rw [if_pos ⟨g, by show (0 : Int) < _; exact this⟩, if_neg fun q => h q.1, if_pos g]
   rfl
  ·rw [if_neg fun q => g q.1, if_neg fun q => h q.1, if_neg g]
set_option maxHeartbeats 2000000 in
theorem QmC (c : Conf) (d : Dev) (hd : d.tiny) : PS 45 [.a c.cells, .a d.cells] (.t [.inr (Qo c d).1.cells, .inl (.int .i64 (Qo c d).2)]) := by
 refine PSpec.rm ?_
 refine ov0 hΓ Tryz.func45 36 0 [.cell 4 57, .tmp 5] Tryz.ntmps45 Tryz.results45 ?_
 refine Lp.mkK hΓ (ι := Nat) [2, 3, 4, 6] (fun k => [(12, .c (.int .i64 k)), (7, .c (.int .i64 (QcH c d k).2))]) (fun k => [.vr c.cells, .vr d.cells, .vr (default : Bas).cells, .vr (QcH c d k).1.cells]) (fun k => k ≤ 2) (fun k => 2 - k) 0 (Nat.zero_le _) ?_ ?_
 ·exact Mv.k0
 ·intro k hk
  refine Go0 ?_
  refine Br.of (fun h1=>?_) (fun h1=>?_)<;>(try simp only [Int.toNat_natCast] at h1)<;>refine Go0 ?_
  ·have w0 := Qa (↑k + 1) (by omega) (by omega)
   refine CallN.pureA Qpu (Qps c d hd k (by omega) (by omega) ) (Go0 ?_)
   by_cases h : Qu c d k = 0 ∧ (QcH c d k).1.seq < (Qx c d k).seq
   ·refine Br.yes (by rw [h.1]; exact decide_eq_true h.2) (Go0 ?_)
    refine ⟨k + 1, by omega, by omega, ?_⟩
    rw [show QcH c d (k + 1) = (Qx c d k, (k : Int)) from if_pos h]
    exact Mv.k0
   ·refine Br.no (Bool.eq_false_iff.2 fun q => h ?_) ?_
    ·by_cases g : Qu c d k = 0
     ·refine ⟨g, ?_⟩
      rw [g] at q
      exact of_decide_eq_true q
     ·rw [beq_false_of_ne g] at q
      cases q
    ·refine Go0 ?_
     refine ⟨k + 1, by omega, by omega, ?_⟩
     rw [show QcH c d (k + 1) = QcH c d k from if_neg h]
     exact Mv.k0
  ·have : k = 2 := by omega
   subst this
   rw [Qsi]
   exact RM.i0
theorem Ql4 : HB 45 := hB Tryz.func45
end Go.Proofs
end
