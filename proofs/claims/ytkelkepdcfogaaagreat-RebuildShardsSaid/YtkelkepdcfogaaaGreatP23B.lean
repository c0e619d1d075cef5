/- Contracts, lemmas; no condition. -/
import Derived.Test.YtkelkepdcfogaaaGreatP22B
import Derived.Test.YtkelkepdcfogaaaGreatP13B
set_option linter.all false
section
open Go Go.Am
namespace Go.Proofs
set_option maxRecDepth 20000
theorem Qeo (s : ByteArray) : (decR s).payload.size ≤ 20 := by
 unfold decR
 split
 ·rename_i h
  unfold decE at h
  split at h
  ·split at h
   ·split at h
    ·rename_i h3
     exact (QaC h3.1).2.2
    ·cases h
   ·cases h
  ·cases h
 ·exact Nat.zero_le _
def okS (s : ByteArray) : Prop := decE s = 0 ∧ (decR s).kind ≠ 6
theorem Qe4 {p : List ByteArray} (h : ∀ s ∈ p, okS s) (q : List ByteArray) : Qab (p ++ q) = (Qab q).map (p.map decR ++ ·) := by
 induction p with
 | nil => simp
 | cons s t ih =>
  obtain ⟨h1, h2⟩ := h s (List.mem_cons_self ..)
  simp only [List.cons_append, Qab, if_pos h1, if_neg h2]
  rw [ih fun x hx => h x (List.mem_cons_of_mem _ hx)]
  cases Qab q <;> rfl
theorem Qeu {p : List ByteArray} (h : ∀ s ∈ p, okS s) : Qab p = none := by
 have := Qe4 h []
 rw [List.append_nil] at this
 rw [this]; rfl
theorem Qhm {p : List ByteArray} (h : ∀ s ∈ p, okS s) {s : ByteArray} {q : List ByteArray} (hs : decE s ≠ 0) : Qab (p ++ s :: q) = none := by
 rw [Qe4 h]
 simp only [Qab, if_neg hs]
 rfl
theorem Qee {p : List ByteArray} (h : ∀ s ∈ p, okS s) {s : ByteArray} {q : List ByteArray} (hs : decE s = 0) (h6 : (decR s).kind = 6) : Qab (p ++ s :: q) = some (p.map decR ++ [decR s]) := by
 rw [Qe4 h]
 simp only [Qab, if_pos hs, if_pos h6]
 rfl
def secZ (d : Dev) (z : Int) : List ByteArray := (d.zones.getD z.toNat default).sectors
def preS (d : Dev) (zs : List Int) (i k : Nat) : List ByteArray := QaB d (zs.take i) ++ (secZ d (zs.getD i default)).take k
theorem QmS {d : Dev} {zs : List Int} : preS d zs 0 0 = [] := by simp [preS, QaB]
theorem QfN {d : Dev} {zs : List Int} {i : Nat} (hi : i < zs.length) : preS d zs (i + 1) 0 = preS d zs i (secZ d (zs.getD i default)).length := by
 unfold preS QaB
 rw [Q1 zs hi, List.flatMap_append, List.take_length]
 simp [secZ]
theorem Qmt {d : Dev} {zs : List Int} {i k : Nat} (hk : k < (secZ d (zs.getD i default)).length) : preS d zs i (k + 1) = preS d zs i k ++ [(secZ d (zs.getD i default)).getD k default] := by
 unfold preS
 rw [Q1 _ hk, List.append_assoc]
theorem Qkf {d : Dev} {zs : List Int} {i k : Nat} (hi : i < zs.length) (hk : k < (secZ d (zs.getD i default)).length) : ∃ q, QaB d zs = preS d zs i k ++ (secZ d (zs.getD i default)).getD k default :: q := by
 refine ⟨(secZ d (zs.getD i default)).drop (k + 1) ++ QaB d (zs.drop (i + 1)), ?_⟩
 have h1 : QaB d zs = QaB d (zs.take i) ++ (secZ d (zs.getD i default) ++ QaB d (zs.drop (i + 1))) := by
  conv => lhs; rw [← List.take_append_drop i zs]
  unfold QaB
  rw [List.flatMap_append, List.drop_eq_getElem_cons hi, List.flatMap_cons, Qb1 zs i hi]
  rfl
 rw [h1]
 unfold preS
 rw [List.append_assoc]
 congr 1
 conv => lhs; rw [← List.take_append_drop k (secZ d (zs.getD i default))]
 rw [List.append_assoc, List.drop_eq_getElem_cons hk, Qb1 _ k hk]
 rfl
theorem Qop {d : Dev} {zs : List Int} : preS d zs zs.length 0 = QaB d zs := by
 unfold preS
 rw [List.take_length]
 simp
theorem Qjq {d : Dev} (hd : d.tiny) (zs : List Int) : ∀ i, (QaB d (zs.take i)).length ≤ 100 * i
 | 0 => by simp [QaB]
 | i + 1 => by
  have h1 := Qjq hd zs i
  by_cases hi : i < zs.length
  ·unfold QaB at *
   rw [Q1 zs hi, List.flatMap_append, List.length_append]
   have := hd.s (zs.getD i default).toNat
   simp only [List.flatMap_cons, List.flatMap_nil, List.append_nil]
   omega
  ·rw [List.take_of_length_le (by omega)] at *
   omega
theorem preL {d : Dev} (hd : d.tiny) (zs : List Int) (i k : Nat) : (preS d zs i k).length ≤ 100 * (i + 1) := by
 have h1 := Qjq hd zs i
 have h2 := hd.s (zs.getD i default).toNat
 unfold preS
 rw [List.length_append, List.length_take]
 unfold secZ
 omega
theorem Qim (c : Conf) (slot : Int) : (Qaj c slot).length = (Qg c).toNat := tabL_len _
theorem Qc2 {c : Conf} {slot : Int} {i : Nat} (hi : i < (Qg c).toNat) : (Qaj c slot).getD i default = slot * Qg c + i := by
 unfold Qaj tabL
 rw [Qb1 _ _ (by simpa using hi)]
 simp
theorem QjV (a b : Int) (size : Nat) (h1 : 1 ≤ size) (h7 : size ≤ 7) (ha0 : 0 ≤ a) (ha : a < 2 ^ (8 * size)) (hb0 : 0 ≤ b) (hb : b < 2 ^ (8 * size)) : PS 174 [.c (.int .i64 a), .c (.int .i64 b), .c (.int .i64 size)] (.c (.str (putS a size ++ putS b size))) := by
 have p1 := Qn a size
 have p2 := Qn b size
 refine PSpec.rm ?_
 refine ov hΓ Tryz.func174 26 0 [.tmp 6] Tryz.ntmps174 Tryz.results174 ?_
 ((conv=>whnf);(repeat' ((first|refine Nd ?_|refine Hv fun _h=>?_);conv=>whnf)))
 refine CallN.pureA QeL (QeQ a size h1 h7 ha0 ha ) ?_
 ((conv=>whnf);(repeat' ((first|refine Nd ?_|refine Hv fun _h=>?_);conv=>whnf)))
 refine CallN.pureA QeL (QeQ b size h1 h7 hb0 hb ) ?_
 ((conv=>whnf);(repeat' ((first|refine Nd ?_|refine Hv fun _h=>?_);conv=>whnf)))
 exact RM.i0
theorem Qj5 : HB 174 := hB Tryz.func174
set_option maxHeartbeats 2000000 in
theorem QnF (b : Bas) (hl : b.ents.length ≤ 1000000) : PS 173 [.a b.cells] (.c (.int .i64 (QE b.seq b.next b.cut b.ents))) := by
 refine PSpec.rm ?_
 refine ov hΓ Tryz.func173 113 0 [.tmp 2] Tryz.ntmps173 Tryz.results173 ?_
 ((conv=>whnf);(repeat' ((first|refine Nd ?_|refine Hv fun _h=>?_);conv=>whnf)))
 by_cases h1 : 1 ≤ b.seq ∧ b.seq < 1099511627776 ∧ 1 ≤ b.next ∧ b.next ≤ 1099511627776 ∧ 1 ≤ b.cut ∧ b.cut ≤ b.next
 ·refine Br.no (Bool.eq_false_iff.2 fun z => by simp at z; omega) ?_
  ((conv=>whnf);(repeat' ((first|refine Nd ?_|refine Hv fun _h=>?_);conv=>whnf)))
  by_cases h2 : 128 < b.ents.length
  ·refine Br.yes (by simpa using (by omega : (128 : Int) < b.ents.length)) ?_
   ((conv=>whnf);(repeat' ((first|refine Nd ?_|refine Hv fun _h=>?_);conv=>whnf)))
   rw [show QE b.seq b.next b.cut b.ents = 19 by unfold QE; rw [if_pos h1, if_pos h2]]
   exact RM.i0
  ·refine Br.no (by simpa using (by omega : (b.ents.length : Int) ≤ 128)) ?_
   ((conv=>whnf);(repeat' ((first|refine Nd ?_|refine Hv fun _h=>?_);conv=>whnf)))
   have he : QE b.seq b.next b.cut b.ents = QQ b.ents b.next b.ents.length := by unfold QE; rw [if_pos h1, if_neg h2]
   rw [he]
   refine Lp.mkK hΓ (ι := Nat) [1, 41, 42] (fun k => [(43, .c (.int .i64 k)), (3, .c (.int .i64 (if k = 0 then -1 else (b.ents.getD (k - 1) default).block)))]) (fun k => [.vr b.cells]) (fun k => k ≤ b.ents.length ∧ QQ b.ents b.next k = 0) (fun k => b.ents.length - k) 0 ⟨Nat.zero_le _, rfl⟩ ?_ ?_
   ·exact Mv.k0
   ·rintro k ⟨hk, hk2⟩
    ((conv=>whnf);(repeat' ((first|refine Nd ?_|refine Hv fun _h=>?_);conv=>whnf)))
    refine Br.of (fun h3=>?_) (fun h3=>?_)<;>(try simp only [Int.toNat_natCast] at h3)<;>(conv=>whnf)
    ·((conv=>whnf);(repeat' ((first|refine Nd ?_|refine Hv fun _h=>?_);conv=>whnf)))
     have w0 := Qa (↑k + 1) (by omega) (by omega)
     have e1 : QQ b.ents b.next (k + 1) = if Qae (b.ents.getD k default) b.next = 0 then if 0 < k ∧ (b.ents.getD k default).block ≤ (b.ents.getD (k - 1) default).block then 17 else 0 else Qae (b.ents.getD k default) b.next := by
      simp only [QQ]; rw [if_pos hk2]
     rw [show b.ents.getD (k : Int).toNat default = b.ents.getD k default from rfl]
     generalize he2 : b.ents.getD k default = x at *
     by_cases q1 : x.kind = 1
     ·refine Br.no (by simpa using q1) ?_
      ((conv=>whnf);(repeat' ((first|refine Nd ?_|refine Hv fun _h=>?_);conv=>whnf)))
      by_cases q2 : 0 ≤ x.block ∧ x.block < 128 ∧ 1 ≤ x.version ∧ x.version < b.next ∧ 0 ≤ x.move ∧ x.move ≤ 255
      ·refine Br.no (Bool.eq_false_iff.2 fun z => by simp at z; omega) ?_
       ((conv=>whnf);(repeat' ((first|refine Nd ?_|refine Hv fun _h=>?_);conv=>whnf)))
       by_cases q3 : 0 ≤ x.zone ∧ x.zone < 32 ∧ 0 ≤ x.offset ∧ x.offset < 64
       ·refine Br.no (Bool.eq_false_iff.2 fun z => by simp at z; omega) ?_
        ((conv=>whnf);(repeat' ((first|refine Nd ?_|refine Hv fun _h=>?_);conv=>whnf)))
        have e2 : Qae x b.next = 0 := by unfold Qae; rw [if_pos q1, if_pos ⟨q2.1, q2.2.1, q2.2.2.1, q2.2.2.2.1, q2.2.2.2.2.1, q2.2.2.2.2.2, q3⟩]
        rw [if_pos e2] at e1
        by_cases q4 : 0 < k ∧ x.block ≤ (b.ents.getD (k - 1) default).block
        ·refine Br.yes (by rw [if_neg (show ¬ k = 0 by omega)]; exact decide_eq_true q4.2) ?_
         ((conv=>whnf);(repeat' ((first|refine Nd ?_|refine Hv fun _h=>?_);conv=>whnf)))
         rw [if_pos q4] at e1
         rw [QbK (by omega) e1 (by decide)]
         exact RM.i0
        ·refine Br.no (decide_eq_false fun z => ?_) ?_
         ·by_cases k0 : k = 0
          ·rw [if_pos k0] at z; omega
          ·rw [if_neg k0] at z; exact q4 ⟨by omega, z⟩
         ·((conv=>whnf);(repeat' ((first|refine Nd ?_|refine Hv fun _h=>?_);conv=>whnf)))
          rw [if_neg q4] at e1
          refine ⟨k + 1, ⟨by omega, e1⟩, by omega, ?_⟩
          rw [if_neg (show ¬ k + 1 = 0 by omega), show k + 1 - 1 = k from rfl, he2]
          exact Mv.k0
       ·refine Br.yes (Decidable.byContradiction fun z => q3 (by simp at z; omega)) ?_
        ((conv=>whnf);(repeat' ((first|refine Nd ?_|refine Hv fun _h=>?_);conv=>whnf)))
        have e2 : Qae x b.next = 1 := by unfold Qae; rw [if_pos q1, if_neg fun z => q3 z.2.2.2.2.2.2]
        rw [e2, if_neg (by decide)] at e1
        rw [QbK (by omega) e1 (by decide)]
        exact RM.i0
      ·refine Br.yes (Decidable.byContradiction fun z => q2 (by simp at z; omega)) ?_
       ((conv=>whnf);(repeat' ((first|refine Nd ?_|refine Hv fun _h=>?_);conv=>whnf)))
       have e2 : Qae x b.next = 1 := by unfold Qae; rw [if_pos q1, if_neg fun z => q2 ⟨z.1, z.2.1, z.2.2.1, z.2.2.2.1, z.2.2.2.2.1, z.2.2.2.2.2.1⟩]
       rw [e2, if_neg (by decide)] at e1
       rw [QbK (by omega) e1 (by decide)]
       exact RM.i0
     ·refine Br.yes (by simpa using q1) ?_
      ((conv=>whnf);(repeat' ((first|refine Nd ?_|refine Hv fun _h=>?_);conv=>whnf)))
      have e2 : Qae x b.next = 3 := by unfold Qae; rw [if_neg q1]
      rw [e2, if_neg (by decide)] at e1
      rw [QbK (by omega) e1 (by decide)]
      exact RM.i0
    ·((conv=>whnf);(repeat' ((first|refine Nd ?_|refine Hv fun _h=>?_);conv=>whnf)))
     have : k = b.ents.length := by omega
     subst this
     rw [hk2]
     exact RM.i0
 ·refine Br.yes (Decidable.byContradiction fun z => h1 (by simp at z; omega)) ?_
  ((conv=>whnf);(repeat' ((first|refine Nd ?_|refine Hv fun _h=>?_);conv=>whnf)))
  rw [show QE b.seq b.next b.cut b.ents = 1 by unfold QE; rw [if_neg h1]]
  exact RM.i0
theorem QnR : HB 173 := hB Tryz.func173
theorem QrC {x : Int} (h0 : 0 ≤ x) (h1 : x < 4294967296) : notU (notU x) = x := by
 obtain ⟨a, rfl⟩ : ∃ a : Nat, x = a := ⟨x.toNat, by omega⟩
 have ha : a < 4294967296 := by omega
 unfold notU
 have e := Qes (a := 4294967295) (b := a) (by decide) ha
 rw [show ((4294967295 : Nat) : Int) = 4294967295 from rfl] at e
 rw [e]
 have e2 := Qes (a := 4294967295) (b := 4294967295 ^^^ a) (by decide) (QfY (by decide) ha)
 rw [show ((4294967295 : Nat) : Int) = 4294967295 from rfl] at e2
 rw [e2, ← Nat.xor_assoc, Nat.xor_self, Nat.zero_xor]
theorem Qno {a b : ByteArray} {k : Nat} (h : k < a.size) : Qau (a ++ b) k = Qau a k := by
 unfold Qau
 rw [ByteArray.data_append, Array.toList_append]
 have : k < a.data.toList.length := h
 simp [List.getD, List.getElem?_append_left this]
theorem QmT {a b : ByteArray} {k : Nat} : Qau (a ++ b) (a.size + k) = Qau b k := by
 unfold Qau
 rw [ByteArray.data_append, Array.toList_append]
 have e : a.size = a.data.toList.length := rfl
 rw [e]
 simp [List.getD, List.getElem?_append_right]
theorem QlC {s : Int} {a b : ByteArray} : ∀ k, k ≤ a.size → QW s (a ++ b) k = QW s a k
 | 0, _ => rfl
 | k + 1, h => by
  show QaV QaJ 8 (xorU (QW s (a ++ b) k) (Qau (a ++ b) k)) = QaV QaJ 8 (xorU (QW s a k) (Qau a k))
  rw [QlC k (by omega), Qno (by omega)]
theorem Qkp {s : Int} {a b : ByteArray} : ∀ k, QW s (a ++ b) (a.size + k) = QW (addU s a) b k
 | 0 => by
  show QW s (a ++ b) a.size = notU (notU (QW s a a.size))
  have := QhA s a a.size
  rw [QrC this.1 this.2, QlC _ (Nat.le_refl _)]
 | k + 1 => by
  show QaV QaJ 8 (xorU (QW s (a ++ b) (a.size + k)) (Qau (a ++ b) (a.size + k))) = QaV QaJ 8 (xorU (QW (addU s a) b k) (Qau b k))
  rw [Qkp k, QmT]
theorem QnA {s : Int} {a b : ByteArray} : addU s (a ++ b) = addU (addU s a) b := by
 show notU (QW s (a ++ b) (a ++ b).size) = notU (QW (addU s a) b b.size)
 rw [ByteArray.size_append, Qkp]
theorem QlU {l : List Rec} {k : Nat} (h : QB (l.getD k default) = 0) : addU 0 (QO l (k + 1)) = addU (addU 0 (QO l k)) ((encR (l.getD k default)).extract 0 36) := by
 rw [show QO l (k + 1) = QO l k ++ (encR (l.getD k default)).extract 0 36 from if_pos h]
 exact QnA
set_option maxHeartbeats 2000000 in
theorem QoX (l : List Rec) (hl : l.length ≤ 1000) : PS 175 [.c (Qb9 l)] (.c (.str (QcS l))) := by
 refine PSpec.rm ?_
 refine ov hΓ Tryz.func175 37 0 [.tmp 2] Tryz.ntmps175 Tryz.results175 ?_
 ((conv=>whnf);(repeat' ((first|refine Nd ?_|refine Hv fun _h=>?_);conv=>whnf)))
 refine CallN.pureA Qgy (Qge ByteArray.empty (by decide) ) ?_
 ((conv=>whnf);(repeat' ((first|refine Nd ?_|refine Hv fun _h=>?_);conv=>whnf)))
 refine Lp.mkK hΓ (ι := Nat) [11, 12] (fun k => [(13, .c (.int .i64 k)), (3, .c (.int .u32 (addU 0 (QO l k))))]) (fun k => []) (fun k => k ≤ l.length) (fun k => l.length - k) 0 (Nat.zero_le _) ?_ ?_
 ·exact Mv.k0
 ·intro k hk
  ((conv=>whnf);(repeat' ((first|refine Nd ?_|refine Hv fun _h=>?_);conv=>whnf)))
  refine Br.of (fun h1=>?_) (fun h1=>?_)<;>(try simp only [Int.toNat_natCast] at h1)<;>(conv=>whnf)
  ·((conv=>whnf);(repeat' ((first|refine Nd ?_|refine Hv fun _h=>?_);conv=>whnf)))
   have w0 := Qa (↑k + 1) (by omega) (by omega)
   refine CallN.pureA Qgx (QgS (l.getD k default) ) ?_
   ((conv=>whnf);(repeat' ((first|refine Nd ?_|refine Hv fun _h=>?_);conv=>whnf)))
   by_cases h2 : QB (l.getD k default) = 0
   ·have hz := QkB h2
    refine Br.yes (by rw [hz]; rfl) ?_
    ((conv=>whnf);(repeat' ((first|refine Nd ?_|refine Hv fun _h=>?_);conv=>whnf)))
    refine CallN.pureA Qjs (QjE (addU 0 (QO l k)) ((encR (l.getD k default)).extract 0 36) (by rw [ByteArray.size_extract]; omega) ) ?_
    ((conv=>whnf);(repeat' ((first|refine Nd ?_|refine Hv fun _h=>?_);conv=>whnf)))
    refine ⟨k + 1, by omega, by omega, ?_⟩
    rw [QlU h2]
    exact Mv.k0
   ·have hz : encR (l.getD k default) = ByteArray.empty := if_neg h2
    refine Br.no (by rw [hz]; rfl) ?_
    ((conv=>whnf);(repeat' ((first|refine Nd ?_|refine Hv fun _h=>?_);conv=>whnf)))
    refine ⟨k + 1, by omega, by omega, ?_⟩
    rw [show QO l (k + 1) = QO l k from if_neg h2]
    exact Mv.k0
  ·((conv=>whnf);(repeat' ((first|refine Nd ?_|refine Hv fun _h=>?_);conv=>whnf)))
   have : k = l.length := by omega
   subst this
   have hu := Qg1 0 (QO l l.length)
   have w0 : sumW (QO l l.length) = addU 0 (QO l l.length) := Qa _ (by omega) (by omega)
   refine CallN.pureA QeL (QeQ (sumW (QO l l.length)) 4 (by decide) (by decide) (by rw [w0]; omega) (by rw [w0]; omega) ) ?_
   ((conv=>whnf);(repeat' ((first|refine Nd ?_|refine Hv fun _h=>?_);conv=>whnf)))
   exact RM.i0
theorem Qqr : HB 175 := hB Tryz.func175
theorem QnO (l : List Rec) (n : Nat) (hn : n = l.length) (hl : n ≤ 1000) : CS 175 [.c (.sl 0 5 n n false)] [.arr 50 5 n (recG l)] fun s H => s = .c (.str (QcS l)) ∧ H = [.arr 50 5 n (recG l)] := by
 subst hn
 exact CSpec.reads (QoX l hl) (BwA.cons (BwS.c (Bw.sl rfl rfl (fun i _ j _ => Bw.same (Qai _ _)) (fun e => by cases e))) BwA.nil) rfl ⟨rfl, rfl⟩
theorem QnJ : HB 175 := Qqr
theorem QuB {l : List Rec} {x : Rec} {n : Nat} {g : Nat → Nat → C} (hn : n = l.length) (hg : ∀ j, j < 5 → g 0 j = Qaz x j) {i j : Nat} (hi : i < n + 1) (hj : j < 5) : appG (recG l) n g i j = recG (l ++ [x]) i j := by
 subst hn
 simp only [appG, recG, rowG, List.getD]
 split
 ·rw [List.getElem?_append_left (by assumption)]
 ·have : i = l.length := by omega
  subst this
  simp [hg j hj]
theorem QgP (l : List Rec) (x : Rec) (n : Nat) (hn : n = l.length) (hl : n ≤ 1000000) (g : Nat → Nat → C) (b : Bool) (hg : ∀ j, j < 5 → g 0 j = Qaz x j) : CS 154 [.c (.sl 0 5 n n false), .c (.isl 5 1 g b)] [.arr 50 5 n (recG l)] fun s H => s = .c (.sl 0 5 (n + 1) (n + 1) false) ∧ H = [.arr 50 5 (n + 1) (recG (l ++ [x]))] := by
 refine CSpec.rm ?_
 refine ov hΓ Tryz.func154 8 1 [.tmp 4] Tryz.ntmps154 Tryz.results154 ?_
 ((conv=>whnf);(repeat' ((first|refine Nd ?_|refine Hv fun _h=>?_);conv=>whnf)))
 refine ⟨_, _, ?_, rfl, rfl⟩
 refine RM.w1 ?_
 exact fun i hi j hj => WC.eq (QuB hn hg hi hj) (Qai _ _)
theorem Qgo : HB 154 := hB Tryz.func154
theorem QqU (x : Rec) (g : Nat → Nat → C) (b : Bool) (hg : ∀ j, j < 5 → g 0 j = Qaz x j) : CS 154 [.c .nils, .c (.isl 5 1 g b)] [] fun s H => s = .c (.sl 0 5 1 1 false) ∧ H = [.arr 50 5 1 (recG [x])] := by
 refine CSpec.rm ?_
 refine ov hΓ Tryz.func154 8 0 [.tmp 4] Tryz.ntmps154 Tryz.results154 ?_
 ((conv=>whnf);(repeat' ((first|refine Nd ?_|refine Hv fun _h=>?_);conv=>whnf)))
 refine ⟨_, _, ?_, rfl, rfl⟩
 refine RM.w1 ?_
 intro i hi j hj
 have : i = 0 := by omega
 subst this
 exact WC.eq (hg j hj) (Qai _ _)
theorem Qr1 : HB 154 := hB Tryz.func154
set_option maxHeartbeats 4000000 in
theorem Qmw (b : Bas) (hl : b.ents.length ≤ 1000000) : PS 155 [.a b.cells] (.t [.inl (Qb9 (QaO b.seq b.next b.cut b.ents)), .inl (.int .i64 (QE b.seq b.next b.cut b.ents))]) := by
 refine PSpec.rm ?_
 refine ov hΓ Tryz.func155 62 0 [.tmp 2, .tmp 3] Tryz.ntmps155 Tryz.results155 ?_
 ((conv=>whnf);(repeat' ((first|refine Nd ?_|refine Hv fun _h=>?_);conv=>whnf)))
 refine CallN.pureA QnR (QnF b hl ) ?_
 ((conv=>whnf);(repeat' ((first|refine Nd ?_|refine Hv fun _h=>?_);conv=>whnf)))
 by_cases h0 : QE b.seq b.next b.cut b.ents = 0
 ·refine Br.no (by simpa using h0) ?_
  ((conv=>whnf);(repeat' ((first|refine Nd ?_|refine Hv fun _h=>?_);conv=>whnf)))
  obtain ⟨h1, h2, h3⟩ := QcN h0
  have p1 := Qn b.next 6
  have p2 := Qn b.cut 6
  refine Dr.mkE hΓ hMix [4294967296, 154] [] (by kernel_rfl) ?_; conv=>whnf
  ((conv=>whnf);(repeat' ((first|refine Nd ?_|refine Hv fun _h=>?_);conv=>whnf)))
  refine CallP.auto Qj5 (QjV b.next b.cut 6 (by decide) (by decide) (by omega) (by omega) (by omega) (by omega) ) ?_
  ((conv=>whnf);(repeat' ((first|refine Nd ?_|refine Hv fun _h=>?_);conv=>whnf)))
  have hg0 : ∀ (t : List C) (j : Nat), j < 5 → Qaf 5 (C.int .i64 4 :: C.int .i64 b.ents.length :: C.int .i64 b.seq :: C.int .i64 0 :: C.str (putS b.next 6 ++ putS b.cut 6) :: t) 0 j = Qaz (Qbk b.seq b.next b.cut b.ents) j := fun t j hj => by
   match j, hj with
   | 0, _ => rfl
   | 1, _ => rfl
   | 2, _ => rfl
   | 3, _ => rfl
   | 4, _ => rfl
  refine CallE.autoI [] Qr1 (QqU (Qbk b.seq b.next b.cut b.ents) _ _ (hg0 _)) plh ?_; conv=>whnf
  ((conv=>whnf);(repeat' ((first|refine Nd ?_|refine Hv fun _h=>?_);conv=>whnf)))
  refine Lp.mkK hΓ (ι := Nat) [1, 5, 29, 30] (fun k => [(6, .c (.sl 1 5 (k + 1) (k + 1) false)), (31, .c (.int .i64 k))]) (fun k => [.vr b.cells, .arr 50 5 (k + 1) (recG (Qbk b.seq b.next b.cut b.ents :: (b.ents.take k).map QbB))]) (fun k => k ≤ b.ents.length) (fun k => b.ents.length - k) 0 (Nat.zero_le _) ?_ ?_
  ·exact Mv.k0
  ·intro k hk
   have hlk : (Qbk b.seq b.next b.cut b.ents :: (b.ents.take k).map QbB).length = k + 1 := by simp; omega
   ((conv=>whnf);(repeat' ((first|refine Nd ?_|refine Hv fun _h=>?_);conv=>whnf)))
   refine Br.of (fun h4=>?_) (fun h4=>?_)<;>(try simp only [Int.toNat_natCast] at h4)<;>(conv=>whnf)
   ·((conv=>whnf);(repeat' ((first|refine Nd ?_|refine Hv fun _h=>?_);conv=>whnf)))
    have he := Qgp (QdM h3 k (by omega))
    have w0 := Qa (↑k + 1) (by omega) (by omega)
    have p3 := Qn (b.ents.getD k default).zone 2
    have p4 := Qn (b.ents.getD k default).offset 2
    refine Dr.mkE hΓ hMix [4294967296, 154] [] (by kernel_rfl) ?_; conv=>whnf
    ((conv=>whnf);(repeat' ((first|refine Nd ?_|refine Hv fun _h=>?_);conv=>whnf)))
    rw [show b.ents.getD (k : Int).toNat default = b.ents.getD k default from rfl]
    refine CallP.auto Qj5 (QjV (b.ents.getD k default).zone (b.ents.getD k default).offset 2 (by decide) (by decide) (by omega) (by omega) (by omega) (by omega) ) ?_
    ((conv=>whnf);(repeat' ((first|refine Nd ?_|refine Hv fun _h=>?_);conv=>whnf)))
    refine CallE.autoI [1] Qgo (QgP (Qbk b.seq b.next b.cut b.ents :: (b.ents.take k).map QbB) (QbB (b.ents.getD k default)) (k + 1) hlk.symm (by omega) _ _ (fun j hj => match j, hj with | 0, _ => rfl | 1, _ => rfl | 2, _ => rfl | 3, _ => rfl | 4, _ => rfl)) plh ?_; conv=>whnf
    ((conv=>whnf);(repeat' ((first|refine Nd ?_|refine Hv fun _h=>?_);conv=>whnf)))
    refine ⟨k + 1, by omega, by omega, ?_⟩
    rw [Q1 b.ents (by omega), List.map_append]
    exact Mv.k0
   ·((conv=>whnf);(repeat' ((first|refine Nd ?_|refine Hv fun _h=>?_);conv=>whnf)))
    have : k = b.ents.length := by omega
    subst this
    rw [List.take_length] at *
    refine Dr.mkE hΓ hMix [4294967296, 175, 154] [(0, 5), (1, 5), (2, 5), (3, 5)] (by kernel_rfl) ?_; conv=>whnf
    ((conv=>whnf);(repeat' ((first|refine Nd ?_|refine Hv fun _h=>?_);conv=>whnf)))
    refine CallE.autoI [1] QnJ (QnO (Qbk b.seq b.next b.cut b.ents :: List.map QbB b.ents) (b.ents.length + 1) hlk.symm (by omega)) plh ?_; conv=>whnf
    ((conv=>whnf);(repeat' ((first|refine Nd ?_|refine Hv fun _h=>?_);conv=>whnf)))
    refine CallE.autoI [1] Qgo (QgP (Qbk b.seq b.next b.cut b.ents :: List.map QbB b.ents) ⟨6, b.ents.length, b.seq, 0, QcS (Qbz b.seq b.next b.cut b.ents)⟩ (b.ents.length + 1) hlk.symm (by omega) _ _ (fun j hj => match j, hj with | 0, _ => rfl | 1, _ => rfl | 2, _ => rfl | 3, _ => rfl | 4, _ => rfl)) plh ?_; conv=>whnf
    ((conv=>whnf);(repeat' ((first|refine Nd ?_|refine Hv fun _h=>?_);conv=>whnf)))
    rw [h0, show QaO b.seq b.next b.cut b.ents = Qbz b.seq b.next b.cut b.ents ++ [⟨6, b.ents.length, b.seq, 0, QcS (Qbz b.seq b.next b.cut b.ents)⟩] from if_pos h0]
    exact RM.allT (FwT.consC (Fw.slP rfl rfl (by simp [Qbz]) (fun _ _ _ _ => rfl) (fun i j => Qai _ _)) (FwT.consC (Fw.same rfl) FwT.nil))
 ·refine Br.yes (by simpa using h0) ?_
  ((conv=>whnf);(repeat' ((first|refine Nd ?_|refine Hv fun _h=>?_);conv=>whnf)))
  rw [show QaO b.seq b.next b.cut b.ents = [] from if_neg h0]
  exact RM.i0
theorem QlS : HB 155 := hB Tryz.func155
theorem QsK {seq next cut : Int} {l : List Ent} (h : QE seq next cut l = 0) : QaO seq next cut l = Qbk seq next cut l :: (l.map QbB ++ [⟨6, l.length, seq, 0, QcS (Qbz seq next cut l)⟩]) := by
 unfold QaO
 rw [if_pos h]
 rfl
theorem Qhs {seq next cut : Int} {l : List Ent} (h : QE seq next cut l = 0) : (QaO seq next cut l).length = l.length + 2 ∧ ((QaO seq next cut l).getD 0 default).payload.size = 12 ∧ ∀ k, k < l.length → ((QaO seq next cut l).getD (k + 1) default).payload.size = 4 := by
 rw [QsK h]
 refine ⟨by simp, ?_, fun k hk => ?_⟩
 ·show (putS next 6 ++ putS cut 6).size = 12
  rw [ByteArray.size_append, Qn, Qn]
 ·have : (Qbk seq next cut l :: (l.map QbB ++ [⟨6, l.length, seq, 0, QcS (Qbz seq next cut l)⟩])).getD (k + 1) default = QbB l[k] := by
   simp [List.getD, hk, List.getElem?_append_left]
  rw [this]
  show (putS _ 2 ++ putS _ 2).size = 4
  rw [ByteArray.size_append, Qn, Qn]
theorem QoC {l : List Rec} (h : 2 ≤ l.length) : (Qx l).ents.length = l.length - 2 := by
 show ((midL l).map entD).length = _
 unfold midL
 rw [List.length_map, List.length_take, List.length_drop]
 omega
theorem QeE {l : List Rec} (h : QaH l = 0) : 2 ≤ l.length ∧ l.length ≤ 130 ∧ (l.getD 0 default).payload.size = 12 ∧ ∀ k, k + 2 < l.length → (l.getD (k + 1) default).payload.size = 4 := by
 unfold QaH at h
 split at h
 ·rename_i hh
  obtain ⟨h1, h2, h3⟩ := hh
  obtain ⟨s1, s2, s3⟩ := Qhs h2
  obtain ⟨_, b2, _⟩ := QcN h2
  rw [QoC h1] at *
  rw [← h3] at s2 s3
  exact ⟨h1, by omega, s2, fun k hk => s3 k (by omega)⟩
 ·cases h
set_option maxHeartbeats 4000000 in
theorem Ql5 (l : List Rec) (hl : l.length ≤ 100000) (hp : ∀ i, (l.getD i default).payload.size ≤ 1000) : PS 119 [.c (Qb9 l)] (.t [.inr (Qag l).cells, .inl (.int .i64 (QaH l))]) := by
 have hsh : QaH l ≠ 0 → QaH l = 3 ∧ Qag l = default := fun h => by
  have e : QaH l = 3 := by
   unfold QaH at *
   split
   ·rename_i q; rw [if_pos q] at h; exact absurd rfl h
   ·rfl
  exact ⟨e, if_neg h⟩
 refine PSpec.rm ?_
 refine ov hΓ Tryz.func119 121 0 [.cell 2 57, .tmp 3] Tryz.ntmps119 Tryz.results119 ?_
 ((conv=>whnf);(repeat' ((first|refine Nd ?_|refine Hv fun _h=>?_);conv=>whnf)))
 rw [show (l.getD (Int.toNat 0) default) = l.getD 0 default from rfl]
 have h0 := hp 0
 have w9 : IntKind.i64.wrap ((l.length : Int) - 1) = (l.length : Int) - 1 := Qa _ (by omega) (by omega)
 by_cases c1 : 2 ≤ l.length ∧ l.length ≤ 130 ∧ (l.getD 0 default).payload.size = 12
 ·refine Br.no (Bool.eq_false_iff.2 fun q => by simp [-List.getD_eq_getElem?_getD] at q; omega) ?_
  ((conv=>whnf);(repeat' ((first|refine Nd ?_|refine Hv fun _h=>?_);conv=>whnf)))
  obtain ⟨h, hl2, hp0⟩ := c1
  refine CallN.pureA Qce (Qcg (l.getD 0 default).payload 0 6 (by decide) (by decide) (by decide) (by omega) ) ?_
  ((conv=>whnf);(repeat' ((first|refine Nd ?_|refine Hv fun _h=>?_);conv=>whnf)))
  refine CallN.pureA Qce (Qcg (l.getD 0 default).payload 6 6 (by decide) (by decide) (by decide) (by omega) ) ?_
  ((conv=>whnf);(repeat' ((first|refine Nd ?_|refine Hv fun _h=>?_);conv=>whnf)))
  have hml : (QbG l (l.length - 2)).length = l.length - 2 := Qd3 (by omega)
  have hraw : (Qx l).ents = QbG l (l.length - 2) := rfl
  have hrl := QoC h
  rw [show (IntKind.i64.wrap ((l.length : Int) - 1)).toNat - Int.toNat 1 = l.length - 2 by rw [w9]; omega]
  refine Lp.mkK hΓ (ι := Nat) [0, 2, 4, 5, 56, 57] (fun k => [(58, .c (.int .i64 k))]) (fun k => [.vr (default : Bas).cells, .vr [.int .i64 (l.getD 0 default).version, .int .i64 (getS (l.getD 0 default).payload 0 6), .int .i64 (getS (l.getD 0 default).payload 6 6), .sl 2 6 k k false], .arr 67 6 k (entG (QbG l k))]) (fun k => k + 2 ≤ l.length) (fun k => l.length - k) 0 (by omega) ?_ ?_
  ·refine (Mv.reserveO 1 3 67 6 (entG []) rfl rfl rfl rfl).trans ?_
   exact Mv.k0
  ·intro k hk
   have w0 := Qa ((k : Int) + 1) (by omega) (by omega)
   ((conv=>whnf);(repeat' ((first|refine Nd ?_|refine Hv fun _h=>?_);conv=>whnf)))
   refine Br.of (fun h1=>?_) (fun h1=>?_)<;>(try simp only [Int.toNat_natCast] at h1)<;>(conv=>whnf)
   ·((conv=>whnf);(repeat' ((first|refine Nd ?_|refine Hv fun _h=>?_);conv=>whnf)))
    have hk2 : k + 2 < l.length := by omega
    have hpk := hp (k + 1)
    rw [show l.getD (Int.toNat 1 + (k : Int).toNat) default = l.getD (k + 1) default by rw [Int.toNat_natCast, Nat.add_comm]; rfl]
    by_cases c2 : (l.getD (k + 1) default).payload.size = 4
    ·refine Br.no (by rw [c2]; rfl) ?_
     ((conv=>whnf);(repeat' ((first|refine Nd ?_|refine Hv fun _h=>?_);conv=>whnf)))
     refine CallN.pureA Qce (Qcg (l.getD (k + 1) default).payload 0 2 (by decide) (by decide) (by decide) (by omega) ) ?_
     ((conv=>whnf);(repeat' ((first|refine Nd ?_|refine Hv fun _h=>?_);conv=>whnf)))
     refine CallN.pureA Qce (Qcg (l.getD (k + 1) default).payload 2 2 (by decide) (by decide) (by decide) (by omega) ) ?_
     ((conv=>whnf);(repeat' ((first|refine Nd ?_|refine Hv fun _h=>?_);conv=>whnf)))
     refine ⟨k + 1, by omega, by omega, ?_⟩
     rw [Qmz (by omega)]
     refine Mv.k1 ?_
     exact fun i hi j hj => WC.eq (QhU (x := entD (l.getD (k + 1) default)) (Qd3 (by omega)).symm (by rw [Qd3 (by omega)]; exact hi) hj) (QF _ _)
    ·refine Br.yes (by simp [-List.getD_eq_getElem?_getD]; omega) ?_
     ((conv=>whnf);(repeat' ((first|refine Nd ?_|refine Hv fun _h=>?_);conv=>whnf)))
     obtain ⟨e1, e2⟩ := hsh fun e => c2 ((QeE e).2.2.2 k hk2)
     rw [e1, e2]
     exact RM.i0
   ·((conv=>whnf);(repeat' ((first|refine Nd ?_|refine Hv fun _h=>?_);conv=>whnf)))
    have hk2 : k = l.length - 2 := by omega
    subst hk2
    refine CallN.fzK 2 [0, 2, 3, 4, 5] [] [.vr (default : Bas).cells, .vr [.int .i64 (l.getD 0 default).version, .int .i64 (getS (l.getD 0 default).payload 0 6), .int .i64 (getS (l.getD 0 default).payload 6 6), QR (QbG l (l.length - 2))], .dead] [.a [.int .i64 (l.getD 0 default).version, .int .i64 (getS (l.getD 0 default).payload 0 6), .int .i64 (getS (l.getD 0 default).payload 6 6), QR (QbG l (l.length - 2))]] rfl leN (fun i _ j _ => QF _ _) wb0 wb0 wb0 leN ?_
    have hen := Qju (Qx l).seq (Qx l).next (Qx l).cut (Qx l).ents
    refine CallN.pureA QlS (Qmw (Qx l) (by omega) ) ?_
    ((conv=>whnf);(repeat' ((first|refine Nd ?_|refine Hv fun _h=>?_);conv=>whnf)))
    by_cases c2 : QE (Qx l).seq (Qx l).next (Qx l).cut (Qx l).ents = 0
    ·refine Br.no (by simpa using c2) ?_
     ((conv=>whnf);(repeat' ((first|refine Nd ?_|refine Hv fun _h=>?_);conv=>whnf)))
     have hsl := (Qhs c2).1
     generalize hA : QaO (Qx l).seq (Qx l).next (Qx l).cut (Qx l).ents = A at *
     have hlA : l.length = A.length := by omega
     refine Lp.mkK hΓ (ι := Nat) [0, 2, 5, 105, 106] (fun k => [(107, .c (.int .i64 k))]) (fun k => [.vr (default : Bas).cells, .vr [.int .i64 (l.getD 0 default).version, .int .i64 (getS (l.getD 0 default).payload 0 6), .int .i64 (getS (l.getD 0 default).payload 6 6), QR (QbG l (l.length - 2))], .dead]) (fun k => k ≤ A.length ∧ ∀ j, j < k → l.getD j default = A.getD j default) (fun k => A.length - k) 0 ⟨Nat.zero_le _, fun i hi => absurd hi (Nat.not_lt_zero _)⟩ ?_ ?_
     ·exact Mv.k0
     ·rintro k ⟨hk3, hk4⟩
      ((conv=>whnf);(repeat' ((first|refine Nd ?_|refine Hv fun _h=>?_);conv=>whnf)))
      refine Br.of (fun h5=>?_) (fun h5=>?_)<;>(try simp only [Int.toNat_natCast] at h5)<;>(conv=>whnf)
      ·((conv=>whnf);(repeat' ((first|refine Nd ?_|refine Hv fun _h=>?_);conv=>whnf)))
       have w1 := Qa ((k : Int) + 1) (by omega) (by omega)
       refine Dr.mk hΓ hMix (by kernel_rfl) ?_; conv=>whnf
       ((conv=>whnf);(repeat' ((first|refine Nd ?_|refine Hv fun _h=>?_);conv=>whnf)))
       by_cases c3 : l.getD k default = A.getD k default
       ·refine Br.no (rec_cond.trans (by show (!decide (A.getD k default = l.getD k default)) = false; rw [decide_eq_true c3.symm]; rfl)) ?_
        ((conv=>whnf);(repeat' ((first|refine Nd ?_|refine Hv fun _h=>?_);conv=>whnf)))
        refine ⟨k + 1, ⟨by omega, fun j hj => ?_⟩, by omega, ?_⟩
        ·rcases Nat.lt_succ_iff_lt_or_eq.1 hj with q | rfl
         ·exact hk4 j q
         ·exact c3
        ·exact Mv.k0
       ·refine Br.yes (rec_cond.trans (by show (!decide (A.getD k default = l.getD k default)) = true; rw [decide_eq_false (fun e => c3 e.symm)]; rfl)) ?_
        ((conv=>whnf);(repeat' ((first|refine Nd ?_|refine Hv fun _h=>?_);conv=>whnf)))
        obtain ⟨e1, e2⟩ := hsh fun e => c3 (by
         unfold QaH at e
         split at e
         ·rename_i q
          rw [hA] at q
          rw [← q.2.2]
         ·cases e)
        rw [e1, e2]
        exact RM.i0
      ·((conv=>whnf);(repeat' ((first|refine Nd ?_|refine Hv fun _h=>?_);conv=>whnf)))
       have : k = A.length := by omega
       subst this
       have e : QaH l = 0 := if_pos ⟨h, c2, by rw [hA]; exact Qcq hlA (by rw [hlA]; exact hk4)⟩
       rw [show Qag l = Qx l from if_pos e, e]
       exact RM.i0
    ·refine Br.yes (by simpa using c2) ?_
     ((conv=>whnf);(repeat' ((first|refine Nd ?_|refine Hv fun _h=>?_);conv=>whnf)))
     obtain ⟨e1, e2⟩ := hsh fun e => c2 (by
      unfold QaH at e
      split at e
      ·rename_i q; exact q.2.1
      ·cases e)
     rw [e1, e2]
     exact RM.i0
 ·refine Br.yes (Decidable.byContradiction fun q => c1 (by simp [-List.getD_eq_getElem?_getD] at q; omega)) ?_
  ((conv=>whnf);(repeat' ((first|refine Nd ?_|refine Hv fun _h=>?_);conv=>whnf)))
  obtain ⟨e1, e2⟩ := hsh fun e => c1 ⟨(QeE e).1, (QeE e).2.1, (QeE e).2.2.1⟩
  rw [e1, e2]
  exact RM.i0
theorem Qmq : HB 119 := hB Tryz.func119
end Go.Proofs
end
