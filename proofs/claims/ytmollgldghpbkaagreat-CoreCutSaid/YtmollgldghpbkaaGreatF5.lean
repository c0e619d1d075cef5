/- Contracts, lemmas; no condition. -/
import Derived.Test.YtmollgldghpbkaaGreatF2
import Derived.Test.YtmollgldghpbkaaGreatSrtA
set_option linter.all false
open Go Go.Am
namespace Go.Proofs
set_option maxRecDepth 20000
def Qak (m : List (List Ent)) (i k : Nat) : List Ent := (QaN m i ++ (m.getD i default).take k).foldl insE []
theorem Qja (m : List (List Ent)) (i : Nat) : Qak m i 0 = (QaN m i).foldl insE [] := by simp [Qak]
theorem Qi8 {m : List (List Ent)} {i k : Nat} (hk : k < (m.getD i default).length) : Qak m i (k + 1) = insE (Qak m i k) ((m.getD i default).getD k default) := by
 unfold Qak
 rw [QaJ _ hk, ← List.append_assoc, List.foldl_append]
 rfl
theorem Qru {m : List (List Ent)} {i : Nat} (hi : i < m.length) : Qak m i (m.getD i default).length = Qak m (i + 1) 0 := by
 rw [Qja, Qc0 hi]
 unfold Qak
 rw [List.take_length]
theorem QrQ (m : List (List Ent)) : Qak m m.length 0 = allM m := by rw [Qja, Qex]; rfl
theorem Qkc (l : List Ent) : ∀ out : List Ent, (l.foldl insE out).length = out.length + l.length := by
 induction l with
 | nil => intro out; rfl
 | cons x l ih => intro out; simp only [List.foldl_cons, ih, Qm4, List.length_cons]; omega
theorem QrS {m : List (List Ent)} {i k : Nat} (hm : m.length ≤ 8) (hs : ∀ i, (m.getD i default).length ≤ 1000000) (hi : i ≤ m.length) : (Qak m i k).length ≤ 9000000 := by
 unfold Qak
 rw [Qkc, List.length_append, List.length_take]
 have := Qcg hi hs
 have := hs i
 simp only [List.length_nil]
 omega
theorem QsI {l : List Ent} {b : Int} {a n : Nat} (hn : n ≤ l.length) (h : Qbe l b n = Qbe l b a) (ha : 0 < a) (h2 : b < (l.getD (a - 1) default).block) : Qbe l b n = Qbe l b (a - 1) := by
 rw [h]
 obtain ⟨a', rfl⟩ : ∃ a', a = a' + 1 := ⟨a - 1, by omega⟩
 simp only [Nat.add_sub_cancel] at h2 ⊢
 exact if_pos h2
theorem Qsc {l : List Ent} {b : Int} {a : Nat} (h : ¬ (0 < a ∧ b < (l.getD (a - 1) default).block)) : Qbe l b a = a := by
 cases a with
 | zero => rfl
 | succ a =>
  unfold Qbe
  rw [if_neg]
  intro c
  exact h ⟨by omega, by simpa using c⟩
theorem QpT {a b : List Ent} {i : Nat} (h : i < a.length) : (a ++ b).getD i default = a.getD i default := by
 simp only [List.getD, List.getElem?_append_left h]
theorem QjA {a b : List Ent} {i : Nat} (h : a.length ≤ i) : (a ++ b).getD i default = b.getD (i - a.length) default := by
 simp only [List.getD, List.getElem?_append_right h]
theorem Qvj {l : List Ent} {x : Ent} {at_ n : Nat} {t : List C} {g0 : Nat → Nat → C} (hn : n = l.length) (ha : at_ ≤ n) (hs : Qbe l x.block l.length = at_) {i j : Nat} (hi : i < l.length + 1) (hj : j < 6) :
  cutG (cutG (entG l) at_ 1 (QaC 6 (.int .i64 x.block :: .int .i64 x.kind :: .int .i64 x.version :: .int .i64 x.move :: .int .i64 x.zone :: .int .i64 x.offset :: t))) (at_ + 1) (0 + (n - at_)) (appG g0 0 (fun i j => entG l (at_ + i) j)) i j = entG (insE l x) i j := by
 subst hn
 rw [Nat.zero_add]
 unfold cutG appG insE
 rw [hs]
 have e : entG (l.take at_ ++ x :: l.drop at_) i j = ((l.take at_ ++ x :: l.drop at_).getD i default).cell j := rfl
 rw [e]
 have hlt : (l.take at_).length = at_ := by rw [List.length_take]; omega
 by_cases c1 : i < at_
 ·rw [if_pos (by omega), if_pos c1]
  rw [QpT (by rw [hlt]; exact c1)]
  show (l.getD i default).cell j = _
  congr 1
  simp [List.getD, c1]
 ·by_cases c2 : i = at_
  ·subst c2
   rw [if_pos (by omega), if_neg (by omega), if_pos (by omega)]
   rw [QjA (by rw [hlt]; exact Nat.le_refl _), hlt, Nat.sub_self]
   match j, hj with
   | 0, _ => rfl
   | 1, _ => rfl
   | 2, _ => rfl
   | 3, _ => rfl
   | 4, _ => rfl
   | 5, _ => rfl
  ·rw [if_neg (by omega), if_pos (by omega), if_neg (by omega)]
   rw [QjA (by rw [hlt]; omega), hlt]
   show (l.getD (at_ + (i - (at_ + 1) - 0)) default).cell j = _
   congr 1
   obtain ⟨q, hq⟩ : ∃ q, i = at_ + 1 + q := ⟨i - at_ - 1, by omega⟩
   subst hq
   rw [show at_ + 1 + q - at_ = q + 1 by omega, show at_ + (at_ + 1 + q - (at_ + 1) - 0) = at_ + q by omega]
   simp [List.getD]
set_option maxHeartbeats 4000000 in
theorem Qd7 (m : List (List Ent)) (hs : ∀ i, (m.getD i default).length ≤ 1000000) (hml : m.length ≤ 1000000) : PSpec Tryz.prog 105 [.a [QH m]] (.c (Qaw (allS m))) := by
 refine PSpec.rm ?_
 refine ov hΓ Tryz.func105 73 0 [.tmp 2] Tryz.ntmps105 Tryz.results105 ?_
 refine Go0 ?_
 refine CallN.pureA Qc9 (Qc4 m hml hs ) ?_
 refine Go0 ?_
 by_cases h : Qu m = true
 ·refine Br.no (by rw [h]; rfl) ?_
  refine Go0 ?_
  have hm := Qbp h
  rw [show allS m = allM m from if_pos h]
  refine Lp.reserve 47 6 (entG []) 3 rfl ?_
  refine Lp.mkK hΓ (ι := Nat) [1, 2] (fun i => [(4, .c (.int .i64 i)), (3, .c (.sl 1 6 (Qak m i 0).length (Qak m i 0).length false))]) (fun i => [.vr [QH m], .arr 47 6 (Qak m i 0).length (entG (Qak m i 0))]) (fun k => k ≤ m.length) (fun i => m.length - i) 0 (Nat.zero_le _) ?_ ?_
  ·exact Mv.k0
  ·intro k hk
   have hsk := hs k
   refine Go1 fun _h=>?_
   refine Br.of (fun h1=>?_) (fun h1=>?_)<;>(try simp only [Int.toNat_natCast] at h1)<;>(conv=>whnf)
   ·refine Go0 ?_
    refine Lp.mkK hΓ (ι := Nat) [1, 2, 4] (fun q => [(5, .c (.int .i64 q)), (3, .c (.sl 1 6 (Qak m k q).length (Qak m k q).length false))]) (fun q => [.vr [QH m], .arr 47 6 (Qak m k q).length (entG (Qak m k q))]) (fun q => q ≤ (m.getD k default).length) (fun q => (m.getD k default).length - q) 0 (Nat.zero_le _) ?_ ?_
    ·exact Mv.k0
    ·intro q hq
     have hlq := QrS (k := q) hm.2 hs hk
     refine Go1 fun _h=>?_
     have e0 : (k : Int).toNat = k := rfl
     refine Br.of (fun h2=>?_) (fun h2=>?_)<;>(try simp only [Int.toNat_natCast] at h2)<;>(conv=>whnf)
     ·refine Go0 ?_
      refine Lp.mkK hΓ (ι := Nat) [1, 2, 3, 4, 5] (fun a => [(6, .c (.int .i64 a))]) (fun _ => [.vr [QH m], .arr 47 6 (Qak m k q).length (entG (Qak m k q))]) (fun a => a ≤ (Qak m k q).length ∧ Qbe (Qak m k q) ((m.getD k default).getD q default).block (Qak m k q).length = Qbe (Qak m k q) ((m.getD k default).getD q default).block a) (fun a => a) (Qak m k q).length ⟨Nat.le_refl _, rfl⟩ ?_ ?_
      ·exact Mv.k0
      ·rintro a ⟨ha, ha2⟩
       refine Go0 ?_
       refine Dr.mk hΓ hMix (by kernel_rfl) ?_; conv=>whnf
       have hw : IntKind.i64.wrap (↑a - 1) = ↑a - 1 := Qa _ (by omega) (by omega)
       refine Go0 ?_
       refine Frc.mk (.c (.int .i64 ((Qak m k q).getD (IntKind.i64.wrap (↑a - 1)).toNat default).block)) rfl ?_
       refine Go0 ?_
       have hp : 0 < a → (IntKind.i64.wrap (↑a - 1)).toNat = a - 1 := fun h0 => by rw [hw]; omega
       by_cases c : 0 < a ∧ ((m.getD k default).getD q default).block < ((Qak m k q).getD (a - 1) default).block
       ·refine Br.yes (by rw [hp c.1]; simp [-List.getD_eq_getElem?_getD, c.1, c.2]) ?_
        refine Go0 ?_
        refine ⟨a - 1, ⟨by omega, QsI (Nat.le_refl _) ha2 c.1 c.2⟩, by omega, ?_⟩
        exact Mv.k0
       ·refine Br.no (Bool.eq_false_iff.2 fun e => c (by
         by_cases c0 : 0 < a
         ·rw [hp c0] at e
          simp [-List.getD_eq_getElem?_getD] at e
          exact e
         ·have : a = 0 := by omega
          subst this
          simp at e)) ?_
        refine Go0 ?_
        have hst := Qsc c
        have hle : a ≤ (Qak m k q).length := ha
        have hqb : q < (m.getD k default).length := by omega
        refine Dr.mkE hΓ hMix [4294967297] [(13, 12)] (by kernel_rfl) ?_; conv=>whnf
        refine Go0 ?_
        have w0 := Qa (↑q + 1) (by omega) (by omega)
        refine ⟨q + 1, by omega, by omega, ?_⟩
        have hln : (Qak m k (q + 1)).length = (Qak m k q).length + 1 := by rw [Qi8 hqb, Qm4]
        refine Mv.k1 ?_
        intro i hi j hj
        exact WC.eq ((Qvj (x := (m.getD k default).getD q default) rfl hle (ha2.trans hst) (by omega) hj).trans (by rw [Qi8 hqb])) (Qao _ _)
     ·refine Go0 ?_
      have w0 := Qa (↑k + 1) (by omega) (by omega)
      have : q = (m.getD k default).length := by omega
      subst this
      refine ⟨k + 1, by omega, by omega, ?_⟩
      rw [Qru (by omega)]
      exact Mv.k0
   ·refine Go0 ?_
    have : k = m.length := by omega
    subst this
    rw [QrQ]
    exact RM.allC (Fw.slP rfl rfl rfl (fun _ _ _ _ => rfl) (fun _ _ => Qao _ _))
 ·refine Br.yes (by rw [Qg h]; rfl) ?_
  refine Go0 ?_
  rw [show allS m = [] from if_neg h]
  exact RM.i0
theorem Qeg : HasBody Tryz.prog 105 := hB Tryz.func105
end Go.Proofs





