/- Contracts, lemmas; no condition. -/
import Derived.Test.YtmollgldghpbkaaGreatStBV
import Derived.Test.YtmollgldghpbkaaGreatF1V
set_option linter.all false
section
open Go Go.Am
namespace Go.Proofs
set_option maxRecDepth 20000
theorem Gz.rings4 {s : St} (h : Gz s) : s.rings.length ≤ 4 ∧ (s.rings.length : Int) = s.cfg.queues ∧ (s.works.length : Int) = s.cfg.queues ∧ 1 ≤ s.cfg.queues := by
 have h1 := h.val.parts.rings
 have h2 := h.val.parts.works
 have h3 := confR_iff.1 (Qv h.val.parts.cfg).1
 omega
def Qwd (s : St) (q : Int) (x : Req) : List Evt := s.evs ++ [QN false q { x with serial := s.serial } 0 ByteArray.empty] ++ [QN true q { x with serial := s.serial } 12 ByteArray.empty]
def Qv7 (s : St) (q : Int) (x : Req) : St := { s with serial := s.serial + 1, evs := Qwd s q x }
def Qtl (s : St) (q : Int) : Wrk := s.works.getD q.toNat default
def inQ (s : St) (q : Int) : Bool := Qz s && decide (0 ≤ q ∧ q < s.works.length)
def Qnb (s : St) (q : Int) : Bool := inQ s q && (decide ((Qtl s q).state = 10) && (Qcu s.evs).any fun n => decide (n < (Qtl s q).req.serial))
def barS (s : St) (q : Int) : St × Int :=
 if inQ s q = true ∧ ((Qtl s q).state = 10 ∨ (Qtl s q).state = 11) then
  if Qnb s q = true then (s, 15)
  else if (Qtl s q).state = 10 then (s.setWork q.toNat { Qtl s q with state := 11 }, 0)
  else ((QdM { s with dev := Qbn s.dev } q 0 ByteArray.empty).1, 0)
 else (s, 6)
theorem inQ_iff {s : St} {q : Int} : inQ s q = true ↔ Qz s = true ∧ 0 ≤ q ∧ q < s.works.length := by
 unfold inQ
 rw [Bool.and_eq_true, decide_eq_true_eq]
theorem Qxj {l : List Int} {n : Int} {k : Nat} (h : ∀ i, i < k → ¬ l.getD i default < n) (hk : k = l.length) : (l.any fun x => decide (x < n)) = false := by
 rw [List.any_eq_false]
 intro x hx
 obtain ⟨i, hi, rfl⟩ := List.getElem_of_mem hx
 have := h i om
 rw [Qp _ _ hi] at this
 simpa using this
theorem Qxs {l : List Int} {n : Int} {k : Nat} (hk : k < l.length) (h : l.getD k default < n) : (l.any fun x => decide (x < n)) = true := by
 rw [List.any_eq_true]
 exact ⟨l.getD k default, by rw [Qp _ _ hk]; exact List.getElem_mem hk, decide_eq_true h⟩
theorem Qwj {l : List Evt} (h : Inc l) : ∀ k, k ≤ l.length → (Qab l k).Pairwise (· < ·) ∧ ∀ x ∈ Qab l k, ∃ i, i < k ∧ (l.getD i default).ret = false ∧ (l.getD i default).serial = x ∧ Q7 l x = false
 | 0, _ => ⟨List.Pairwise.nil, fun x hx => by cases hx⟩
 | k + 1, hk => by
  obtain ⟨h1, h2⟩ := Qwj h k om
  simp only [Qab]
  split
  ·rename_i c
   refine ⟨?_, fun x hx => ?_⟩
   ·rw [List.pairwise_append]
    refine ⟨h1, List.pairwise_singleton _ _, fun a ha b hb => ?_⟩
    obtain ⟨i, i1, i2, i3, _⟩ := h2 a ha
    rw [List.mem_singleton] at hb
    subst hb
    rw [← i3]
    exact h i k i1 om i2 c.1
   ·rcases List.mem_append.1 hx with hx | hx
    ·obtain ⟨i, i1, i2, i3, i4⟩ := h2 x hx
     exact ⟨i, om, i2, i3, i4⟩
    ·rw [List.mem_singleton] at hx
     subst hx
     exact ⟨k, om, c.1, rfl, c.2.1⟩
  ·refine ⟨h1, fun x hx => ?_⟩
   obtain ⟨i, i1, i2, i3, i4⟩ := h2 x hx
   exact ⟨i, om, i2, i3, i4⟩
theorem Qwt {l : List Evt} {n : Int} (ha : Q7 l n = false) : ∀ k, k ≤ l.length → (Q4 (l.take k) n = true ↔ n ∈ Qab l k)
 | 0, _ => by simp [Q4, Qab]
 | k + 1, hk => by
  have ih := Qwt ha k om
  have e : Q4 (l.take (k + 1)) n = (Q4 (l.take k) n || (!(l.getD k default).ret && decide ((l.getD k default).serial = n))) := by
   unfold Q4
   rw [QaJ l om, List.any_append]
   simp
  rw [e]
  simp only [Qab]
  split
  ·rename_i c
   rw [List.mem_append, List.mem_singleton, ← ih]
   simp only [Bool.or_eq_true, Bool.and_eq_true, Bool.not_eq_true', decide_eq_true_eq]
   exact ⟨fun z => z.imp id fun z => z.2.symm, fun z => z.imp id fun z => ⟨c.1, z.symm⟩⟩
  ·rename_i c
   rw [← ih]
   simp only [Bool.or_eq_true, Bool.and_eq_true, Bool.not_eq_true', decide_eq_true_eq]
   refine ⟨fun z => z.elim id fun z => ?_, Or.inl⟩
   cases q : Q4 (l.take k) n with
   | true => rfl
   | false => exact absurd ⟨z.1, by rw [z.2]; exact ha, by rw [z.2]; exact q⟩ c
theorem Gz.mem {s : St} (h : Gz s) {i : Nat} (hi : i < s.rings.length) (hs : (s.works.getD i default).state ≠ 0) : (s.works.getD i default).req.serial ∈ Qcu s.evs := by
 have hl := h.hist.works i hi hs
 have := (Qwt hl.ans s.evs.length (Nat.le_refl _)).1 (by rw [List.take_length]; exact hl.inv)
 exact this
theorem Gz.first {s : St} (h : Gz s) {n : Int} (hn : n ∈ Qcu s.evs) : 0 < (Qcu s.evs).length ∧ (Qcu s.evs).getD 0 default ≤ n ∧ ((Qcu s.evs).any fun x => decide (x < n)) = decide ((Qcu s.evs).getD 0 default < n) := by
 have hs := (Qwj h.inc s.evs.length (Nat.le_refl _)).1
 have hs : (Qcu s.evs).Pairwise (· < ·) := hs
 generalize Qcu s.evs = o at *
 have h0 : 0 < o.length := List.length_pos_of_mem hn
 have hmin : ∀ x ∈ o, o.getD 0 default ≤ x := fun x hx => by
  obtain ⟨i, hi, rfl⟩ := List.getElem_of_mem hx
  rw [Qp _ _ h0]
  by_cases c : i = 0
  ·subst c; exact Int.le_refl _
  ·have := List.pairwise_iff_getElem.1 hs 0 i h0 hi om
   omega
 refine ⟨h0, hmin n hn, ?_⟩
 rw [Bool.eq_iff_iff, List.any_eq_true, decide_eq_true_eq]
 constructor
 ·rintro ⟨x, hx, hxn⟩
  have := hmin x hx
  have := of_decide_eq_true hxn
  omega
 ·intro c
  exact ⟨o.getD 0 default, by rw [Qp _ _ h0]; exact List.getElem_mem h0, decide_eq_true c⟩
structure WaitOk (s : St) (i : Nat) : Prop where
 idx : i < s.works.length
 st : (s.works.getD i default).state = 10
def QjM (s : St) (i : Nat) : St := s.setWork i { s.works.getD i default with state := 11 }
def Qwu (s : St) (i : Nat) : St := (({ QjM s i with dev := Qbn s.dev } : St).addEv (QN true i (s.works.getD i default).req 0 ByteArray.empty)).setWork i default
theorem Qxh {s : St} (h : Gz s) {i : Nat} (hi : i < s.works.length) (h10 : (s.works.getD i default).state = 10) : Qnb s i = decide ((Qcu s.evs).getD 0 default < (s.works.getD i default).req.serial) ∧ barS s i = if Qnb s i = true then (s, 15) else (QjM s i, 0) := by
 have hv : Qz s = true := validS_V.2 h.val
 have hr := h.rings4
 have hQ : inQ s i = true := inQ_iff.2 ⟨hv, om, om⟩
 have hm := h.mem (i := i) om (by rw [h10]; decide)
 have hw : Qtl s i = s.works.getD i default := rfl
 refine ⟨?_, ?_⟩
 ·unfold Qnb
  rw [hQ, hw, decide_eq_true h10, (h.first hm).2.2]
  rfl
 ·unfold barS
  rw [if_pos ⟨hQ, by rw [hw]; exact Or.inl h10⟩]
  split
  ·rfl
  ·rw [hw, if_pos h10]
   rfl
theorem Qxk {s : St} (h : Gz s) {i : Nat} (hi : i < s.works.length) (h10 : (s.works.getD i default).state = 10) : Val (QjM s i) ∧ barS (QjM s i) i = (Qwu s i, 0) := by
 have hr := h.rings4
 have hq := h.val.queues i om
 have hw : Qas s.cfg { s.works.getD i default with state := 11 } = true := QiS hq.work rfl (Or.inr (Or.inl ⟨h10, rfl⟩))
 have hV : Val (QjM s i) := h.val.setWork hi hw (Or.inr (hq.req.resolve_left (by rw [h10]; decide)))
 have hv : Qz (QjM s i) = true := validS_V.2 hV
 have hl : (QjM s i).works.length = s.works.length := List.length_set
 have hg : (QjM s i).works.getD i default = { s.works.getD i default with state := 11 } := by
  unfold QjM St.setWork
  rw [Q1 hi, if_pos rfl]
 have hwa : Qtl (QjM s i) i = { s.works.getD i default with state := 11 } := hg
 have hQ : inQ (QjM s i) i = true := inQ_iff.2 ⟨hv, om, om⟩
 refine ⟨hV, ?_⟩
 unfold barS
 rw [if_pos ⟨hQ, by rw [hwa]; exact Or.inr rfl⟩]
 rw [if_neg (by unfold Qnb; rw [hQ, hwa]; simp)]
 rw [if_neg (by rw [hwa]; simp)]
 have hV2 : Qz { QjM s i with dev := Qbn (QjM s i).dev } = true := validS_V.2 hV.sync
 unfold QdM
 rw [if_pos ⟨hV2, om, by show (i : Int) < ((QjM s i).works.length : Int); omega, by show ((QjM s i).works.getD i default).state ≠ 0; rw [hg]; simp⟩]
 show ((({ QjM s i with dev := Qbn s.dev } : St).addEv (QN true i ((QjM s i).works.getD i default).req 0 ByteArray.empty)).setWork i default, (0 : Int)) = _
 rw [hg]
 rfl
theorem Val.all {s : St} (h : Val s) : Qu s.map = true → AllS s.map (allM s.map) := fun hm => by
 have hp := h.parts
 have hc := confR_iff.1 (Qv hp.cfg).1
 exact QpF hm (fun i => by have := QhA hp.map hp.blocks om i; omega) (fun i hi e he => by have := blocksIn_iff.1 hp.blocks i hi e he; omega)
def Qak (m : List (List Ent)) (i k : Nat) : List Ent := (QaN m i ++ (m.getD i default).take k).foldl insE []
theorem Qja (m : List (List Ent)) (i : Nat) : Qak m i 0 = (QaN m i).foldl insE [] := by simp [Qak]
theorem Qi8 {m : List (List Ent)} {i k : Nat} (hk : k < (m.getD i default).length) : Qak m i (k + 1) = insE (Qak m i k) ((m.getD i default).getD k default) := by
 unfold Qak
 rw [QaJ _ hk, ← List.append_assoc, List.foldl_append]
 rfl
theorem Qru {m : List (List Ent)} {i : Nat} (hi : i < m.length) : Qak m i (m.getD i default).length = Qak m (i + 1) 0 := by
 rw [Qja, Qc0 hi]
 unfold Qak
 rw [List.take_length]
theorem QrQ (m : List (List Ent)) : Qak m m.length 0 = allM m := by rw [Qja, Qex]; rfl
theorem Qkc (l : List Ent) : ∀ out : List Ent, (l.foldl insE out).length = out.length + l.length := by
 induction l with
 | nil => intro out; rfl
 | cons x l ih => intro out; simp only [List.foldl_cons, ih, Qm4, List.length_cons]; omega
theorem QrS {m : List (List Ent)} {i k : Nat} (hm : m.length ≤ 8) (hs : ∀ i, (m.getD i default).length ≤ 1000000) (hi : i ≤ m.length) : (Qak m i k).length ≤ 9000000 := by
 unfold Qak
 rw [Qkc, List.length_append, List.length_take]
 have := Qcg hi hs
 have := hs i
 simp only [List.length_nil]
 omega
theorem QsI {l : List Ent} {b : Int} {a n : Nat} (hn : n ≤ l.length) (h : Qbe l b n = Qbe l b a) (ha : 0 < a) (h2 : b < (l.getD (a - 1) default).block) : Qbe l b n = Qbe l b (a - 1) := by
 rw [h]
 obtain ⟨a', rfl⟩ : ∃ a', a = a' + 1 := ⟨a - 1, om⟩
 simp only [Nat.add_sub_cancel] at h2 ⊢
 exact if_pos h2
theorem Qsc {l : List Ent} {b : Int} {a : Nat} (h : ¬ (0 < a ∧ b < (l.getD (a - 1) default).block)) : Qbe l b a = a := by
 cases a with
 | zero => rfl
 | succ a =>
  unfold Qbe
  rw [if_neg]
  intro c
  exact h ⟨om, by simpa using c⟩
theorem QpT {a b : List Ent} {i : Nat} (h : i < a.length) : (a ++ b).getD i default = a.getD i default := by
 simp only [List.getD, List.getElem?_append_left h]
theorem QjA {a b : List Ent} {i : Nat} (h : a.length ≤ i) : (a ++ b).getD i default = b.getD (i - a.length) default := by
 simp only [List.getD, List.getElem?_append_right h]
theorem Qvj {l : List Ent} {x : Ent} {at_ n : Nat} {t : List C} {g0 : Nat → Nat → C} (hn : n = l.length) (ha : at_ ≤ n) (hs : Qbe l x.block l.length = at_) {i j : Nat} (hi : i < l.length + 1) (hj : j < 6) :
  cutG (cutG (entG l) at_ 1 (QaC 6 (.int .i64 x.block :: .int .i64 x.kind :: .int .i64 x.version :: .int .i64 x.move :: .int .i64 x.zone :: .int .i64 x.offset :: t))) (at_ + 1) (0 + (n - at_)) (appG g0 0 (fun i j => entG l (at_ + i) j)) i j = entG (insE l x) i j := by
 subst hn
 rw [Nat.zero_add]
 unfold cutG appG insE
 rw [hs]
 have e : entG (l.take at_ ++ x :: l.drop at_) i j = ((l.take at_ ++ x :: l.drop at_).getD i default).cell j := rfl
 rw [e]
 have hlt : (l.take at_).length = at_ := by rw [List.length_take]; omega
 by_cases c1 : i < at_
 ·rw [if_pos om, if_pos c1]
  rw [QpT (by rw [hlt]; exact c1)]
  show (l.getD i default).cell j = _
  congr 1
  simp [List.getD, c1]
 ·by_cases c2 : i = at_
  ·subst c2
   rw [if_pos om, if_neg om, if_pos om]
   rw [QjA (by rw [hlt]; exact Nat.le_refl _), hlt, Nat.sub_self]
   match j, hj with
   | 0, _ => rfl
   | 1, _ => rfl
   | 2, _ => rfl
   | 3, _ => rfl
   | 4, _ => rfl
   | 5, _ => rfl
  ·rw [if_neg om, if_pos om, if_neg om]
   rw [QjA (by rw [hlt]; omega), hlt]
   show (l.getD (at_ + (i - (at_ + 1) - 0)) default).cell j = _
   congr 1
   obtain ⟨q, hq⟩ : ∃ q, i = at_ + 1 + q := ⟨i - at_ - 1, om⟩
   subst hq
   rw [show at_ + 1 + q - at_ = q + 1 by omega, show at_ + (at_ + 1 + q - (at_ + 1) - 0) = at_ + q by omega]
   simp [List.getD]
set_option maxHeartbeats 4000000 in
theorem Qd7 (m : List (List Ent)) (hs : ∀ i, (m.getD i default).length ≤ 1000000) (hml : m.length ≤ 1000000) : PS 105 [.a [QH m]] (.c (Qaw (allS m))) := by
 refine PSpec.rm ?_
 refine ov0 hΓ Tryz.func105 73 0 [.tmp 2] Tryz.ntmps105 Tryz.results105 ?_
 refine CallN.pureA Qc9 (Qc4 m hml hs ) (Go0 ?_)
 by_cases h : Qu m = true
 ·refine Br.no (by rw [h]; rfl) (Go0 ?_)
  have hm := Qbp h
  rw [show allS m = allM m from if_pos h]
  refine Lp.reserve 47 6 (entG []) 3 rfl ?_
  refine Lp.mkK hΓ (ι := Nat) [1, 2] (fun i => [(4, .c (.int .i64 i)), (3, .c (.sl 1 6 (Qak m i 0).length (Qak m i 0).length false))]) (fun i => [.vr [QH m], .arr 47 6 (Qak m i 0).length (entG (Qak m i 0))]) (fun k => k ≤ m.length) (fun i => m.length - i) 0 (Nat.zero_le _) ?_ ?_
  ·exact Mv.k0
  ·intro k hk
   have hsk := hs k
   refine Go1 fun _h=>?_
   refine Br.of (fun h1=>?_) (fun h1=>?_)<;>(try simp only [Int.toNat_natCast] at h1)<;>refine Go0 ?_
   ·refine Lp.mkK hΓ (ι := Nat) [1, 2, 4] (fun q => [(5, .c (.int .i64 q)), (3, .c (.sl 1 6 (Qak m k q).length (Qak m k q).length false))]) (fun q => [.vr [QH m], .arr 47 6 (Qak m k q).length (entG (Qak m k q))]) (fun q => q ≤ (m.getD k default).length) (fun q => (m.getD k default).length - q) 0 (Nat.zero_le _) ?_ ?_
    ·exact Mv.k0
    ·intro q hq
     have hlq := QrS (k := q) hm.2 hs hk
     refine Go1 fun _h=>?_
     have e0 : (k : Int).toNat = k := rfl
     refine Br.of (fun h2=>?_) (fun h2=>?_)<;>(try simp only [Int.toNat_natCast] at h2)<;>refine Go0 ?_
     ·refine Lp.mkK hΓ (ι := Nat) [1, 2, 3, 4, 5] (fun a => [(6, .c (.int .i64 a))]) (fun _ => [.vr [QH m], .arr 47 6 (Qak m k q).length (entG (Qak m k q))]) (fun a => a ≤ (Qak m k q).length ∧ Qbe (Qak m k q) ((m.getD k default).getD q default).block (Qak m k q).length = Qbe (Qak m k q) ((m.getD k default).getD q default).block a) (fun a => a) (Qak m k q).length ⟨Nat.le_refl _, rfl⟩ ?_ ?_
      ·exact Mv.k0
      ·rintro a ⟨ha, ha2⟩
       refine Go0 ?_
       refine Dr.mk hΓ hMix (by kernel_rfl) ?_; conv=>whnf
       have hw : IntKind.i64.wrap (↑a - 1) = ↑a - 1 := Qa _ om om
       refine Go0 ?_
       refine Frc.mk (.c (.int .i64 ((Qak m k q).getD (IntKind.i64.wrap (↑a - 1)).toNat default).block)) rfl (Go0 ?_)
       have hp : 0 < a → (IntKind.i64.wrap (↑a - 1)).toNat = a - 1 := fun h0 => by rw [hw]; omega
       by_cases c : 0 < a ∧ ((m.getD k default).getD q default).block < ((Qak m k q).getD (a - 1) default).block
       ·refine Br.yes (by rw [hp c.1]; simp [-List.getD_eq_getElem?_getD, c.1, c.2]) ?_
        refine Go0 ?_
        refine ⟨a - 1, ⟨om, QsI (Nat.le_refl _) ha2 c.1 c.2⟩, om, ?_⟩
        exact Mv.k0
       ·refine Br.no (Bool.eq_false_iff.2 fun e => c (by
         by_cases c0 : 0 < a
         ·rw [hp c0] at e
          simp [-List.getD_eq_getElem?_getD] at e
          exact e
         ·have : a = 0 := by omega
          subst this
          simp at e)) ?_
        refine Go0 ?_
        have hst := Qsc c
        have hle : a ≤ (Qak m k q).length := ha
        have hqb : q < (m.getD k default).length := by omega
        refine Dr.mkE hΓ hMix [4294967297] [(13, 12)] (by kernel_rfl) (Go0 ?_)
        have w0 := Qa (↑q + 1) om om
        refine ⟨q + 1, om, om, ?_⟩
        have hln : (Qak m k (q + 1)).length = (Qak m k q).length + 1 := by rw [Qi8 hqb, Qm4]
        refine Mv.k1 ?_
        intro i hi j hj
        exact WC.eq ((Qvj (x := (m.getD k default).getD q default) rfl hle (ha2.trans hst) om hj).trans (by rw [Qi8 hqb])) (Qao _ _)
     ·have w0 := Qa (↑k + 1) om om
      have : q = (m.getD k default).length := by omega
      subst this
      refine ⟨k + 1, om, om, ?_⟩
      rw [Qru om]
      exact Mv.k0
   ·have : k = m.length := by omega
    subst this
    rw [QrQ]
    exact RM.allC (Fw.slP rfl rfl rfl (fun _ _ _ _ => rfl) (fun _ _ => Qao _ _))
 ·refine Br.yes (by rw [Qg h]; rfl) (Go0 ?_)
  rw [show allS m = [] from if_neg h]
  exact RM.i0
theorem Qeg : HB 105 := hB Tryz.func105
end Go.Proofs
end
