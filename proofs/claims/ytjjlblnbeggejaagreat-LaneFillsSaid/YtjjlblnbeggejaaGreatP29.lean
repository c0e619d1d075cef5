/- Contracts, lemmas; no condition. -/
import Derived.Test.YtjjlblnbeggejaaGreatP24
import Derived.Test.YtjjlblnbeggejaaGreatP16
import Derived.Test.YtjjlblnbeggejaaGreatP21
import Derived.Test.YtjjlblnbeggejaaGreatP23
set_option linter.all false
section
open Go Go.Am
namespace Go.Proofs
set_option maxRecDepth 20000
theorem QtV {l : List Ret} {x : Ret} {t : List C} {n i j : Nat} (hn : n = l.length) (hi : i < l.length + 1) (hj : j < 2) : appG (retG l) n (QaE 2 (.int .i64 x.zone :: .int .i64 x.epoch :: t)) i j = retG (l ++ [x]) i j :=
 QeY (f := Ret.cell) hn (fun j hj => by
  match j, hj with
  | 0, _ => rfl
  | 1, _ => rfl) hi hj
theorem QlE (g : Int) (p : List Int) (r : List Ret) (z : Int) (hp : p.length ≤ 1000000) (hr : r.length ≤ 1000000) : PS 59 [.a [.int .i64 g, Qh p, retC r], .c (.int .i64 z)] (.t [.inr [.int .i64 g, Qh p, retC (Qas g p r z).1], .inl (.bool (Qas g p r z).2)]) := by
 refine PSpec.rm ?_
 refine ov0 hΓ Tryz.func59 34 0 [.cell 4 39, .tmp 5] Tryz.ntmps59 Tryz.results59 ?_
 refine CallN.pureA Qgv (QgB g p r hp hr ) (Go0 ?_)
 refine CallG.auto Qgx (fun _ => Qg3 g p r z r.length hr (Nat.le_refl _) ) (Go0 ?_)
 rw [List.take_length]
 by_cases c : QL g p r = true ∧ 0 ≤ z ∧ QbO r z = false
 ·refine Br.no (Bool.eq_false_iff.2 fun ebye => by simp [-List.getD_eq_getElem?_getD, -Int.default_eq_zero, c.1,c.2.1,c.2.2] at ebye <;> grind) ?_; conv=>whnf
  refine Go0 ?_
  refine Dr.mkE hΓ hMix [4294967296] [(4, 3), (5, 3), (6, 3), (7, 3), (8, 3)] (by kernel_rfl) (Go0 ?_)
  rw [show Qas g p r z = (r ++ [⟨z, g⟩], true) from if_pos c]
  refine RM.allT (FwT.consL (FwL.cons (Fw.same rfl) (FwL.cons (Fw.same rfl) (FwL.cons (Fw.slP rfl rfl (by simp) (fun i hi j hj => QtV (x := ⟨z, g⟩) (by simp) (by omega) hj) (fun i j => Qe6 _ _)) FwL.nil))) (FwT.consC (Fw.same rfl) FwT.nil))
 ·refine Br.yes (Decidable.byContradiction fun ebye => c (by simp [-List.getD_eq_getElem?_getD, -Int.default_eq_zero] at ebye <;> grind)) ?_; conv=>whnf
  refine Go0 ?_
  rw [show Qas g p r z = (r, false) from if_neg c]
  exact RM.i0
theorem QlA : HB 59 := hB Tryz.func59
theorem Qf9 (g : Int) (p : List Int) (r : List Ret) (hp : p.length ≤ 1000000) (hr : r.length ≤ 1000000) : PS 49 [.a [.int .i64 g, Qh p, retC r]] (.t [.inr [.int .i64 (advM g p r).1, Qh p, retC r], .inl (.bool (advM g p r).2)]) := by
 refine PSpec.rm ?_
 refine ov0 hΓ Tryz.func49 43 0 [.cell 2 39, .tmp 3] Tryz.ntmps49 Tryz.results49 ?_
 refine CallN.pureA Qgv (QgB g p r hp hr ) (Go0 ?_)
 by_cases c : QL g p r = true ∧ g ≠ 1099511627776
 ·have hg : 0 ≤ g ∧ g ≤ 1099511627776 := by
   have := c.1
   unfold QL at this
   rw [Bool.and_eq_true, decide_eq_true_eq] at this
   omega
  have w1 := Qa (g + 1) (by omega) (by omega)
  refine Br.no (by simp [c.1]; exact c.2) (Go0 ?_)
  refine Lp.mkK hΓ (ι := Nat) [1, 2] (fun i => [(4, .c (.int .i64 i))]) (fun _ => [.vr [.int .i64 g, Qh p, retC r], .vr [.int .i64 0, Qh [], retC []]]) (fun k => k ≤ p.length ∧ ∀ i, i < k → p.getD i default = -1 ∨ p.getD i default = g) (fun i => p.length - i) 0 ⟨Nat.zero_le _, fun j hj => absurd hj (Nat.not_lt_zero _)⟩ ?_ ?_
  ·exact Mv.k0
  ·rintro k ⟨hk, hk2⟩
   refine Go1 fun _h=>?_
   refine Br.of (fun h1=>Go0 ?_) (fun h1=>Go0 ?_)
   ·refine Dr.mk hΓ hMix (by kernel_rfl) (Go0 ?_)
    have w0 := Qa (↑k + 1) (by omega) (by omega)
    by_cases d : p.getD k default = -1 ∨ p.getD k default = g
    ·refine Br.no (Bool.eq_false_iff.2 fun ebye => by simp [-List.getD_eq_getElem?_getD, -Int.default_eq_zero, d] at ebye <;> grind) ?_; conv=>whnf
     refine Go0 ?_
     refine ⟨k + 1, ⟨by omega, Q0 hk2 d⟩, by omega, ?_⟩
     exact Mv.k0
    ·refine Br.yes (Decidable.byContradiction fun ebye => d (by simp [-List.getD_eq_getElem?_getD, -Int.default_eq_zero] at ebye <;> grind)) ?_; conv=>whnf
     refine Go0 ?_
     rw [show advM g p r = (g, false) from if_neg fun z => by
      have := z.2.2
      unfold Qmi at this
      rw [decide_eq_true_eq] at this
      exact d (this k (by omega))]
     exact RM.i0
   ·rw [show advM g p r = (g + 1, true) from if_pos ⟨c.1, c.2, decide_eq_true fun i hi => hk2 i (by omega)⟩]
    exact RM.i0
 ·refine Br.yes (by
   refine Decidable.byContradiction fun e => c ?_
   simp at e
   exact e) ?_
  refine Go0 ?_
  rw [show advM g p r = (g, false) from if_neg fun z => c ⟨z.1, z.2.1⟩]
  exact RM.i0
theorem Qf0 : HB 49 := hB Tryz.func49
def Qac (m : List (List Ent)) (i k : Nat) : List Ent := (QaB m i ++ (m.getD i default).take k).foldl insE []
theorem Qjh (m : List (List Ent)) (i : Nat) : Qac m i 0 = (QaB m i).foldl insE [] := by simp [Qac]
theorem QjG {m : List (List Ent)} {i k : Nat} (hk : k < (m.getD i default).length) : Qac m i (k + 1) = insE (Qac m i k) ((m.getD i default).getD k default) := by
 unfold Qac
 rw [Qb9 _ hk, ← List.append_assoc, List.foldl_append]
 rfl
theorem QpX {m : List (List Ent)} {i : Nat} (hi : i < m.length) : Qac m i (m.getD i default).length = Qac m (i + 1) 0 := by
 rw [Qjh, Qcz hi]
 unfold Qac
 rw [List.take_length]
theorem QrN (m : List (List Ent)) : Qac m m.length 0 = allM m := by rw [Qjh, Qf5]; rfl
theorem QjX (l : List Ent) : ∀ out : List Ent, (l.foldl insE out).length = out.length + l.length := by
 induction l with
 | nil => intro out; rfl
 | cons x l ih => intro out; simp only [List.foldl_cons, ih, Qme, List.length_cons]; omega
theorem QrE {m : List (List Ent)} {i k : Nat} (hm : m.length ≤ 8) (hs : ∀ i, (m.getD i default).length ≤ 1000000) (hi : i ≤ m.length) : (Qac m i k).length ≤ 9000000 := by
 unfold Qac
 rw [QjX, List.length_append, List.length_take]
 have := Qcy hi hs
 have := hs i
 simp only [List.length_nil]
 omega
theorem QrW {l : List Ent} {b : Int} {a n : Nat} (hn : n ≤ l.length) (h : Qa3 l b n = Qa3 l b a) (ha : 0 < a) (h2 : b < (l.getD (a - 1) default).block) : Qa3 l b n = Qa3 l b (a - 1) := by
 rw [h]
 obtain ⟨a', rfl⟩ : ∃ a', a = a' + 1 := ⟨a - 1, by omega⟩
 simp only [Nat.add_sub_cancel] at h2 ⊢
 exact if_pos h2
theorem QqN {l : List Ent} {b : Int} {a : Nat} (h : ¬ (0 < a ∧ b < (l.getD (a - 1) default).block)) : Qa3 l b a = a := by
 cases a with
 | zero => rfl
 | succ a =>
  unfold Qa3
  rw [if_neg]
  intro c
  exact h ⟨by omega, by simpa using c⟩
theorem Qp4 {a b : List Ent} {i : Nat} (h : i < a.length) : (a ++ b).getD i default = a.getD i default := by
 simp only [List.getD, List.getElem?_append_left h]
theorem QiU {a b : List Ent} {i : Nat} (h : a.length ≤ i) : (a ++ b).getD i default = b.getD (i - a.length) default := by
 simp only [List.getD, List.getElem?_append_right h]
theorem QtR {l : List Ent} {x : Ent} {at_ n : Nat} {t : List C} {g0 : Nat → Nat → C} (hn : n = l.length) (ha : at_ ≤ n) (hs : Qa3 l x.block l.length = at_) {i j : Nat} (hi : i < l.length + 1) (hj : j < 6) :
  cutG (cutG (entG l) at_ 1 (QaE 6 (.int .i64 x.block :: .int .i64 x.kind :: .int .i64 x.version :: .int .i64 x.move :: .int .i64 x.zone :: .int .i64 x.offset :: t))) (at_ + 1) (0 + (n - at_)) (appG g0 0 (fun i j => entG l (at_ + i) j)) i j = entG (insE l x) i j := by
 subst hn
 rw [Nat.zero_add]
 unfold cutG appG insE
 rw [hs]
 have e : entG (l.take at_ ++ x :: l.drop at_) i j = ((l.take at_ ++ x :: l.drop at_).getD i default).cell j := rfl
 rw [e]
 have hlt : (l.take at_).length = at_ := by rw [List.length_take]; omega
 by_cases c1 : i < at_
 ·rw [if_pos (by omega), if_pos c1]
  rw [Qp4 (by rw [hlt]; exact c1)]
  show (l.getD i default).cell j = _
  congr 1
  simp [List.getD, c1]
 ·by_cases c2 : i = at_
  ·subst c2
   rw [if_pos (by omega), if_neg (by omega), if_pos (by omega)]
   rw [QiU (by rw [hlt]; exact Nat.le_refl _), hlt, Nat.sub_self]
   match j, hj with
   | 0, _ => rfl
   | 1, _ => rfl
   | 2, _ => rfl
   | 3, _ => rfl
   | 4, _ => rfl
   | 5, _ => rfl
  ·rw [if_neg (by omega), if_pos (by omega), if_neg (by omega)]
   rw [QiU (by rw [hlt]; omega), hlt]
   show (l.getD (at_ + (i - (at_ + 1) - 0)) default).cell j = _
   congr 1
   obtain ⟨q, hq⟩ : ∃ q, i = at_ + 1 + q := ⟨i - at_ - 1, by omega⟩
   subst hq
   rw [show at_ + 1 + q - at_ = q + 1 by omega, show at_ + (at_ + 1 + q - (at_ + 1) - 0) = at_ + q by omega]
   simp [List.getD]
set_option maxHeartbeats 4000000 in
theorem QgX (m : List (List Ent)) (hs : ∀ i, (m.getD i default).length ≤ 1000000) (hml : m.length ≤ 1000000) : PS 121 [.a [QC m]] (.c (Qap (allS m))) := by
 refine PSpec.rm ?_
 refine ov0 hΓ Tryz.func121 73 0 [.tmp 2] Tryz.ntmps121 Tryz.results121 ?_
 refine CallN.pureA Qff (Qe4 m hml hs ) (Go0 ?_)
 by_cases h : Qx m = true
 ·refine Br.no (by rw [h]; rfl) (Go0 ?_)
  have hm := Qbw h
  rw [show allS m = allM m from if_pos h]
  refine Lp.reserve 47 6 (entG []) 3 rfl ?_
  refine Lp.mkK hΓ (ι := Nat) [1, 2] (fun i => [(4, .c (.int .i64 i)), (3, .c (.sl 1 6 (Qac m i 0).length (Qac m i 0).length false))]) (fun i => [.vr [QC m], .arr 47 6 (Qac m i 0).length (entG (Qac m i 0))]) (fun k => k ≤ m.length) (fun i => m.length - i) 0 (Nat.zero_le _) ?_ ?_
  ·exact Mv.k0
  ·intro k hk
   have hsk := hs k
   refine Go1 fun _h=>?_
   refine Br.of (fun h1=>?_) (fun h1=>?_)<;>(try simp only [Int.toNat_natCast] at h1)<;>refine Go0 ?_
   ·refine Lp.mkK hΓ (ι := Nat) [1, 2, 4] (fun q => [(5, .c (.int .i64 q)), (3, .c (.sl 1 6 (Qac m k q).length (Qac m k q).length false))]) (fun q => [.vr [QC m], .arr 47 6 (Qac m k q).length (entG (Qac m k q))]) (fun q => q ≤ (m.getD k default).length) (fun q => (m.getD k default).length - q) 0 (Nat.zero_le _) ?_ ?_
    ·exact Mv.k0
    ·intro q hq
     have hlq := QrE (k := q) hm.2 hs hk
     refine Go1 fun _h=>?_
     have e0 : (k : Int).toNat = k := rfl
     refine Br.of (fun h2=>?_) (fun h2=>?_)<;>(try simp only [Int.toNat_natCast] at h2)<;>refine Go0 ?_
     ·refine Lp.mkK hΓ (ι := Nat) [1, 2, 3, 4, 5] (fun a => [(6, .c (.int .i64 a))]) (fun _ => [.vr [QC m], .arr 47 6 (Qac m k q).length (entG (Qac m k q))]) (fun a => a ≤ (Qac m k q).length ∧ Qa3 (Qac m k q) ((m.getD k default).getD q default).block (Qac m k q).length = Qa3 (Qac m k q) ((m.getD k default).getD q default).block a) (fun a => a) (Qac m k q).length ⟨Nat.le_refl _, rfl⟩ ?_ ?_
      ·exact Mv.k0
      ·rintro a ⟨ha, ha2⟩
       refine Go0 ?_
       refine Dr.mk hΓ hMix (by kernel_rfl) ?_; conv=>whnf
       have hw : IntKind.i64.wrap (↑a - 1) = ↑a - 1 := Qa _ (by omega) (by omega)
       refine Go0 ?_
       refine Frc.mk (.c (.int .i64 ((Qac m k q).getD (IntKind.i64.wrap (↑a - 1)).toNat default).block)) rfl (Go0 ?_)
       have hp : 0 < a → (IntKind.i64.wrap (↑a - 1)).toNat = a - 1 := fun h0 => by rw [hw]; omega
       by_cases c : 0 < a ∧ ((m.getD k default).getD q default).block < ((Qac m k q).getD (a - 1) default).block
       ·refine Br.yes (by rw [hp c.1]; simp [-List.getD_eq_getElem?_getD, c.1, c.2]) ?_
        refine Go0 ?_
        refine ⟨a - 1, ⟨by omega, QrW (Nat.le_refl _) ha2 c.1 c.2⟩, by omega, ?_⟩
        exact Mv.k0
       ·refine Br.no (Bool.eq_false_iff.2 fun e => c (by
         by_cases c0 : 0 < a
         ·rw [hp c0] at e
          simp [-List.getD_eq_getElem?_getD] at e
          exact e
         ·have : a = 0 := by omega
          subst this
          simp at e)) ?_
        refine Go0 ?_
        have hst := QqN c
        have hle : a ≤ (Qac m k q).length := ha
        have hqb : q < (m.getD k default).length := by omega
        refine Dr.mkE hΓ hMix [4294967297] [(13, 12)] (by kernel_rfl) (Go0 ?_)
        have w0 := Qa (↑q + 1) (by omega) (by omega)
        refine ⟨q + 1, by omega, by omega, ?_⟩
        have hln : (Qac m k (q + 1)).length = (Qac m k q).length + 1 := by rw [QjG hqb, Qme]
        refine Mv.k1 ?_
        intro i hi j hj
        exact WC.eq ((QtR (x := (m.getD k default).getD q default) rfl hle (ha2.trans hst) (by omega) hj).trans (by rw [QjG hqb])) (Qaw _ _)
     ·have w0 := Qa (↑k + 1) (by omega) (by omega)
      have : q = (m.getD k default).length := by omega
      subst this
      refine ⟨k + 1, by omega, by omega, ?_⟩
      rw [QpX (by omega)]
      exact Mv.k0
   ·have : k = m.length := by omega
    subst this
    rw [QrN]
    exact RM.allC (Fw.slP rfl rfl rfl (fun _ _ _ _ => rfl) (fun _ _ => Qaw _ _))
 ·refine Br.yes (by rw [Qq h]; rfl) (Go0 ?_)
  rw [show allS m = [] from if_neg h]
  exact RM.i0
theorem Qgm : HB 121 := hB Tryz.func121
structure Ser (s : St) : Prop where
 evs : ∀ i, i < s.evs.length → (s.evs.getD i default).serial < s.serial
 items : ∀ i, i < s.rings.length → ∀ k, k < (s.rings.getD i default).items.length → ((s.rings.getD i default).items.getD k default).serial < s.serial
 works : ∀ i, i < s.rings.length → (s.works.getD i default).state = 0 ∨ (s.works.getD i default).req.serial < s.serial
 rng : 0 ≤ s.serial ∧ s.serial ≤ 1099511627776
instance (s : St) : Decidable (Ser s) := decidable_of_iff ((∀ i, i < s.evs.length → (s.evs.getD i default).serial < s.serial) ∧ (∀ i, i < s.rings.length → ∀ k, k < (s.rings.getD i default).items.length → ((s.rings.getD i default).items.getD k default).serial < s.serial) ∧ (∀ i, i < s.rings.length → (s.works.getD i default).state = 0 ∨ (s.works.getD i default).req.serial < s.serial) ∧ 0 ≤ s.serial ∧ s.serial ≤ 1099511627776) ⟨fun ⟨a, b, c, d⟩ => ⟨a, b, c, d⟩, fun h => ⟨h.evs, h.items, h.works, h.rng⟩⟩
end Go.Proofs
end
