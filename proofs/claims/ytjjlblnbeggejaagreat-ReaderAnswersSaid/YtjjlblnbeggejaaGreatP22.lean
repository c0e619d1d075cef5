/- Contracts, lemmas; no condition. -/
import Derived.Test.YtjjlblnbeggejaaGreatP21
import Derived.Test.YtjjlblnbeggejaaGreatP19
import Derived.Test.YtjjlblnbeggejaaGreatP16
import Derived.Test.YtjjlblnbeggejaaGreatP12
import Derived.Test.YtjjlblnbeggejaaGreatP10
import Derived.Test.YtjjlblnbeggejaaGreatP18
import Derived.Test.YtjjlblnbeggejaaGreatP20
import Derived.Test.YtjjlblnbeggejaaGreatEnv
import Derived.Shelf.SlSortCmp.WholeK
import Derived.Shelf.Spec.SlicesGrow
set_option linter.all false
section
open Go Go.Am
namespace Go.Proofs
set_option maxRecDepth 20000
variable {l : List Int} {n h : Int} {c : Conf}
def QaU (g : Int) (pins : List Int) (rets : List Ret) (q : Int) : List Int × Bool :=
 if QL g pins rets = true ∧ 0 ≤ q ∧ q < pins.length ∧ pins.getD q.toNat default ≠ -1 then (pins.set q.toNat (-1), true) else (pins, false)
theorem QmT (g : Int) (p : List Int) (r : List Ret) (q : Int) (hp : p.length ≤ 1000000) (hr : r.length ≤ 1000000) : PS 235 [.a [.int .i64 g, Qh p, retC r], .c (.int .i64 q)] (.c (.bool (QL g p r && decide (0 ≤ q ∧ q < p.length)))) := by
 refine PSpec.rm ?_
 refine ov0 hΓ Tryz.func235 18 0 [.tmp 4] Tryz.ntmps235 Tryz.results235 ?_
 refine QuU QiB (Qjg g p r hp hr ) (Go0 ?_)
 refine Qv8 ?_
 cases QL g p r with
 | false => rfl
 | true =>
  rw [QxW]
  simp
theorem Qnh : HB 235 := hB Tryz.func235
theorem Qlj (g : Int) (p : List Int) (r : List Ret) (hp : p.length ≤ 1000000) (hr : r.length ≤ 1000000) : CS 158 [.a [.int .i64 g, Qh p, retC r]] [] fun s H => s = .a [.int .i64 g, .sl 0 1 p.length p.length false, retC r] ∧ H = [.arr 3 1 p.length (QaK .i64 p)] := by
 refine CSpec.rm ?_
 refine ov0 hΓ Tryz.func158 12 0 [.cell 2 39] Tryz.ntmps158 Tryz.results158 ?_
 refine Qvd hΓ hMix [148] [(0, 4), (1, 4), (5, 4), (6, 4)] (by kernel_rfl) (Go0 ?_)
 refine CallE.autoQ [] Qfo (Qdl p.length (QaK .i64 p) false om (fun _ _ _ _ => rfl)) (Go0 ?_)
 refine CallP.auto Qlz (Qlb r om ) (Go0 ?_)
 refine ⟨_, _, ?_, rfl, rfl⟩
 exact Qwe [2] (by decide) wb0 wb0
theorem Qmb : HB 158 := hB Tryz.func158
set_option maxHeartbeats 2000000 in
theorem QvD (g : Int) (p : List Int) (r : List Ret) (q : Int) (hp : p.length ≤ 1000000) (hr : r.length ≤ 1000000) : PS 170 [.a [.int .i64 g, Qh p, retC r], .c (.int .i64 q)] (.t [.inr [.int .i64 g, Qh (pinM g p r q).1, retC r], .inl (.bool (pinM g p r q).2)]) := by
 refine PSpec.rm ?_
 refine ov0 hΓ Tryz.func170 29 0 [.cell 4 39, .tmp 5] Tryz.ntmps170 Tryz.results170 ?_
 refine CallN.autoI [] Qmb (Qlj g p r hp hr) (PlainH.arr (fun _ _ => rfl) PlainH.nil) (Go0 ?_)
 refine QuU Qnh (QmT g p r q hp hr ) ?_
 conv=>whnf
 by_cases c0 : QL g p r = true ∧ 0 ≤ q ∧ q < p.length
 ·have hi : q.toNat < p.length := by omega
  rw [c0.1, Qxz c0.2]
  refine Go0 ?_
  by_cases c : p.getD q.toNat default = -1
  ·refine Br.no (by simpa [-List.getD_eq_getElem?_getD] using c) ?_
   refine Go0 ?_
   rw [show pinM g p r q = (p.set q.toNat g, true) from Qxt ⟨c0.1, c0.2.1, c0.2.2, c⟩]
   exact QvC (FwT.consL (FwL.cons (Fw.same rfl) (FwL.cons (Qwc rfl rfl (by simp) (fun a _ b hb => Qnd hi a b hb)) (FwL.cons (Fw.same rfl) FwL.nil))) (FwT.consC (Fw.same rfl) FwT.nil))
  ·refine Br.yes (by simpa [-List.getD_eq_getElem?_getD] using c) ?_
   refine Go0 ?_
   rw [show pinM g p r q = (p, false) from Qxu fun z => c z.2.2.2]
   exact QvC (FwT.consL (FwL.cons (Fw.same rfl) (FwL.cons (Qwc rfl rfl rfl (fun _ _ _ _ => rfl)) (FwL.cons (Fw.same rfl) FwL.nil))) (FwT.consC (Fw.same rfl) FwT.nil))
 ·rw [show (QL g p r && decide (0 ≤ q ∧ q < (p.length : Int))) = false by
   cases h : QL g p r with
   | false => rfl
   | true => rw [QxE fun z => c0 ⟨h, z⟩]; rfl]
  refine Go0 ?_
  refine Br.yes rfl (Go0 ?_)
  rw [show pinM g p r q = (p, false) from Qxu fun z => c0 ⟨z.1, z.2.1, z.2.2.1⟩]
  exact QvC (FwT.consL (FwL.cons (Fw.same rfl) (FwL.cons (Qwc rfl rfl rfl (fun _ _ _ _ => rfl)) (FwL.cons (Fw.same rfl) FwL.nil))) (FwT.consC (Fw.same rfl) FwT.nil))
theorem QvM : HB 170 := hB Tryz.func170
set_option maxHeartbeats 2000000 in
theorem Qsi (g : Int) (p : List Int) (r : List Ret) (q : Int) (hp : p.length ≤ 1000000) (hr : r.length ≤ 1000000) : PS 175 [.a [.int .i64 g, Qh p, retC r], .c (.int .i64 q)] (.t [.inr [.int .i64 g, Qh (QaU g p r q).1, retC r], .inl (.bool (QaU g p r q).2)]) := by
 refine PSpec.rm ?_
 refine ov0 hΓ Tryz.func175 27 0 [.cell 4 39, .tmp 5] Tryz.ntmps175 Tryz.results175 ?_
 refine CallN.autoI [] Qmb (Qlj g p r hp hr) (PlainH.arr (fun _ _ => rfl) PlainH.nil) (Go0 ?_)
 refine QuU Qnh (QmT g p r q hp hr ) ?_
 conv=>whnf
 by_cases c0 : QL g p r = true ∧ 0 ≤ q ∧ q < p.length
 ·have hi : q.toNat < p.length := by omega
  rw [c0.1, Qxz c0.2]
  refine Go0 ?_
  by_cases c : p.getD q.toNat default ≠ -1
  ·refine Br.no (by simpa [-List.getD_eq_getElem?_getD] using c) ?_
   refine Go0 ?_
   rw [show QaU g p r q = (p.set q.toNat (-1), true) from Qxt ⟨c0.1, c0.2.1, c0.2.2, c⟩]
   exact QvC (FwT.consL (FwL.cons (Fw.same rfl) (FwL.cons (Qwc rfl rfl (by simp) (fun a _ b hb => Qnd hi a b hb)) (FwL.cons (Fw.same rfl) FwL.nil))) (FwT.consC (Fw.same rfl) FwT.nil))
  ·refine Br.yes (by simpa [-List.getD_eq_getElem?_getD] using c) ?_
   refine Go0 ?_
   rw [show QaU g p r q = (p, false) from Qxu fun z => c z.2.2.2]
   exact QvC (FwT.consL (FwL.cons (Fw.same rfl) (FwL.cons (Qwc rfl rfl rfl (fun _ _ _ _ => rfl)) (FwL.cons (Fw.same rfl) FwL.nil))) (FwT.consC (Fw.same rfl) FwT.nil))
 ·rw [show (QL g p r && decide (0 ≤ q ∧ q < (p.length : Int))) = false by
   cases h : QL g p r with
   | false => rfl
   | true => rw [QxE fun z => c0 ⟨h, z⟩]; rfl]
  refine Go0 ?_
  refine Br.yes rfl (Go0 ?_)
  rw [show QaU g p r q = (p, false) from Qxu fun z => c0 ⟨z.1, z.2.1, z.2.2.1⟩]
  exact QvC (FwT.consL (FwL.cons (Fw.same rfl) (FwL.cons (Qwc rfl rfl rfl (fun _ _ _ _ => rfl)) (FwL.cons (Fw.same rfl) FwL.nil))) (FwT.consC (Fw.same rfl) FwT.nil))
theorem Qu5 : HB 175 := hB Tryz.func175
theorem Qqf (e : Ent) : PS 283 [.a e.cells] (.c (.int .i64 e.block)) := by
  refine PSpec.rm ?_
  refine ov hΓ Tryz.func283 5 0 [.tmp 2] Tryz.ntmps283 Tryz.results283 ?_
  ((conv=>whnf);(repeat' ((first|refine Nd ?_|refine Hv fun _h=>?_);conv=>whnf)))
  exact QuV
theorem QpZ : HB 283 := hB Tryz.func283
theorem Qv6 {l : List Ent} (h : QM l = true) {i j : Nat} (hij : i < j) (hj : j < l.length) : (l.getD i default).block < (l.getD j default).block := by
  unfold QM at h
  rw [Qxw] at h
  induction j with
  | zero => omega
  | succ j ih =>
    have h1 := (h (j + 1) hj).2 om
    rw [Nat.add_sub_cancel] at h1
    by_cases c : i = j
    · subst c; exact h1
    · have := ih om om; omega
set_option maxHeartbeats 2000000 in
theorem Qu2 (l : List Ent) (b : Int) (h : QM l = true) (hl : l.length ≤ 1000000) : PS 282 [.c (Qap l), .c (.int .i64 b), .c (.fn (.func 283) 0 fun _ => .junk)] (.t [.inl (.int .i64 (Qo l b)), .inl (.bool (hasM l b))]) := by
  refine PSpec.rm ?_
  refine ov hΓ Tryz.func282 46 0 [.tmp 6, .tmp 7] Tryz.ntmps282 Tryz.results282 ?_
  ((conv=>whnf);(repeat' ((first|refine Nd ?_|refine Hv fun _h=>?_);conv=>whnf)))
  refine QuY hΓ (ι := Nat × Nat) [0, 1, 2, 6, 7] (fun k => [(8, .c (.int .i64 k.1)), (9, .c (.int .i64 k.2))]) (fun _ => []) (fun k => k.1 ≤ k.2 ∧ k.2 ≤ l.length ∧ (∀ i, i < k.1 → (l.getD i default).block < b) ∧ (k.2 = l.length ∨ b ≤ (l.getD k.2 default).block)) (fun k => k.2 - k.1) (0, l.length) ⟨Qxx _, QxB _, fun i hi => absurd hi (QxN _), Or.inl rfl⟩ ?_ ?_
  · exact QuW
  · rintro ⟨lo, hi⟩ ⟨h1, h2, h3, h4⟩
    have h1 : lo ≤ hi := h1
    have h2 : hi ≤ l.length := h2
    dsimp only
    ((conv=>whnf);(repeat' ((first|refine Nd ?_|refine Hv fun _h=>?_);conv=>whnf)))
    refine Br.of (fun c1=>?_) (fun c1=>?_)<;>(try simp only [Qxy] at c1)<;>(conv=>whnf)
    · have c1 : lo < hi := by have : (lo : Int) < hi := c1; omega
      have w0 : (IntKind.i64.wrap (IntKind.i64.wrap ((lo : Int) + hi))).tdiv 2 = (((lo + hi) / 2 : Nat) : Int) := by
        rw [Qa (lo + hi : Int) om om, Qa _ om om, QyS om]
        omega
      have w1 : (IntKind.i64.wrap ((lo : Int) + hi)).tdiv 2 = (((lo + hi) / 2 : Nat) : Int) := by
        rw [Qa (lo + hi : Int) om om, QyS om]
        omega
      have hm : (lo + hi) / 2 < l.length := by omega
      have wv : IntKind.i64.wrap (((lo + hi) / 2 : Nat) : Int) = (((lo + hi) / 2 : Nat) : Int) := Qa _ om om
      ((conv=>whnf);(repeat' ((first|refine Nd ?_|refine Hv fun _h=>?_);conv=>whnf)))
      rw [w1, wv, Qxy]
      refine QuU QpZ (Qqf (l.getD ((lo + hi) / 2) default) ) ?_
      ((conv=>whnf);(repeat' ((first|refine Nd ?_|refine Hv fun _h=>?_);conv=>whnf)))
      have w2 := Qa ((((lo + hi) / 2 : Nat) : Int) + 1) om om
      refine Br.of (fun c2=>?_) (fun c2=>?_)<;>(try simp only [Qxy] at c2)<;>(conv=>whnf)
      · ((conv=>whnf);(repeat' ((first|refine Nd ?_|refine Hv fun _h=>?_);conv=>whnf)))
        refine ⟨((lo + hi) / 2 + 1, hi), ⟨by show (lo + hi) / 2 + 1 ≤ hi; omega, h2, fun i hi2 => ?_, h4⟩, by show hi - ((lo + hi) / 2 + 1) < hi - lo; omega, ?_⟩
        · by_cases e : i = (lo + hi) / 2
          · subst e; exact c2
          · have hi2 : i < (lo + hi) / 2 + 1 := hi2
            have := Qv6 h (i := i) (j := (lo + hi) / 2) om hm
            omega
        · exact QuW
      · ((conv=>whnf);(repeat' ((first|refine Nd ?_|refine Hv fun _h=>?_);conv=>whnf)))
        refine ⟨(lo, (lo + hi) / 2), ⟨by show lo ≤ (lo + hi) / 2; omega, by show (lo + hi) / 2 ≤ l.length; omega, h3, Or.inr ?_⟩, by show (lo + hi) / 2 - lo < hi - lo; omega, ?_⟩
        · show b ≤ (l.getD ((lo + hi) / 2) default).block
          omega
        · exact QuW
    · have c1 : hi ≤ lo := by have : ¬ (lo : Int) < hi := by have := c1; omega
                              omega
      have hp : Qo l b = lo := QqZ om h3 (by
        rcases h4 with h4 | h4
        · exact Or.inl om
        · exact Or.inr (by rw [show lo = hi by omega]; exact h4))
      ((conv=>whnf);(repeat' ((first|refine Nd ?_|refine Hv fun _h=>?_);conv=>whnf)))
      refine CallG.auto QpZ (fun _ => Qqf (l.getD lo default)) ?_
      ((conv=>whnf);(repeat' ((first|refine Nd ?_|refine Hv fun _h=>?_);conv=>whnf)))
      rw [hp, show hasM l b = (bif decide ((lo : Int) < l.length) then (l.getD lo default).block == b else false) by
        unfold hasM
        rw [hp]
        by_cases q : lo < l.length
        · rw [Qxz (show (lo : Int) < l.length by omega), cond_true]
          by_cases r : (l.getD lo default).block = b
          · rw [Qxz ⟨q, r⟩, r, beq_self_eq_true]
          · rw [QxE fun z => r z.2, Qze.2 r]
        · rw [QxE fun z => q z.1, QxE (show ¬ (lo : Int) < l.length by omega)]
          rfl]
      exact QuV
theorem Qu1 : HB 282 := hB Tryz.func282
theorem Qvi (l : List Ent) (b : Int) (hl : l.length ≤ 1000000) : PS 238 [.c (Qap l), .c (.int .i64 b)] (.t [.inr (QO l b).1.cells, .inl (.bool (QO l b).2)]) := by
 refine PSpec.rm ?_
 refine ov hΓ Tryz.func238 25 0 [.cell 4 47, .tmp 5] Tryz.ntmps238 Tryz.results238 ?_
 ((conv=>whnf);(repeat' ((first|refine Nd ?_|refine Hv fun _h=>?_);conv=>whnf)))
 refine QuU Qix (QiO l hl ) ?_
 ((conv=>whnf);(repeat' ((first|refine Nd ?_|refine Hv fun _h=>?_);conv=>whnf)))
 by_cases hv : QM l = true
 ·refine Br.no (by rw [hv]; rfl) ?_
  ((conv=>whnf);(repeat' ((first|refine Nd ?_|refine Hv fun _h=>?_);conv=>whnf)))
  refine QuU Qu1 (Qu2 l b hv hl ) ?_
  ((conv=>whnf);(repeat' ((first|refine Nd ?_|refine Hv fun _h=>?_);conv=>whnf)))
  by_cases hh : hasM l b = true
  ·have hlt : Qo l b < l.length := by
    unfold hasM at hh
    rw [Qxw] at hh
    exact hh.1
   refine Br.no (by rw [hh]; rfl) ?_
   ((conv=>whnf);(repeat' ((first|refine Nd ?_|refine Hv fun _h=>?_);conv=>whnf)))
   rw [show QO l b = (l.getD (Qo l b) default, true) from Qxt ⟨hv, hh⟩]
   exact QuV
  ·refine Br.yes (by rw [QxG.2 hh]; rfl) ?_
   ((conv=>whnf);(repeat' ((first|refine Nd ?_|refine Hv fun _h=>?_);conv=>whnf)))
   rw [show QO l b = (default, false) from Qxu fun z => hh z.2]
   exact QuV
 ·refine Br.yes (by rw [QxG.2 hv]; rfl) ?_
  ((conv=>whnf);(repeat' ((first|refine Nd ?_|refine Hv fun _h=>?_);conv=>whnf)))
  rw [show QO l b = (default, false) from Qxu fun z => hv z.1]
  exact QuV
theorem Qvb : HB 238 := hB Tryz.func238
theorem QvO (m : List (List Ent)) (b : Int) (hm : m.length ≤ 1000000) (hs : ∀ i, (m.getD i default).length ≤ 1000000) : PS 237 [.a [QC m], .c (.int .i64 b)] (.t [.inl (.int .i64 (Qaj m b)), .inl (.bool (decide (0 ≤ Qaj m b) && Qx m))]) := by
 refine PSpec.rm ?_
 refine ov hΓ Tryz.func237 19 0 [.tmp 4, .tmp 5] Tryz.ntmps237 Tryz.results237 ?_
 ((conv=>whnf);(repeat' ((first|refine Nd ?_|refine Hv fun _h=>?_);conv=>whnf)))
 refine QuU Qnr (Qoi m b hm ) ?_
 ((conv=>whnf);(repeat' ((first|refine Nd ?_|refine Hv fun _h=>?_);conv=>whnf)))
 refine CallG.auto QhG (fun _ => QhZ m hm hs ) ?_
 ((conv=>whnf);(repeat' ((first|refine Nd ?_|refine Hv fun _h=>?_);conv=>whnf)))
 exact QuV
theorem QvR : HB 237 := hB Tryz.func237
theorem Qvg (m : List (List Ent)) (b : Int) (hm : m.length ≤ 1000000) (hs : ∀ i, (m.getD i default).length ≤ 1000000) : PS 171 [.a [QC m], .c (.int .i64 b)] (.t [.inr (QfX m b).1.cells, .inl (.bool (QfX m b).2)]) := by
 refine PSpec.rm ?_
 refine ov hΓ Tryz.func171 30 0 [.cell 4 47, .tmp 5] Tryz.ntmps171 Tryz.results171 ?_
 ((conv=>whnf);(repeat' ((first|refine Nd ?_|refine Hv fun _h=>?_);conv=>whnf)))
 refine QuU QkS (QkR m hm hs ) ?_
 ((conv=>whnf);(repeat' ((first|refine Nd ?_|refine Hv fun _h=>?_);conv=>whnf)))
 refine QuU QvR (QvO m b hm hs ) ?_
 ((conv=>whnf);(repeat' ((first|refine Nd ?_|refine Hv fun _h=>?_);conv=>whnf)))
 by_cases c : Qx m = true ∧ 0 ≤ b
 ·have hlt := Qd4 c.1 c.2
  have hi := QhX c.1 c.2
  have hst : Qaj m b = (QE m b : Nat) := by
   rw [hi]
   unfold Qaj
   rw [Qxu (by have := Qbw c.1; omega)]
  refine Br.no (by rw [hst, c.1, Qxz om]; rfl) ?_
  rw [hst]
  ((conv=>whnf);(repeat' ((first|refine Nd ?_|refine Hv fun _h=>?_);conv=>whnf)))
  refine QuU Qvb (Qvi (m.getD (QE m b) default) b (hs _) ) ?_
  ((conv=>whnf);(repeat' ((first|refine Nd ?_|refine Hv fun _h=>?_);conv=>whnf)))
  rw [show QfX m b = QO (m.getD (QE m b) default) b from Qxt c]
  exact QuV
 ·refine Br.yes (by
   cases hv : Qx m with
   | false => rw [Qyq]; rfl
   | true =>
    rw [QxE fun z => c ⟨hv, by
     unfold Qaj at z
     by_cases q : b < 0
     ·rw [Qxt om] at z; omega
     ·omega⟩]
    rfl) ?_
  ((conv=>whnf);(repeat' ((first|refine Nd ?_|refine Hv fun _h=>?_);conv=>whnf)))
  rw [show QfX m b = (default, false) from Qxu c]
  exact QuV
theorem Qvs : HB 171 := hB Tryz.func171
theorem QtV {l : List Ret} {x : Ret} {t : List C} {n i j : Nat} (hn : n = l.length) (hi : i < l.length + 1) (hj : j < 2) : appG (retG l) n (QaE 2 (.int .i64 x.zone :: .int .i64 x.epoch :: t)) i j = retG (l ++ [x]) i j :=
 QeY (f := Ret.cell) hn (fun j hj => by
  match j, hj with
  | 0, _ => rfl
  | 1, _ => rfl) hi hj
theorem QlE (g : Int) (p : List Int) (r : List Ret) (z : Int) (hp : p.length ≤ 1000000) (hr : r.length ≤ 1000000) : PS 59 [.a [.int .i64 g, Qh p, retC r], .c (.int .i64 z)] (.t [.inr [.int .i64 g, Qh p, retC (Qas g p r z).1], .inl (.bool (Qas g p r z).2)]) := by
 refine PSpec.rm ?_
 refine ov0 hΓ Tryz.func59 34 0 [.cell 4 39, .tmp 5] Tryz.ntmps59 Tryz.results59 ?_
 refine QuU Qgv (QgB g p r hp hr ) (Go0 ?_)
 refine CallG.auto Qgx (fun _ => Qg3 g p r z r.length hr (QxB _) ) (Go0 ?_)
 rw [Qzc]
 by_cases c : QL g p r = true ∧ 0 ≤ z ∧ QbO r z = false
 ·refine Br.no (QxG.2 fun ebye => by simp [-List.getD_eq_getElem?_getD, -Int.default_eq_zero, c.1,c.2.1,c.2.2] at ebye <;> grind) ?_; conv=>whnf
  refine Go0 ?_
  refine Qvd hΓ hMix [4294967296] [(4, 3), (5, 3), (6, 3), (7, 3), (8, 3)] (by kernel_rfl) (Go0 ?_)
  rw [show Qas g p r z = (r ++ [⟨z, g⟩], true) from Qxt c]
  refine QvC (FwT.consL (FwL.cons (Fw.same rfl) (FwL.cons (Fw.same rfl) (FwL.cons (QvI rfl rfl (by simp) (fun i hi j hj => QtV (x := ⟨z, g⟩) (by simp) om hj) (fun i j => Qe6 _ _)) FwL.nil))) (FwT.consC (Fw.same rfl) FwT.nil))
 ·refine Br.yes (QxC fun ebye => c (by simp [-List.getD_eq_getElem?_getD, -Int.default_eq_zero] at ebye <;> grind)) ?_; conv=>whnf
  refine Go0 ?_
  rw [show Qas g p r z = (r, false) from Qxu c]
  exact QuV
theorem QlA : HB 59 := hB Tryz.func59
theorem Qf9 (g : Int) (p : List Int) (r : List Ret) (hp : p.length ≤ 1000000) (hr : r.length ≤ 1000000) : PS 49 [.a [.int .i64 g, Qh p, retC r]] (.t [.inr [.int .i64 (advM g p r).1, Qh p, retC r], .inl (.bool (advM g p r).2)]) := by
 refine PSpec.rm ?_
 refine ov0 hΓ Tryz.func49 43 0 [.cell 2 39, .tmp 3] Tryz.ntmps49 Tryz.results49 ?_
 refine QuU Qgv (QgB g p r hp hr ) (Go0 ?_)
 by_cases c : QL g p r = true ∧ g ≠ 1099511627776
 ·have hg : 0 ≤ g ∧ g ≤ 1099511627776 := by
   have := c.1
   unfold QL at this
   rw [QxA, Qxw] at this
   omega
  have w1 := Qa (g + 1) om om
  refine Br.no (by simp [c.1]; exact c.2) (Go0 ?_)
  refine QuY hΓ (ι := Nat) [1, 2] (fun i => [(4, .c (.int .i64 i))]) (fun _ => [.vr [.int .i64 g, Qh p, retC r], .vr [.int .i64 0, Qh [], retC []]]) (fun k => k ≤ p.length ∧ ∀ i, i < k → p.getD i default = -1 ∨ p.getD i default = g) (fun i => p.length - i) 0 ⟨Qxx _, fun j hj => absurd hj (QxN _)⟩ ?_ ?_
  ·exact QuW
  ·rintro k ⟨hk, hk2⟩
   refine Go1 fun _h=>?_
   refine Br.of (fun h1=>Go0 ?_) (fun h1=>Go0 ?_)
   ·refine Dr.mk hΓ hMix (by kernel_rfl) (Go0 ?_)
    have w0 := Qa (↑k + 1) om om
    by_cases d : p.getD k default = -1 ∨ p.getD k default = g
    ·refine Br.no (QxG.2 fun ebye => by simp [-List.getD_eq_getElem?_getD, -Int.default_eq_zero, d] at ebye <;> grind) ?_; conv=>whnf
     refine Go0 ?_
     refine ⟨k + 1, ⟨om, Q0 hk2 d⟩, om, ?_⟩
     exact QuW
    ·refine Br.yes (QxC fun ebye => d (by simp [-List.getD_eq_getElem?_getD, -Int.default_eq_zero] at ebye <;> grind)) ?_; conv=>whnf
     refine Go0 ?_
     rw [show advM g p r = (g, false) from Qxu fun z => by
      have := z.2.2
      unfold Qmi at this
      rw [Qxw] at this
      exact d (this k om)]
     exact QuV
   ·rw [show advM g p r = (g + 1, true) from Qxt ⟨c.1, c.2, Qxz fun i hi => hk2 i om⟩]
    exact QuV
 ·refine Br.yes (by
   refine QxC fun e => c ?_
   simp at e
   exact e) ?_
  refine Go0 ?_
  rw [show advM g p r = (g, false) from Qxu fun z => c ⟨z.1, z.2.1⟩]
  exact QuV
theorem Qf0 : HB 49 := hB Tryz.func49
theorem QvS {k : Nat} (hk : k < l.length) (h : l.getD k default = n) : n ∈ l := by
 rw [Qu _ _ hk] at h
 exact h ▸ Qx0 hk
theorem QvQ (h : ∀ i, i < l.length → l.getD i default ≠ n) : n ∉ l := fun q => by
 obtain ⟨i, hi, e⟩ := QxP q
 exact h i hi (by rw [Qu _ _ hi]; exact e)
theorem QmS (l : List Int) (n : Int) (hl : l.length ≤ 1000000) : PS 137 [.c (Qh l), .c (.int .i64 n)] (.c (.bool (decide (n ∈ l)))) := by
 refine PSpec.rm ?_
 refine ov0 hΓ Tryz.func137 18 0 [.tmp 4] Tryz.ntmps137 Tryz.results137 ?_
 refine QuY hΓ (ι := Nat) [0, 1] (fun i => [(5, .c (.int .i64 i))]) (fun _ => []) (fun k => k ≤ l.length ∧ ∀ i, i < k → l.getD i default ≠ n) (fun i => l.length - i) 0 ⟨Qxx _, fun j hj => absurd hj (QxN _)⟩ ?_ ?_
 ·exact QuW
 ·rintro k ⟨hk, hk2⟩
  refine Go1 fun _h=>?_
  refine Br.of (fun h1=>Go0 ?_) (fun h1=>Go0 ?_)
  ·have w0 := Qa (↑k + 1) om om
   refine Br.of (fun h2=>Go0 ?_) (fun h2=>Go0 ?_)
   ·rw [Qxz (QvS (l := l) om h2)]
    exact QuV
   ·refine ⟨k + 1, ⟨om, Q0 hk2 h2⟩, om, ?_⟩
    exact QuW
  ·rw [QxE (QvQ fun i hi => hk2 i om)]
   exact QuV
theorem Qny : HB 137 := hB Tryz.func137
theorem freeOk_iff2 : Qg4 c l = true ↔ ∀ i, i < l.length → Qam c (l.getD i default) = true ∧ (0 < i → l.getD (i - 1) default < l.getD i default) := by
 unfold Qg4
 rw [Qxw]
theorem poolOk_iff2 : poolOk c l h n = true ↔ QB c = 0 ∧ Qg4 c l = true ∧ Qex c l h = true ∧ Qex c l n = true ∧ (h = -1 ∨ h ≠ n) := by
 unfold poolOk
 simp only [QxA, Qxw]
theorem laneOk_iff2 : Qex c l h = true ↔ h = -1 ∨ Qam c h = true ∧ h ∉ l := by
 unfold Qex
 rw [Qxw]
set_option maxHeartbeats 4000000 in
theorem QiE (c : Conf) (l : List Int) (h n : Int) (hl : l.length ≤ 1000000) : PS 129 [.a [Qh l, .int .i64 h, .int .i64 n], .a c.cells] (.c (.bool (poolOk c l h n))) := by
 have no : ¬ poolOk c l h n = true → poolOk c l h n = false := Qq
 refine PSpec.rm ?_
 refine ov0 hΓ Tryz.func129 83 0 [.tmp 4] Tryz.ntmps129 Tryz.results129 ?_
 refine QuU Qfg (Qfj c ) (Go0 ?_)
 by_cases h0 : QB c = 0
 ·refine Br.no (by simp [h0]) (Go0 ?_)
  refine QuY hΓ (ι := Nat) [2, 3] (fun i => [(5, .c (.int .i64 i))]) (fun _ => [.vr [Qh l, .int .i64 h, .int .i64 n], .vr c.cells]) (fun k => k ≤ l.length ∧ ∀ i, i < k → Qam c (l.getD i default) = true ∧ (0 < i → l.getD (i - 1) default < l.getD i default)) (fun i => l.length - i) 0 ⟨Qxx _, fun j hj => absurd hj (QxN _)⟩ ?_ ?_
  ·exact QuW
  ·rintro k ⟨hk, hk2⟩
   refine Go1 fun _h=>?_
   refine Br.of (fun h1=>Go0 ?_) (fun h1=>Go0 ?_)
   ·refine Dr.mk hΓ hMix (by kernel_rfl) (Go0 ?_)
    refine CallP.auto Qd1 (Qe8 c (l.getD k default) ) (Go0 ?_)
    have w0 := Qa (↑k + 1) om om
    rcases Qx3 k with k0 | k0
    ·subst k0
     refine Go0 ?_
     by_cases d : Qam c (l.getD 0 default) = true
     ·refine Br.no (QxG.2 fun ebye => by simp [-List.getD_eq_getElem?_getD, -Int.default_eq_zero, d] at ebye <;> grind) ?_; conv=>whnf
      refine Go0 ?_
      refine ⟨0 + 1, ⟨om, Q0 hk2 ⟨d, fun z => absurd z (Nat.lt_irrefl 0)⟩⟩, om, ?_⟩
      exact QuW
     ·refine Br.yes (QxC fun ebye => d (by simp [-List.getD_eq_getElem?_getD, -Int.default_eq_zero] at ebye <;> grind)) ?_; conv=>whnf
      refine Go0 ?_
      rw [no (fun z => d (freeOk_iff2.1 (poolOk_iff2.1 z).2.1 0 om).1)]
      exact QuV
    ·have w2 := Qa ((k : Int) - 1) om om
     have w3 : ((k : Int) - 1).toNat = k - 1 := by omega
     rw [w2]
     refine Go0 ?_
     rw [w3]
     by_cases d : Qam c (l.getD k default) = true ∧ l.getD (k - 1) default < l.getD k default
     ·refine Br.no (QxG.2 fun ebye => by simp [-List.getD_eq_getElem?_getD, -Int.default_eq_zero, d.1,d.2] at ebye <;> grind) ?_; conv=>whnf
      refine Go0 ?_
      refine ⟨k + 1, ⟨om, Q0 hk2 ⟨d.1, fun _ => d.2⟩⟩, om, ?_⟩
      exact QuW
     ·refine Br.yes (QxC fun ebye => d (by simp [-List.getD_eq_getElem?_getD, -Int.default_eq_zero] at ebye <;> grind)) ?_; conv=>whnf
      refine Go0 ?_
      rw [no (fun z => d (by have := freeOk_iff2.1 (poolOk_iff2.1 z).2.1 k om; exact ⟨this.1, this.2 k0⟩))]
      exact QuV
   ·have hf : Qg4 c l = true := freeOk_iff2.2 fun i hi => hk2 i om
    refine Qw0 hΓ 3 (Go0 ?_)
    refine Br.yes rfl (Go0 ?_)
    refine Dr.mk hΓ hMix (by kernel_rfl) (Go0 ?_)
    refine QvE Qd1 (fun _ => Qe8 c h ) (Go0 ?_)
    refine QvE Qny (fun _ => QmS l h hl ) (Go0 ?_)
    by_cases lh : Qex c l h = true
    ·have lh2 := laneOk_iff2.1 lh
     refine Br.no (QxG.2 fun ebye => by simp [-List.getD_eq_getElem?_getD, -Int.default_eq_zero, lh2] at ebye <;> grind) ?_; conv=>whnf
     refine Go0 ?_
     refine Br.yes rfl (Go0 ?_)
     refine Dr.mk hΓ hMix (by kernel_rfl) (Go0 ?_)
     refine QvE Qd1 (fun _ => Qe8 c n ) (Go0 ?_)
     refine QvE Qny (fun _ => QmS l n hl ) (Go0 ?_)
     by_cases ln : Qex c l n = true
     ·have ln2 := laneOk_iff2.1 ln
      refine Br.no (QxG.2 fun ebye => by simp [-List.getD_eq_getElem?_getD, -Int.default_eq_zero, ln2] at ebye <;> grind) ?_; conv=>whnf
      refine Go0 ?_
      refine Br.no rfl (Go0 ?_)
      refine Qvj rfl (WS.c (WC.bool ?_))
      rw [QxW, poolOk_iff2]
      simp [h0, hf, lh, ln]
     ·have ln2 := fun z => ln (laneOk_iff2.2 z)
      refine Br.yes (QxC fun ebye => ln2 (by simp [-List.getD_eq_getElem?_getD, -Int.default_eq_zero] at ebye <;> grind)) ?_; conv=>whnf
      refine Go0 ?_
      rw [no (fun z => ln (poolOk_iff2.1 z).2.2.2.1)]
      exact QuV
    ·have lh2 := fun z => lh (laneOk_iff2.2 z)
     refine Br.yes (QxC fun ebye => lh2 (by simp [-List.getD_eq_getElem?_getD, -Int.default_eq_zero] at ebye <;> grind)) ?_; conv=>whnf
     refine Go0 ?_
     rw [no (fun z => lh (poolOk_iff2.1 z).2.2.1)]
     exact QuV
 ·refine Br.yes (by simpa using h0) (Go0 ?_)
  rw [no (fun z => h0 (poolOk_iff2.1 z).1)]
  exact QuV
theorem Qjc : HB 129 := hB Tryz.func129
theorem QdI (c : Conf) (r : Req) : PS 95 [.a c.cells, .a [.int .i64 r.kind, .int .i64 r.block, .str r.data]] (.c (.int .i64 (cmdE c r))) := by
 refine PSpec.rm ?_
 refine ov0 hΓ Tryz.func95 56 0 [.tmp 4] Tryz.ntmps95 Tryz.results95 ?_
 have hE : (r.data = ByteArray.empty) ↔ r.data.size = 0 := ⟨fun h => by rw [h]; rfl, QuA⟩
 by_cases h1 : r.kind < 1 ∨ 4 < r.kind
 ·refine Br.yes (by simp; omega) (Go0 ?_)
  rw [show cmdE c r = 3 from Qxt h1]
  exact QuV
 ·refine Br.no (by simp; omega) (Go0 ?_)
  by_cases h2 : r.kind = 4 ∧ r.block ≠ 0 ∨ r.kind ≠ 4 ∧ (r.block < 0 ∨ c.blocks ≤ r.block)
  ·have e : cmdE c r = 1 := by unfold cmdE; rw [Qxu h1, Qxt h2]
   by_cases h3 : r.kind = 4 ∧ r.block ≠ 0
   ·refine Br.yes (by simp; omega) (Go0 ?_)
    refine Br.yes (by simp; omega) (Go0 ?_)
    rw [e]
    exact QuV
   ·refine Br.no (by simp; omega) (Go0 ?_)
    refine Br.yes (by simp; omega) (Go0 ?_)
    rw [e]
    exact QuV
  ·refine Br.no (by simp; omega) (Go0 ?_)
   refine Br.no (by simp; omega) (Go0 ?_)
   by_cases h3 : r.kind = 2 ∧ r.data.size ≠ 16 ∨ r.kind ≠ 2 ∧ r.data.size ≠ 0
   ·have e : cmdE c r = 2 := by unfold cmdE; rw [Qxu h1, Qxu h2, Qxt h3]
    by_cases h4 : r.kind = 2 ∧ r.data.size ≠ 16
    ·refine Br.yes (by simp; omega) (Go0 ?_)
     refine Br.yes (by simp; omega) (Go0 ?_)
     rw [e]
     exact QuV
    ·refine Br.no (by simp; omega) (Go0 ?_)
     refine Br.yes (by simp; rw [show (ByteArray.mk #[]) = ByteArray.empty from rfl, hE]; omega) (Go0 ?_)
     rw [e]
     exact QuV
   ·have e : cmdE c r = 0 := by unfold cmdE; rw [Qxu h1, Qxu h2, Qxu h3]
    refine Br.no (by simp; omega) (Go0 ?_)
    refine Br.no (by simp; rw [show (ByteArray.mk #[]) = ByteArray.empty from rfl, hE]; omega) (Go0 ?_)
    rw [e]
    exact QuV
theorem QdB : HB 95 := hB Tryz.func95
theorem Qc5 (r : Rng) (hr : r.items.length ≤ 1000000) : PS 130 [.a r.cells] (.c (.bool (QbH r))) := by
 have no : ¬ QbH r = true → QbH r = false := Qq
 refine PSpec.rm ?_
 refine ov0 hΓ Tryz.func130 54 0 [.tmp 2] Tryz.ntmps130 Tryz.results130 ?_
 by_cases h0 : 1 ≤ r.depth ∧ r.depth ≤ 8 ∧ (r.items.length : Int) ≤ r.depth
 ·refine Br.no (QxG.2 fun ebye => by simp [-List.getD_eq_getElem?_getD, -Int.default_eq_zero, h0.1,h0.2.1,h0.2.2] at ebye <;> grind) ?_; conv=>whnf
  refine Go0 ?_
  refine QuY hΓ (ι := Nat) [1] (fun i => [(3, .c (.int .i64 i))]) (fun _ => [.vr r.cells]) (fun k => k ≤ r.items.length ∧ ∀ i, i < k → 0 ≤ (r.items.getD i default).serial ∧ (0 < i → (r.items.getD (i - 1) default).serial < (r.items.getD i default).serial)) (fun i => r.items.length - i) 0 ⟨Qxx _, fun j hj => absurd hj (QxN _)⟩ ?_ ?_
  ·exact QuW
  ·rintro k ⟨hk, hk2⟩
   refine Go1 fun _h=>?_
   refine Br.of (fun h1=>Go0 ?_) (fun h1=>Go0 ?_)
   ·refine Dr.mk hΓ hMix (by kernel_rfl) (Go0 ?_)
    have w0 := Qa (↑k + 1) om om
    rcases Qx3 k with k0 | k0
    ·subst k0
     refine Go0 ?_
     by_cases d : 0 ≤ (r.items.getD 0 default).serial
     ·refine Br.no (QxG.2 fun ebye => by simp [-List.getD_eq_getElem?_getD, -Int.default_eq_zero, d] at ebye <;> grind) ?_; conv=>whnf
      refine Go0 ?_
      refine ⟨0 + 1, ⟨om, Q0 hk2 ⟨d, fun z => absurd z (Nat.lt_irrefl 0)⟩⟩, om, ?_⟩
      exact QuW
     ·refine Br.yes (QxC fun ebye => d (by simp [-List.getD_eq_getElem?_getD, -Int.default_eq_zero] at ebye <;> grind)) ?_; conv=>whnf
      refine Go0 ?_
      rw [no (fun z => d ((ringOk_R.1 z).2 0 om).1)]
      exact QuV
    ·have w2 := Qa ((k : Int) - 1) om om
     have w3 : ((k : Int) - 1).toNat = k - 1 := by omega
     rw [w2]
     refine Go0 ?_
     rw [w3]
     by_cases d : 0 ≤ (r.items.getD k default).serial ∧ (r.items.getD (k - 1) default).serial < (r.items.getD k default).serial
     ·refine Br.no (QxG.2 fun ebye => by simp [-List.getD_eq_getElem?_getD, -Int.default_eq_zero, d.1,d.2] at ebye <;> grind) ?_; conv=>whnf
      refine Go0 ?_
      refine ⟨k + 1, ⟨om, Q0 hk2 ⟨d.1, fun _ => d.2⟩⟩, om, ?_⟩
      exact QuW
     ·refine Br.yes (QxC fun ebye => d (by simp [-List.getD_eq_getElem?_getD, -Int.default_eq_zero] at ebye <;> grind)) ?_; conv=>whnf
      refine Go0 ?_
      rw [no (fun z => d (by have := (ringOk_R.1 z).2 k om; exact ⟨this.1, this.2 k0⟩))]
      exact QuV
   ·rw [ringOk_R.2 ⟨h0, fun i hi => hk2 i om⟩]
    exact QuV
 ·refine Br.yes (QxC fun ebye => h0 (by simp [-List.getD_eq_getElem?_getD, -Int.default_eq_zero] at ebye <;> grind)) ?_; conv=>whnf
  refine Go0 ?_
  rw [no (fun z => h0 (ringOk_R.1 z).1)]
  exact QuV
theorem Qc8 : HB 130 := hB Tryz.func130
set_option maxHeartbeats 2000000 in
theorem Qvp (r : Rng) (x : Req) (hr : r.items.length ≤ 1000000) : PS 92 [.a r.cells, .a x.cells] (.t [.inr (QtT r x).1.cells, .inl (.int .i64 (QtT r x).2)]) := by
 refine PSpec.rm ?_
 refine ov0 hΓ Tryz.func92 53 0 [.cell 4 164, .tmp 5] Tryz.ntmps92 Tryz.results92 ?_
 refine QuU Qc8 (Qc5 r hr ) (Go0 ?_)
 by_cases h0 : QbH r = true
 ·refine Br.no (by rw [h0]; rfl) (Go1 fun _h=>?_)
  by_cases h1 : (r.items.length : Int) = r.depth
  ·refine Br.yes (by simpa using h1) (Go0 ?_)
   rw [show QtT r x = (r, 13) by unfold QtT; rw [Qxt h0, Qxt h1]]
   exact QuV
  ·refine Br.no (by simpa using h1) (Go0 ?_)
   refine Dr.mk hΓ hMix (by kernel_rfl) (Go0 ?_)
   rcases Qx3 r.items.length with k0 | k0
   ·have z0 : ¬ (0 : Int) < (r.items.length : Int) := by omega
    refine Go0 ?_
    by_cases d : 0 ≤ x.serial
    ·refine Br.no (QxG.2 fun ebye => by simp [-List.getD_eq_getElem?_getD, -Int.default_eq_zero, d,k0] at ebye <;> grind) ?_; conv=>whnf
     refine Go0 ?_
     refine Qvd hΓ hMix [4294967296] [(4, 3), (5, 3)] (by kernel_rfl) (Go0 ?_)
     rw [show QtT r x = (⟨r.depth, r.items ++ [x]⟩, 0) by unfold QtT; rw [Qxt h0, Qxu h1, Qxu om]]
     refine QvC (FwT.consL (FwL.cons (Fw.same rfl) (FwL.cons (QvI rfl rfl (by simp) (fun i hi j hj => Qu6 (x := x) (by simp) om hj) (fun i j => QhJ _ _)) FwL.nil)) (FwT.consC (Fw.same rfl) FwT.nil))
    ·refine Br.yes (by simp; omega) (Go0 ?_)
     rw [show QtT r x = (r, 17) by unfold QtT; rw [Qxt h0, Qxu h1, Qxt (Or.inl om)]]
     exact QuV
   ·have w2 := Qa ((r.items.length : Int) - 1) om om
    have w3 : ((r.items.length : Int) - 1).toNat = r.items.length - 1 := by omega
    rw [w2]
    refine Go0 ?_
    rw [w3]
    by_cases d : 0 ≤ x.serial ∧ (r.items.getD (r.items.length - 1) default).serial < x.serial
    ·refine Br.no (QxG.2 fun ebye => by simp [-List.getD_eq_getElem?_getD, -Int.default_eq_zero, d.1,d.2] at ebye <;> grind) ?_; conv=>whnf
     refine Go0 ?_
     refine Qvd hΓ hMix [4294967296] [(4, 3), (5, 3)] (by kernel_rfl) (Go0 ?_)
     rw [show QtT r x = (⟨r.depth, r.items ++ [x]⟩, 0) by unfold QtT; rw [Qxt h0, Qxu h1, Qxu om]]
     refine QvC (FwT.consL (FwL.cons (Fw.same rfl) (FwL.cons (QvI rfl rfl (by simp) (fun i hi j hj => Qu6 (x := x) (by simp) om hj) (fun i j => QhJ _ _)) FwL.nil)) (FwT.consC (Fw.same rfl) FwT.nil))
    ·refine Br.yes (QxC fun ebye => d (by simp [-List.getD_eq_getElem?_getD, -Int.default_eq_zero] at ebye <;> grind)) ?_; conv=>whnf
     refine Go0 ?_
     rw [show QtT r x = (r, 17) by unfold QtT; rw [Qxt h0, Qxu h1, Qxt om]]
     exact QuV
 ·refine Br.yes (by rw [Qq h0]; rfl) (Go0 ?_)
  rw [show QtT r x = (r, 6) from Qxu h0]
  exact QuV
theorem Qvq : HB 92 := hB Tryz.func92
theorem QsS (r : Rng) (hr : r.items.length ≤ 1000000) : PS 94 [.a r.cells] (.t [.inr (Qsx r).1.cells, .inr (Qsx r).2.1.cells, .inl (.bool (Qsx r).2.2)]) := by
 refine PSpec.rm ?_
 refine ov0 hΓ Tryz.func94 29 0 [.cell 2 164, .cell 3 92, .tmp 4] Tryz.ntmps94 Tryz.results94 ?_
 refine QuU Qc8 (Qc5 r hr ) (Go0 ?_)
 by_cases h : QbH r = true ∧ 0 < r.items.length
 ·refine Br.no (QxG.2 fun ebye => by simp [-List.getD_eq_getElem?_getD, -Int.default_eq_zero, h.1] at ebye <;> grind) ?_; conv=>whnf
  refine Go0 ?_
  refine Qvd hΓ hMix [] [(1, 2)] (by kernel_rfl) (Go0 ?_)
  rw [show Qsx r = (⟨r.depth, r.items.drop 1⟩, r.items.getD 0 default, true) from Qxt h]
  have e : (r.items.drop 1).length = r.items.length - 1 := by simp
  refine QvC (FwT.consL (FwL.cons (Fw.same rfl) (FwL.cons (QvI rfl rfl (by simp) (fun i hi j hj => (show reqG r.items (1 + i) j = reqG (r.items.drop 1) i j from rowG_drop.symm)) (fun i j => QhJ _ _)) FwL.nil)) (FwT.consL (FwL.cons (Fw.same rfl) (FwL.cons (Fw.same rfl) (FwL.cons (Fw.same rfl) (FwL.cons (Fw.same rfl) FwL.nil)))) (FwT.consC (Fw.same rfl) FwT.nil)))
 ·refine Br.yes (QxC fun ebye => h (by simp [-List.getD_eq_getElem?_getD, -Int.default_eq_zero] at ebye <;> grind)) ?_; conv=>whnf
  refine Go0 ?_
  rw [show Qsx r = (r, default, false) from Qxu h]
  exact QuV
theorem Qse : HB 94 := hB Tryz.func94
end Go.Proofs
end

section
namespace Go.Proofs
open Go.Shelf
def QwD : Go.Shelf.Ren := ⟨fun | 6 => 295 | 15 => 308 | 14 => 307 | 28 => 321 | 29 => 322 | 20 => 313 | 21 => 314 | 22 => 315 | 23 => 316 | 24 => 317 | 25 => 318 | 26 => 319 | 27 => 320 | 46 => 323 | 47 => 324 | 48 => 325 | 49 => 326 | 50 => 327 | 57 => 328 | n => n, fun | 22 => 50 | 24 => 47 | 25 => 349 | 3 => 3 | 39 => 294 | 0 => 0 | 53 => 259 | 55 => 354 | 4 => 4 | 46 => 367 | 45 => 366 | 50 => 123 | 5 => 5 | 9 => 9 | 66 => 374 | 70 => 184 | 76 => 379 | 77 => 276 | n => n, fun | n => n⟩
theorem Qwv : Go.Proofs.SlLaysF0.n6 Tryz.prog QwD := {
 mixed := by kernel_rfl,
 f6 := ⟨"slices.SortFunc[[]zoneappend/api.Entry,zoneappend/api.Entry]", by decide, Tryz.func295.trans (congrArg some (by kernel_rfl))⟩,
 f14 := ⟨"slices.pdqsortCmpFunc[zoneappend/api.Entry]", by decide, Tryz.func307.trans (congrArg some (by kernel_rfl))⟩,
 f15 := Tryz.func308.trans (congrArg some (by kernel_rfl)),
 f20 := ⟨"slices.insertionSortCmpFunc[zoneappend/api.Entry]", by decide, Tryz.func313.trans (congrArg some (by kernel_rfl))⟩,
 f21 := ⟨"slices.heapSortCmpFunc[zoneappend/api.Entry]", by decide, Tryz.func314.trans (congrArg some (by kernel_rfl))⟩,
 f22 := ⟨"slices.breakPatternsCmpFunc[zoneappend/api.Entry]", by decide, Tryz.func315.trans (congrArg some (by kernel_rfl))⟩,
 f23 := ⟨"slices.choosePivotCmpFunc[zoneappend/api.Entry]", by decide, Tryz.func316.trans (congrArg some (by kernel_rfl))⟩,
 f24 := ⟨"slices.reverseRangeCmpFunc[zoneappend/api.Entry]", by decide, Tryz.func317.trans (congrArg some (by kernel_rfl))⟩,
 f25 := ⟨"slices.partialInsertionSortCmpFunc[zoneappend/api.Entry]", by decide, Tryz.func318.trans (congrArg some (by kernel_rfl))⟩,
 f26 := ⟨"slices.partitionEqualCmpFunc[zoneappend/api.Entry]", by decide, Tryz.func319.trans (congrArg some (by kernel_rfl))⟩,
 f27 := ⟨"slices.partitionCmpFunc[zoneappend/api.Entry]", by decide, Tryz.func320.trans (congrArg some (by kernel_rfl))⟩,
 f28 := Tryz.func321.trans (congrArg some (by kernel_rfl)),
 f29 := Tryz.func322.trans (congrArg some (by kernel_rfl)),
 f46 := ⟨"slices.siftDownCmpFunc[zoneappend/api.Entry]", by decide, Tryz.func323.trans (congrArg some (by kernel_rfl))⟩,
 f47 := Tryz.func324.trans (congrArg some (by kernel_rfl)),
 f48 := Tryz.func325.trans (congrArg some (by kernel_rfl)),
 f49 := ⟨"slices.medianAdjacentCmpFunc[zoneappend/api.Entry]", by decide, Tryz.func326.trans (congrArg some (by kernel_rfl))⟩,
 f50 := ⟨"slices.medianCmpFunc[zoneappend/api.Entry]", by decide, Tryz.func327.trans (congrArg some (by kernel_rfl))⟩,
 f57 := ⟨"slices.order2CmpFunc[zoneappend/api.Entry]", by decide, Tryz.func328.trans (congrArg some (by kernel_rfl))⟩,
 t0 := Tryz.underlying0,
 a0 := Tryz.isAgg0,
 z0 := Tryz.sizeOf0,
 v0 := Tryz.zeroValue0,
 t3 := Tryz.underlying3,
 a3 := Tryz.isAgg3,
 z3 := Tryz.sizeOf3,
 v3 := Tryz.zeroValue3,
 t4 := Tryz.underlying4,
 a4 := Tryz.isAgg4,
 z4 := Tryz.sizeOf4,
 v4 := Tryz.zeroValue4,
 t5 := Tryz.underlying5,
 a5 := Tryz.isAgg5,
 z5 := Tryz.sizeOf5,
 v5 := Tryz.zeroValue5,
 t9 := Tryz.underlying9,
 a9 := Tryz.isAgg9,
 z9 := Tryz.sizeOf9,
 v9 := Tryz.zeroValue9,
 t22 := Tryz.underlying50,
 a22 := Tryz.isAgg50,
 z22 := Tryz.sizeOf50,
 v22 := Tryz.zeroValue50,
 t25 := Tryz.underlying349,
 a25 := Tryz.isAgg349,
 z25 := Tryz.sizeOf349,
 v25 := Tryz.zeroValue349,
 t39 := Tryz.underlying294,
 a39 := Tryz.isAgg294,
 z39 := Tryz.sizeOf294,
 v39 := Tryz.zeroValue294,
 t45 := Tryz.underlying366,
 a45 := Tryz.isAgg366,
 z45 := Tryz.sizeOf366,
 v45 := Tryz.zeroValue366,
 t46 := Tryz.underlying367,
 a46 := Tryz.isAgg367,
 z46 := Tryz.sizeOf367,
 v46 := Tryz.zeroValue367,
 t50 := Tryz.underlying123,
 a50 := Tryz.isAgg123,
 z50 := Tryz.sizeOf123,
 v50 := Tryz.zeroValue123,
 t53 := Tryz.underlying259,
 a53 := Tryz.isAgg259,
 z53 := Tryz.sizeOf259,
 v53 := Tryz.zeroValue259,
 t55 := Tryz.underlying354,
 a55 := Tryz.isAgg354,
 z55 := Tryz.sizeOf354,
 v55 := Tryz.zeroValue354,
 t66 := Tryz.underlying374,
 a66 := Tryz.isAgg374,
 z66 := Tryz.sizeOf374,
 v66 := Tryz.zeroValue374,
 t70 := Tryz.underlying184,
 a70 := Tryz.isAgg184,
 z70 := Tryz.sizeOf184,
 v70 := Tryz.zeroValue184,
 t76 := Tryz.underlying379,
 a76 := Tryz.isAgg379,
 z76 := Tryz.sizeOf379,
 v76 := Tryz.zeroValue379,
 t77 := Tryz.underlying276,
 a77 := Tryz.isAgg276,
 z77 := Tryz.sizeOf276,
 v77 := Tryz.zeroValue276 }
def Tryz.layGrowE_ren : Go.Shelf.Ren := ⟨fun | 4 => 306 | n => n, fun | 22 => 50 | 25 => 47 | 3 => 3 | 4 => 4 | 9 => 9 | 20 => 20 | 0 => 0 | n => n, fun | n => n⟩
theorem Qww : Go.Proofs.Lays8.n4 Tryz.prog Tryz.layGrowE_ren := {
 mixed := by kernel_rfl,
 f4 := ⟨"slices.Grow[[]zoneappend/api.Entry,zoneappend/api.Entry]", by decide, Tryz.func306.trans (congrArg some (by kernel_rfl))⟩,
 t0 := Tryz.underlying0,
 a0 := Tryz.isAgg0,
 z0 := Tryz.sizeOf0,
 v0 := Tryz.zeroValue0,
 t3 := Tryz.underlying3,
 a3 := Tryz.isAgg3,
 z3 := Tryz.sizeOf3,
 v3 := Tryz.zeroValue3,
 t4 := Tryz.underlying4,
 a4 := Tryz.isAgg4,
 z4 := Tryz.sizeOf4,
 v4 := Tryz.zeroValue4,
 t9 := Tryz.underlying9,
 a9 := Tryz.isAgg9,
 z9 := Tryz.sizeOf9,
 v9 := Tryz.zeroValue9,
 t20 := Tryz.underlying20,
 a20 := Tryz.isAgg20,
 z20 := Tryz.sizeOf20,
 v20 := Tryz.zeroValue20,
 t22 := Tryz.underlying50,
 a22 := Tryz.isAgg50,
 z22 := Tryz.sizeOf50,
 v22 := Tryz.zeroValue50 }
end Go.Proofs
end

section
open Go Go.Am
namespace Go.Proofs
set_option maxRecDepth 20000
open Go.Shelf Go.RowKit Go.Lib Go.Sort
abbrev EntB := { e : Ent // 0 ≤ e.block ∧ e.block ≤ 9223372036854775807 }
instance : Inhabited EntB := ⟨⟨default, by decide⟩⟩
def encB (x : EntB) : List Value := [.int .i64 x.1.block, .int .i64 x.1.kind, .int .i64 x.1.version, .int .i64 x.1.move, .int .i64 x.1.zone, .int .i64 x.1.offset]
def cmpB (x y : EntB) : Int := x.1.block - y.1.block
theorem ltB (x y : EntB) : ltOf cmpB x y = decide (x.1.block < y.1.block) := by
 unfold ltOf cmpB
 exact decide_eq_decide.2 om
theorem swoB : SWO (ltOf cmpB) where
 irrefl x := by rw [ltB]; exact decide_eq_false om
 trans x y z h1 h2 := by rw [ltB, decide_eq_true_eq] at *; omega
 ntrans x y z h1 h2 := by rw [ltB, decide_eq_false_iff_not] at *; omega
set_option maxHeartbeats 1000000 in
theorem closureB (x y : EntB) (W : World) : Calls Tryz.prog 296 #[.agg #[.int .i64 x.1.block, .int .i64 x.1.kind, .int .i64 x.1.version, .int .i64 x.1.move, .int .i64 x.1.zone, .int .i64 x.1.offset], .agg #[.int .i64 y.1.block, .int .i64 y.1.kind, .int .i64 y.1.version, .int .i64 y.1.move, .int .i64 y.1.zone, .int .i64 y.1.offset]] W fun e w' => e = .returned (.int .i64 (cmpB x y)) ∧ ∃ q os', w' = grow (W.drewN q) os' := by
 have hw : IntKind.i64.wrap (x.1.block - y.1.block) = cmpB x y := by
  have h1 := x.2
  have h2 := y.2
  exact Qa _ om om
 generalize cmpB x y = r at hw ⊢
 go_enter Tryz.func296, Tryz.ntmps296
 go_wp2
 go_ret
 exact ⟨rfl, 0, _, by rw [alloc_eq_grow, alloc_eq_grow, grow_grow]; rfl⟩
theorem cmpLaysB (blk off size : Nat) (w : World) : CmpLays Tryz.prog 296 #[] encB 6 cmpB blk off size w :=
 fun _ _ _ _ x y => closureB x y _
theorem encB_get (x : EntB) {j : Nat} (hj : j < 6) (F : Mem) (v : Value) : RepF F (x.1.cell j) v ↔ v = (encB x)[j]! := by
 match j, hj with
 | 0, _ => exact Iff.rfl
 | 1, _ => exact Iff.rfl
 | 2, _ => exact Iff.rfl
 | 3, _ => exact Iff.rfl
 | 4, _ => exact Iff.rfl
 | 5, _ => exact Iff.rfl
def rowB (l : List Ent) (h : ∀ e ∈ l, 0 ≤ e.block ∧ e.block ≤ 9223372036854775807) : Array EntB := (l.attach.map fun e => (⟨e.1, h e.1 e.2⟩ : EntB)).toArray
theorem rowB_size (l : List Ent) (h) : (rowB l h).size = l.length := by simp [rowB]
theorem rowB_get (l : List Ent) (h) {i : Nat} (hi : i < l.length) : ((rowB l h)[i]!).1 = l.getD i default := by
 have : i < (rowB l h).size := by rw [rowB_size]; exact hi
 rw [getElem!_pos (rowB l h) i this, Qu _ _ hi]
 simp [rowB]
theorem rowB_list (l : List Ent) (h) : (rowB l h).toList.map Subtype.val = l := by
 simp [rowB, List.map_map, Function.comp_def]
set_option maxHeartbeats 1000000 in
theorem sortE_spec (m : List (List Ent)) (hm : Qx m = true) (l : List Ent) (hp : l.Perm m.flatten) (hb : ∀ e ∈ l, 0 ≤ e.block ∧ e.block ≤ 9223372036854775807) (hl : 0 < l.length) (hl2 : l.length ≤ 100000000) (gx : Nat → C) :
  CSpec Tryz.prog 295 [.c (.sl 0 6 l.length l.length false), .c (.fn (.func 296) 0 gx)] [.arr 47 6 l.length (entG l)] fun s H => s = .t [] ∧ H = [.arr 47 6 l.length (entG (allM m))] := by
 have hpa := (QcJ hm).2
 have hba : ∀ e ∈ allM m, 0 ≤ e.block ∧ e.block ≤ 9223372036854775807 := fun e he => hb e (hp.mem_iff.2 (hpa.mem_iff.1 he))
 have hla : (allM m).length = l.length := (hpa.trans hp.symm).length_eq
 refine Qw3 (α := EntB) (enc := encB) (d := rowB l hb) (d' := rowB (allM m) hba) hl om (rowB_size _ _) ((rowB_size _ _).trans hla) (fun i hi j hj F v hv => ?_) (fun _ _ _ _ => Qaw _ _) (fun i hi j hj F => ?_) (fun b cap w hH hblk hnc hcm => ?_)
 ·refine (encB_get (rowB l hb)[i]! hj F v).1 ?_
  rw [rowB_get l hb hi]
  exact hv
 ·have := (encB_get (rowB (allM m) hba)[i]! hj F _).2 rfl
  rw [rowB_get (allM m) hba om] at this
  exact this
 ·have eg : ∀ args w, (callFunc 296 args).run Tryz.prog w = .ok (.enter 296 args) w := enters_of Tryz.func296 (by kernel_rfl) rfl
  have hcon := AnyQ.slices_SortFunc (P := Tryz.prog) Qwv 6 Tryz.isAgg47 Tryz.sizeOf47 encB (fun _ => rfl) (fun x v hv => by
   simp [encB] at hv
   rcases hv with rfl | rfl | rfl | rfl | rfl | rfl <;> rfl) cmpB swoB 296 #[] b 0 cap (rowB l hb) w eg (cmpLaysB b 0 _ w) hH hblk (by rw [rowB_size]; omega)
  rw [rowB_size] at hcon
  refine Calls.mono hcon ?_
  rintro ex w' ⟨rfl, d', q, os, h1, h2, rfl⟩
  refine ⟨rfl, q, os, ?_⟩
  congr 1
  have hs : d'.size = l.length := by rw [h1.1, rowB_size]
  have hperm : (d'.toList.map Subtype.val).Perm l := by
   have := h1.2.2
   rw [Array.extract_eq_self_of_le om, Array.extract_eq_self_of_le (by rw [rowB_size]; exact Nat.le_refl _)] at this
   have := this.map Subtype.val
   rwa [rowB_list] at this
  have huniq := Qrn hm (l := d'.toList.map Subtype.val) (hperm.trans hp) (by
   rw [List.pairwise_map, List.pairwise_iff_getElem]
   intro i j hi hj hij
   have := h2 i j (Nat.zero_le _) hij (by rw [← hs]; simpa using hj)
   rw [ltB, decide_eq_false_iff_not] at this
   rw [getElem!_pos d' j (by simpa using hj), getElem!_pos d' i (by simpa using hi)] at this
   simpa using this)
  have hd : d'.toList = (rowB (allM m) hba).toList := by
   exact (List.map_inj_right (fun a b h => Subtype.ext h)).1 (huniq.trans (rowB_list (allM m) hba).symm)
  exact Array.toList_inj.1 hd
theorem sortE_body : HasBody Tryz.prog 295 := hB Tryz.func295
end Go.Proofs
end

section
open Go Go.Am
namespace Go.Proofs
set_option maxRecDepth 20000
open Go.Shelf Go.RowKit Go.Lib
theorem growE_spec (n : Nat) (hn : n ≤ 10000000) : CSpec Tryz.prog 306 [.c .nils, .c (.int .i64 n)] [] fun s H => s = .c (.sl 0 6 0 0 false) ∧ H = [.arr 47 6 0 (entG [])] := by
 intro K F μ w vs hw hA
 obtain ⟨v, v1, v2⟩ := hA.2 0 _ rfl
 obtain ⟨u, u1, u2⟩ := hA.2 1 _ rfl
 have hvs : vs = #[.slice none 0 0, .int .i64 n] := by
  apply Array.ext_getElem?
  intro j
  match j with
  | 0 => rw [v1, show v = _ from v2]; rfl
  | 1 => rw [u1, show u = _ from u2]; rfl
  | j + 2 => rw [Array.getElem?_eq_none (by rw [hA.1]; simp), Array.getElem?_eq_none (by simp)]
 subst hvs
 obtain ⟨xi, z, i1, i2, i3, i4, i5⟩ := QqH (P := Tryz.prog) (hΓ 47 _ rfl)
 by_cases h0 : n = 0
 ·subst h0
  have hc := Any8.slices_Grow_room (P := Tryz.prog) Qww none 0 0 0 w om om om om
  refine Calls.mono hc ?_
  rintro e w' ⟨rfl, rfl⟩
  have hE := Ext.push ([] : List O) μ (.arr 47 6 0 (entG [])) (.slice none 0 0)
  refine ⟨_, F, _, .c (.sl 0 6 0 0 false), _, rfl, Mem.le_refl F, hw.push (.arr 47 6 0 (entG [])) (.slice none 0 0) ⟨rfl, rfl, rfl, Nat.le_refl _, fun _ _ _ => rfl⟩ (fun b hb => by cases hb) ?_, hE, ?_, rfl, rfl⟩
  ·exact ⟨[], ⟨rfl, .inl ⟨by simp [upd], rfl⟩⟩, Nat.zero_le _, fun i hi => by omega, Sp.none (by simp [upd, blk])⟩
  ·exact ⟨rfl, _, 0, _, rfl, Nat.le_refl _, Nat.le_refl _, fun _ => ⟨none, 0, by simp [upd], rfl, fun e => by cases e⟩⟩
 ·have hc := Any8.slices_Grow_grow (P := Tryz.prog) Qww xi z i1 i4 (by rw [i2]; decide) none 0 0 n [] w om om (by rw [i3]; simp; omega) om (by simp) (fun _ => rfl) (fun a h => by cases h)
  refine Calls.mono hc ?_
  rintro e w' ⟨rfl, hw'⟩
  have hcm : grownCap w (0 + n) 0 47 ≤ maxLen := grownCap_le_maxLen w (0 + n) 0 47 (by unfold maxLen; omega)
  have hge := grownCap_ge w (0 + n) 0 47
  obtain ⟨cs, hcs, hsz, hone⟩ : ∃ cs : Array Value, w' = w.drew.alloc (.cells cs 47) ∧ cs.size = grownCap w (0 + n) 0 47 * 6 ∧ ∀ u ∈ cs.toList, u.oneCell' = true := by
   refine ⟨_, hw', ?_, Qbj (Qbj (by intro u hu; cases hu) (Qbq (QcH (hΓ 47 _ rfl) i1 i4))) (Qbq (QcH (hΓ 47 _ rfl) i1 i4))⟩
   have i6 : z.cells.size = 6 := i5
   have e1 : grownCap w (0 + n) 0 (Tryz.layGrowE_ren.t 25) = grownCap w (0 + n) 0 47 := rfl
   rw [e1]
   simp only [Array.size_append, size_zeroCells, i6]
   simp at hge ⊢
   omega
  subst hcs
  have hE := Ext.push ([] : List O) μ (.arr 47 6 0 (entG [])) (.slice (some ⟨w.heap.size, 0, none⟩) 0 (grownCap w (0 + n) 0 47))
  have hgr : w.grownBy (w.drew.alloc (.cells cs 47)) none := ⟨rfl, rfl, rfl, by simp, fun k hk _ => Go.heap_alloc_old w.drew _ hk⟩
  refine ⟨_, F, _, .c (.sl 0 6 0 0 false), _, rfl, Mem.le_refl F, hw.push (.arr 47 6 0 (entG [])) (.slice (some ⟨w.heap.size, 0, none⟩) 0 (grownCap w (0 + n) 0 47)) hgr (fun b hb => by cases hb; exact Nat.le_refl _) ?_, hE, ?_, rfl, rfl⟩
  ·exact ⟨[], ⟨rfl, .inr ⟨w.heap.size, _, cs, by simp [upd], Nat.zero_le _, Go.heap_alloc_new w.drew _, Nat.zero_le _, hcm, hsz, by simp⟩⟩, Nat.zero_le _, fun i hi => by omega, Sp.of (b := w.heap.size) (by simp [upd, blk]) (Go.heap_alloc_new w.drew _) hone⟩
  ·exact ⟨rfl, _, 0, _, rfl, Nat.le_refl _, Nat.le_refl _, fun _ => ⟨_, _, by simp [upd]; rfl, rfl, fun e => by cases e⟩⟩
theorem growE_body : HasBody Tryz.prog 306 := hB Tryz.func306
end Go.Proofs
end
