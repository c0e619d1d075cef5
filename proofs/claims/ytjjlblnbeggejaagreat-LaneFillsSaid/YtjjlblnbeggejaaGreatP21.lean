/- Contracts, lemmas; no condition. -/
import Derived.Test.YtjjlblnbeggejaaGreatP20
import Derived.Test.YtjjlblnbeggejaaGreatP16
import Derived.Test.YtjjlblnbeggejaaGreatP12
import Derived.Test.YtjjlblnbeggejaaGreatP10
import Derived.Test.YtjjlblnbeggejaaGreatEnv
import Derived.Shelf.SlSortCmp.WholeK
import Derived.Shelf.Spec.SlicesGrow
set_option linter.all false
section
open Go Go.Am
namespace Go.Am
theorem CallE.reads {P : Program} {f : FuncId} {args args' : List S} {r : S} {H : List O} {k : S → List O → Prop} (hb : HasBody P f) (hp : PSpec P f args' r) (ha : BwA H args args') (hr : r.flat = true) (hk : k r H) : CallE P f args H k :=
 ⟨r, H, hb, CSpec.reads hp ha hr ⟨rfl, rfl⟩, fun _ _ _ h => h, hk⟩
end Go.Am
namespace Go.Proofs
set_option maxRecDepth 20000
theorem BwL.own {H : List O} {s : St} {a b c e1 e2 e3 : Nat} {x1 x2 x3 : Bool} (ha : getL H a = some (.arr e1 2 s.rings.length (rngG s.rings))) (hb : getL H b = some (.arr e2 12 s.works.length (wrkG s.works))) (hc : getL H c = some (.arr e3 8 s.evs.length (evG s.evs))) :
  BwL H (s.cellsW (.sl a 2 s.rings.length s.rings.length x1) (.sl b 12 s.works.length s.works.length x2) (.sl c 8 s.evs.length s.evs.length x3)) s.cells := by
 have ra : Bw H (.sl a 2 s.rings.length s.rings.length x1) (rngC s.rings) := Bw.sl ha rfl (fun i _ j _ => Bw.same (Qau _ _)) (fun e => by cases e)
 have rb : Bw H (.sl b 12 s.works.length s.works.length x2) (wrkC s.works) := Bw.sl hb rfl (fun i _ j _ => Bw.same (QaW _ _)) (fun e => by cases e)
 have rc : Bw H (.sl c 8 s.evs.length s.evs.length x3) (evC s.evs) := Bw.sl hc rfl (fun i _ j _ => Bw.same (Qd5 _ _)) (fun e => by cases e)
 unfold St.cells St.cellsW St.cellsX St.cellsZ
 repeat' (first | exact BwL.nil | refine BwL.cons ?_ ?_ | exact ra | exact rb | exact rc | exact Bw.same rfl)
end Go.Proofs
end

section
open Go Go.Am
namespace Go.Proofs
set_option maxRecDepth 20000
instance : PlainF Evt.cell := ⟨fun e j => by unfold Evt.cell; split <;> rfl⟩
instance : PlainF Ent.cell := ⟨fun e j => by unfold Ent.cell; split <;> rfl⟩
instance : PlainF Ret.cell := ⟨fun e j => by unfold Ret.cell; split <;> rfl⟩
instance : PlainF Req.cell := ⟨fun e j => by unfold Req.cell; split <;> rfl⟩
instance : PlainF Rng.cell := ⟨fun e j => by unfold Rng.cell; split <;> rfl⟩
instance : PlainF Wrk.cell := ⟨fun e j => by unfold Wrk.cell; split <;> rfl⟩
instance : PlainF Qeu := ⟨fun e j => by unfold Qeu; split <;> rfl⟩
instance : PlainF Zone.cell := ⟨fun e j => by unfold Zone.cell; split <;> rfl⟩
instance : PlainF (fun (l : List Ent) (_ : Nat) => Qap l) := ⟨fun e j => rfl⟩
instance {q : IntKind} : PlainF (intC q) := ⟨fun e j => rfl⟩
theorem FwL.own {H : List O} {s : St} {a b c e1 e2 e3 : Nat} {x1 x2 x3 : Bool} (ha : getL H a = some (.arr e1 2 s.rings.length (rngG s.rings))) (hb : getL H b = some (.arr e2 12 s.works.length (wrkG s.works))) (hc : getL H c = some (.arr e3 8 s.evs.length (evG s.evs))) :
  FwL H (s.cellsW (.sl a 2 s.rings.length s.rings.length x1) (.sl b 12 s.works.length s.works.length x2) (.sl c 8 s.evs.length s.evs.length x3)) s.cells := by
 have ra : Fw H (.sl a 2 s.rings.length s.rings.length x1) (rngC s.rings) := Fw.sl ha rfl (fun i _ j _ => Fw.same (Qau _ _)) (fun e => by cases e)
 have rb : Fw H (.sl b 12 s.works.length s.works.length x2) (wrkC s.works) := Fw.sl hb rfl (fun i _ j _ => Fw.same (QaW _ _)) (fun e => by cases e)
 have rc : Fw H (.sl c 8 s.evs.length s.evs.length x3) (evC s.evs) := Fw.sl hc rfl (fun i _ j _ => Fw.same (Qd5 _ _)) (fun e => by cases e)
 unfold St.cells St.cellsW St.cellsX St.cellsZ
 repeat' (first | exact FwL.nil | refine FwL.cons ?_ ?_ | exact ra | exact rb | exact rc | exact Fw.same rfl)
def QtB (s : St) : List Int := if QaI s = true then QtE s.evs else []
def cutN (l : List Wrk) (n : Int) (k : Nat) : Int := if (l.take k).any Qid = true then Qqn n l k else 0
theorem Qgj {l : List Ret} {k : Nat} {z : Int} (hk : k < l.length) : QbO (l.take (k + 1)) z = (QbO (l.take k) z || decide ((l.getD k default).zone = z)) := by
 unfold QbO
 rw [Qb9 l hk, List.any_append]
 simp
theorem Qqg {g g' : Nat → Nat → C} {k j0 : Nat} {ys : List C} {i j : Nat} (h : g i j = g' i j) : updG g k j0 ys i j = updG g' k j0 ys i j := by
 unfold updG
 rw [h]
theorem QsG {α : Type} {l : List α} {q : Nat} {x d : α} (hq : q < l.length) : (l.set q x).getD q d = x := by
 simp [List.getD, hq]
theorem QpI (l : List Int) : PS 8 [.c (Qh l)] (.c (.bool (decide (l.length ≤ 300)))) := by
 refine PSpec.rm ?_
 refine ov hΓ Tryz.func8 6 0 [.tmp 2] Tryz.ntmps8 Tryz.results8 ?_
 refine Go1 fun _h=>?_
 refine RM.i1 ?_
 exact decide_eq_decide.2 (by omega)
theorem QqD : HB 8 := hB Tryz.func8
theorem Qh2 (x n : Int) : PS 23 [.c (.int .i64 x), .c (.int .i64 n)] (.c (.int .i64 (modI x n))) := by
 refine PSpec.rm ?_
 refine ov0 hΓ Tryz.func23 14 0 [.tmp 4] Tryz.ntmps23 Tryz.results23 ?_
 refine Br.of (fun h=>Go0 ?_) (fun h=>Go0 ?_)
 ·rw [Qr1 (by omega)]
  exact RM.i0
 ·rw [show modI x n = (IntKind.i64.wrap (x.tmod n + n)).tmod n from if_neg (by omega)]
  exact RM.i0
theorem Qia : HB 23 := hB Tryz.func23
theorem Qk3 (l : List Int) (hl : l.length ≤ 10000000) : CS 15 [.c (Qh l)] [] fun s H => s = .c (.ptr 0 0) ∧ H = [.vr (DiceM.cells ⟨l, 0⟩)] := by
 refine CSpec.rm ?_
 refine ov0 hΓ Tryz.func15 8 0 [.tmp 2] Tryz.ntmps15 Tryz.results15 ?_
 refine ⟨_, _, ?_, rfl, rfl⟩
 refine RM.rg 0 (g' := QaK .i64 l) rfl (fun i _ j _ => QkY j) rfl ?_
 refine RM.fz 0 rfl (Nat.zero_le _) (fun i _ j _ => rfl) ?_
 exact RM.renW [1] (by decide) wb0 wb0
theorem Qkm : HB 15 := hB Tryz.func15
theorem QJ (d : DiceM) (hd : d.ok) (n : Int) : CS 37 [.c (.ptr 0 0), .c (.int .i64 n)] [.vr d.cells] fun s H => s = .c (.int .i64 (d.next n)) ∧ H = [.vr d.step.cells] := by
 refine CSpec.rm ?_
 refine ov hΓ Tryz.func37 35 1 [.tmp 4] Tryz.ntmps37 Tryz.results37 ?_
 have h1 := hd.le
 have h2 := hd.len
 refine Go0 ?_
 refine Dr.mk hΓ hMix (by kernel_rfl) (Go0 ?_)
 refine Br.of (fun h=>Go0 ?_) (fun h=>Go0 ?_)
 ·have h' : d.l.length ≤ d.at_ := by omega
  refine ⟨_, _, ?_, rfl, rfl⟩
  rw [show d.step = d from if_pos h', show d.next n = 0 from if_pos h']
  exact RM.w0
 ·have h' : ¬ d.l.length ≤ d.at_ := by omega
  have w0 := Qa (↑d.at_ + 1) (by omega) (by omega)
  have w1 := Qa (↑d.at_ + 1 - 1) (by omega) (by omega)
  refine Dr.mk hΓ hMix (by kernel_rfl) (Go0 ?_)
  have e0 : (IntKind.i64.wrap (IntKind.i64.wrap (↑d.at_ + 1) - 1)).toNat = d.at_ := by rw [w0, w1]; omega
  rw [e0]
  refine CallP.auto Qia (Qh2 (d.l.getD d.at_ 0) n ) (Go0 ?_)
  refine ⟨_, _, ?_, rfl, rfl⟩
  rw [show d.step = ⟨d.l, d.at_ + 1⟩ from if_neg h', show d.next n = modI (d.l.getD d.at_ 0) n from if_neg h']
  exact RM.w0
theorem QK : HB 37 := hB Tryz.func37
def Qc0 (blocks size : Int) : Int := 2 * (blocks + 2 + size - 1).tdiv size + 6
def Q7 (d : DiceM) : Conf :=
 ⟨Qc0 (1 + d.step.next 6) (3 + d.next 4) + d.step.step.step.step.step.next 3, 3 + d.next 4, 1 + d.step.next 6, 1 + d.step.step.next 3, 1 + d.step.step.step.next 3, 1 + d.step.step.step.step.next 3⟩
def QfD (d : DiceM) : DiceM := d.step.step.step.step.step.step
theorem Qkr {d : DiceM} (h : d.ok) : (QfD d).ok := h.step.step.step.step.step.step
theorem QiT (d : DiceM) (hd : d.ok) : CS 54 [.c (.ptr 0 0)] [.vr d.cells] fun s H => s = .a (Q7 d).cells ∧ H = [.vr (QfD d).cells] := by
 refine CSpec.rm ?_
 refine ov0 hΓ Tryz.func54 37 1 [.cell 2 26] Tryz.ntmps54 Tryz.results54 ?_
 refine CallN.autoQ [0] QK (QJ d hd 4) (Go0 ?_)
 refine CallN.autoQ [0] QK (QJ d.step hd.step 6) (Go0 ?_)
 refine CallN.autoQ [0] QK (QJ d.step.step hd.step.step 3) (Go0 ?_)
 refine CallN.autoQ [0] QK (QJ d.step.step.step hd.step.step.step 3) (Go0 ?_)
 refine CallN.autoQ [0] QK (QJ d.step.step.step.step hd.step.step.step.step 3) (Go0 ?_)
 have r1 := d.next_range (n := 4) (by omega) (by omega)
 have r2 := d.step.next_range (n := 6) (by omega) (by omega)
 have r3 := d.step.step.next_range (n := 3) (by omega) (by omega)
 have r4 := d.step.step.step.next_range (n := 3) (by omega) (by omega)
 have r5 := d.step.step.step.step.next_range (n := 3) (by omega) (by omega)
 have r6 := d.step.step.step.step.step.next_range (n := 3) (by omega) (by omega)
 have w1 := Qa (3 + d.next 4) (by omega) (by omega)
 have w2 := Qa (1 + d.step.next 6) (by omega) (by omega)
 refine Dr.mkE hΓ hMix [37] [(0, 13), (1, 13), (2, 13), (3, 13), (4, 13), (5, 13), (6, 13), (7, 13), (8, 13), (9, 13), (10, 13), (11, 13)] (by kernel_rfl) (Go0 ?_)
 refine CallE.autoQ [0] QK (QJ d.step.step.step.step.step hd.step.step.step.step.step 3) (Go0 ?_)
 refine ⟨_, _, ?_, rfl, rfl⟩
 have hq : 0 ≤ (1 + d.step.next 6 + 2 + (3 + d.next 4) - 1).tdiv (3 + d.next 4) ∧ (1 + d.step.next 6 + 2 + (3 + d.next 4) - 1).tdiv (3 + d.next 4) ≤ 100 := by
  rw [Int.tdiv_eq_ediv_of_nonneg (by omega)]
  exact ⟨Int.ediv_nonneg (by omega) (by omega), Int.ediv_le_of_le_mul (by omega) (by omega)⟩
 have e1 : IntKind.i64.wrap (IntKind.i64.wrap (2 * IntKind.i64.wrap ((IntKind.i64.wrap (IntKind.i64.wrap (IntKind.i64.wrap (IntKind.i64.wrap (1 + d.step.next 6) + 2) + IntKind.i64.wrap (3 + d.next 4)) - 1)).tdiv (IntKind.i64.wrap (3 + d.next 4)))) + 6) = Qc0 (1 + d.step.next 6) (3 + d.next 4) := by
  rw [w1, w2, Qa (1 + d.step.next 6 + 2) (by omega) (by omega), Qa (1 + d.step.next 6 + 2 + (3 + d.next 4)) (by omega) (by omega), Qa (1 + d.step.next 6 + 2 + (3 + d.next 4) - 1) (by omega) (by omega)]
  rw [Qa ((1 + d.step.next 6 + 2 + (3 + d.next 4) - 1).tdiv (3 + d.next 4)) (by omega) (by omega), Qa (2 * (1 + d.step.next 6 + 2 + (3 + d.next 4) - 1).tdiv (3 + d.next 4)) (by omega) (by omega)]
  exact Qa _ (by omega) (by omega)
 have e2 : IntKind.i64.wrap (Qc0 (1 + d.step.next 6) (3 + d.next 4) + d.step.step.step.step.step.next 3) = Qc0 (1 + d.step.next 6) (3 + d.next 4) + d.step.step.step.step.step.next 3 := Qa _ (by unfold Qc0; omega) (by unfold Qc0; omega)
 have f6 : IntKind.i64.wrap (1 + d.step.step.step.step.next 3) = (Q7 d).shards := Qa _ (by omega) (by omega)
 have f5 : IntKind.i64.wrap (1 + d.step.step.step.next 3) = (Q7 d).depth := Qa _ (by omega) (by omega)
 have f4 : IntKind.i64.wrap (1 + d.step.step.next 3) = (Q7 d).queues := Qa _ (by omega) (by omega)
 have f3 : IntKind.i64.wrap (1 + d.step.next 6) = (Q7 d).blocks := w2
 have f2 : IntKind.i64.wrap (3 + d.next 4) = (Q7 d).size := w1
 have f1 : IntKind.i64.wrap (IntKind.i64.wrap (IntKind.i64.wrap (2 * IntKind.i64.wrap ((IntKind.i64.wrap (IntKind.i64.wrap (IntKind.i64.wrap (IntKind.i64.wrap (1 + d.step.next 6) + 2) + IntKind.i64.wrap (3 + d.next 4)) - 1)).tdiv (IntKind.i64.wrap (3 + d.next 4)))) + 6) + d.step.step.step.step.step.next 3) = (Q7 d).zones := by rw [e1]; exact e2
 rw [show QfD d = d.step.step.step.step.step.step from rfl]
 clear w1 w2 e1 e2 r1 r2 r3 r4 r5 r6 hq
 refine RM.wkW ?_ ?_ leN
 ·exact wb0
 ·refine WS.a (WL.cons (WC.int f1) (WL.cons (WC.int f2) (WL.cons (WC.int f3) (WL.cons (WC.int f4) (WL.cons (WC.int f5) (WL.cons (WC.int f6) WL.nil))))))
theorem Qjs : HB 54 := hB Tryz.func54
theorem QfV (d : DiceM) : QB (Q7 d) = 0 := by
 have r1 := d.next_range (n := 4) (by omega) (by omega)
 have r2 := d.step.next_range (n := 6) (by omega) (by omega)
 have r3 := d.step.step.next_range (n := 3) (by omega) (by omega)
 have r4 := d.step.step.step.next_range (n := 3) (by omega) (by omega)
 have r5 := d.step.step.step.step.next_range (n := 3) (by omega) (by omega)
 have r6 := d.step.step.step.step.step.next_range (n := 3) (by omega) (by omega)
 unfold Q7
 generalize d.next 4 = a at *
 generalize d.step.next 6 = b at *
 generalize d.step.step.next 3 = q at *
 generalize d.step.step.step.next 3 = p at *
 generalize d.step.step.step.step.next 3 = m at *
 generalize d.step.step.step.step.step.next 3 = z at *
 have hs : 1 ≤ (1 + b + 2 + (3 + a) - 1).tdiv (3 + a) ∧ (1 + b + 2 + (3 + a) - 1).tdiv (3 + a) ≤ 4 := by
  rw [Int.tdiv_eq_ediv_of_nonneg (by omega)]
  exact ⟨(Int.le_ediv_iff_mul_le (by omega)).2 (by omega), Int.ediv_le_of_le_mul (by omega) (by omega)⟩
 have hr : Qby ⟨Qc0 (1 + b) (3 + a) + z, 3 + a, 1 + b, 1 + q, 1 + p, 1 + m⟩ = true := by
  rw [confR_iff]; simp only [Qc0]; omega
 unfold QB
 rw [if_pos hr, if_neg]
 simp only [Qp, capN, Qz, Qc0]
 generalize (1 + b + 2 + (3 + a) - 1).tdiv (3 + a) = t at *
 have h3 : (2 * t + 6 + z - 2 * t - 3) * (3 + a - 1) ≥ 3 * 2 := Int.mul_le_mul (by omega) (by omega) (by omega) (by omega)
 have h4 : (2 * t + 6 + z - 2 * t - 3) * (3 + a - 1) = (3 + z) * (2 + a) := by congr 1 <;> omega
 rintro (h | h)
 ·omega
 ·rw [h4] at h h3
  omega
theorem QhN (e : Ent) : PS 184 [.a e.cells] (.c (.bool (QaQ e))) := by
 refine PSpec.rm ?_
 refine ov0 hΓ Tryz.func184 48 0 [.tmp 2] Tryz.ntmps184 Tryz.results184 ?_
 refine RM.immW rfl (WS.c (WC.bool ?_))
 rw [Bool.eq_iff_iff, entOk_iff]
 simp [-List.getD_eq_getElem?_getD]
 omega
theorem QhK : HB 184 := hB Tryz.func184
theorem shardOk_iff {l : List Ent} : QM l = true ↔ ∀ i, i < l.length → QaQ (l.getD i default) = true ∧ (0 < i → (l.getD (i - 1) default).block < (l.getD i default).block) := by
 unfold QM; rw [decide_eq_true_eq]
theorem Qdp (l : List Ent) (hl : l.length ≤ 1000000) : PS 181 [.c (Qap l)] (.c (.bool (QM l))) := by
 refine PSpec.rm ?_
 refine ov0 hΓ Tryz.func181 34 0 [.tmp 2] Tryz.ntmps181 Tryz.results181 ?_
 refine Lp.mkK hΓ (ι := Nat) [0] (fun i => [(3, .c (.int .i64 i))]) (fun _ => []) (fun k => k ≤ l.length ∧ ∀ i, i < k → QaQ (l.getD i default) = true ∧ (0 < i → (l.getD (i - 1) default).block < (l.getD i default).block)) (fun i => l.length - i) 0 ⟨Nat.zero_le _, fun j hj => absurd hj (Nat.not_lt_zero _)⟩ ?_ ?_
 ·exact Mv.k0
 ·rintro k ⟨hk, hk2⟩
  refine Go1 fun _h=>?_
  refine Br.of (fun h1=>Go0 ?_) (fun h1=>Go0 ?_)
  ·refine Dr.mk hΓ hMix (by kernel_rfl) (Go0 ?_)
   refine CallP.auto QhK (QhN (l.getD k default) ) (Go0 ?_)
   have hw : IntKind.i64.wrap (↑k - 1) = ↑k - 1 := Qa _ (by omega) (by omega)
   refine Need.mk (fun h => by rw [hw]; simp only [Bool.and_eq_true, decide_eq_true_eq] at h; omega) ?_
   conv=>whnf
   refine Need.mk (fun h => by rw [hw]; simp only [Bool.and_eq_true, decide_eq_true_eq] at h; omega) (Go0 ?_)
   have hp : (IntKind.i64.wrap (↑k - 1)).toNat = k - 1 := by rw [hw]; omega
   have w0 := Qa (↑k + 1) (by omega) (by omega)
   rw [hp]
   by_cases e : QaQ (l.getD k default) = true ∧ (0 < k → (l.getD (k - 1) default).block < (l.getD k default).block)
   ·refine Br.no (Bool.eq_false_iff.2 fun ebye => by simp [-List.getD_eq_getElem?_getD, -Int.default_eq_zero, e.1] at ebye <;> grind) ?_; conv=>whnf
    refine Go0 ?_
    refine ⟨k + 1, ⟨by omega, Q0 hk2 e⟩, by omega, ?_⟩
    exact Mv.k0
   ·refine Br.yes (Decidable.byContradiction fun ebye => e (by simp [-List.getD_eq_getElem?_getD, -Int.default_eq_zero] at ebye <;> grind)) ?_; conv=>whnf
    refine Go0 ?_
    rw [Qq (fun q => e (shardOk_iff.1 q k (by omega)) : ¬ QM l = true)]
    exact RM.i0
  ·rw [shardOk_iff.2 (fun i hi => hk2 i (by omega))]
   exact RM.i0
theorem Qdq : HB 181 := hB Tryz.func181
theorem Qfi (l : List Ent) (b : Int) (hl : l.length ≤ 1000000) : PS 182 [.c (Qap l), .c (.int .i64 b)] (.c (.int .i64 (Qo l b))) := by
 refine PSpec.rm ?_
 refine ov0 hΓ Tryz.func182 22 0 [.tmp 4] Tryz.ntmps182 Tryz.results182 ?_
 refine Lp.mkK hΓ (ι := Nat) [0, 1, 4] (fun i => [(5, .c (.int .i64 i))]) (fun _ => []) (fun k => k ≤ l.length ∧ ∀ i, i < k → (l.getD i default).block < b) (fun i => l.length - i) 0 ⟨Nat.zero_le _, fun j hj => absurd hj (Nat.not_lt_zero _)⟩ ?_ ?_
 ·exact Mv.k0
 ·rintro k ⟨hk, hk2⟩
  refine Go1 fun _h=>?_
  have e0 : (k : Int).toNat = k := rfl
  by_cases c : k < l.length ∧ (l.getD k default).block < b
  ·refine Br.yes (by simp [-List.getD_eq_getElem?_getD, c.1, c.2]) ?_
   refine Go0 ?_
   have w0 := Qa (↑k + 1) (by omega) (by omega)
   refine ⟨k + 1, ⟨by omega, Q0 hk2 c.2⟩, by omega, ?_⟩
   exact Mv.k0
  ·refine Br.no (Bool.eq_false_iff.2 fun e => c (by simpa [-List.getD_eq_getElem?_getD] using e)) ?_
   refine Go0 ?_
   rw [QqZ hk hk2 (by omega)]
   exact RM.i0
theorem Qfe : HB 182 := hB Tryz.func182
theorem hasM_iff {l : List Ent} {b : Int} : hasM l b = true ↔ Qo l b < l.length ∧ (l.getD (Qo l b) default).block = b := by
 unfold hasM; rw [decide_eq_true_eq]
theorem Qjv (l : List Ent) (b : Int) (hl : l.length ≤ 1000000) : PS 97 [.c (Qap l), .c (.int .i64 b)] (.t [.inr (QO l b).1.cells, .inl (.bool (QO l b).2)]) := by
 refine PSpec.rm ?_
 refine ov0 hΓ Tryz.func97 32 0 [.cell 4 47, .tmp 5] Tryz.ntmps97 Tryz.results97 ?_
 refine CallN.pureA Qdq (Qdp l hl ) (Go0 ?_)
 have hple := QdU l b
 by_cases hv : QM l = true
 ·refine Br.no (by rw [hv]; rfl) (Go0 ?_)
  refine CallN.pureA Qfe (Qfi l b hl ) (Go1 fun _h=>?_)
  have e0 : ((Qo l b : Nat) : Int).toNat = Qo l b := rfl
  refine Go0 ?_
  by_cases c : hasM l b = true
  ·have c' := hasM_iff.1 c
   refine Br.no (Bool.eq_false_iff.2 fun e => by simp [-List.getD_eq_getElem?_getD, c'.2] at e; omega) ?_
   refine Go0 ?_
   rw [show QO l b = (l.getD (Qo l b) default, true) from if_pos ⟨hv, c⟩]
   exact RM.i0
  ·refine Br.yes (Decidable.byContradiction fun e => c (hasM_iff.2 (by simp [-List.getD_eq_getElem?_getD] at e; omega))) ?_
   refine Go0 ?_
   rw [show QO l b = (default, false) from if_neg (fun e => c e.2)]
   exact RM.i0
 ·refine Br.yes (by rw [Qq hv]; rfl) (Go0 ?_)
  rw [show QO l b = (default, false) from if_neg (fun e => hv e.1)]
  exact RM.i0
theorem Qjt : HB 97 := hB Tryz.func97
end Go.Proofs
end

section
namespace Go.Proofs
open Go.Shelf
def Tryz.laySortE_ren : Go.Shelf.Ren := ⟨fun | 6 => 295 | 15 => 308 | 14 => 307 | 28 => 321 | 29 => 322 | 20 => 313 | 21 => 314 | 22 => 315 | 23 => 316 | 24 => 317 | 25 => 318 | 26 => 319 | 27 => 320 | 46 => 323 | 47 => 324 | 48 => 325 | 49 => 326 | 50 => 327 | 57 => 328 | n => n, fun | 22 => 50 | 24 => 47 | 25 => 349 | 3 => 3 | 39 => 294 | 0 => 0 | 53 => 259 | 55 => 354 | 4 => 4 | 46 => 367 | 45 => 366 | 50 => 123 | 5 => 5 | 9 => 9 | 66 => 374 | 70 => 184 | 76 => 379 | 77 => 276 | n => n, fun | n => n⟩
theorem Tryz.laySortE : Go.Proofs.SlLaysF0.n6 Tryz.prog Tryz.laySortE_ren := {
 mixed := by kernel_rfl,
 f6 := ⟨"slices.SortFunc[[]zoneappend/api.Entry,zoneappend/api.Entry]", by decide, Tryz.func295.trans (congrArg some (by kernel_rfl))⟩,
 f14 := ⟨"slices.pdqsortCmpFunc[zoneappend/api.Entry]", by decide, Tryz.func307.trans (congrArg some (by kernel_rfl))⟩,
 f15 := Tryz.func308.trans (congrArg some (by kernel_rfl)),
 f20 := ⟨"slices.insertionSortCmpFunc[zoneappend/api.Entry]", by decide, Tryz.func313.trans (congrArg some (by kernel_rfl))⟩,
 f21 := ⟨"slices.heapSortCmpFunc[zoneappend/api.Entry]", by decide, Tryz.func314.trans (congrArg some (by kernel_rfl))⟩,
 f22 := ⟨"slices.breakPatternsCmpFunc[zoneappend/api.Entry]", by decide, Tryz.func315.trans (congrArg some (by kernel_rfl))⟩,
 f23 := ⟨"slices.choosePivotCmpFunc[zoneappend/api.Entry]", by decide, Tryz.func316.trans (congrArg some (by kernel_rfl))⟩,
 f24 := ⟨"slices.reverseRangeCmpFunc[zoneappend/api.Entry]", by decide, Tryz.func317.trans (congrArg some (by kernel_rfl))⟩,
 f25 := ⟨"slices.partialInsertionSortCmpFunc[zoneappend/api.Entry]", by decide, Tryz.func318.trans (congrArg some (by kernel_rfl))⟩,
 f26 := ⟨"slices.partitionEqualCmpFunc[zoneappend/api.Entry]", by decide, Tryz.func319.trans (congrArg some (by kernel_rfl))⟩,
 f27 := ⟨"slices.partitionCmpFunc[zoneappend/api.Entry]", by decide, Tryz.func320.trans (congrArg some (by kernel_rfl))⟩,
 f28 := Tryz.func321.trans (congrArg some (by kernel_rfl)),
 f29 := Tryz.func322.trans (congrArg some (by kernel_rfl)),
 f46 := ⟨"slices.siftDownCmpFunc[zoneappend/api.Entry]", by decide, Tryz.func323.trans (congrArg some (by kernel_rfl))⟩,
 f47 := Tryz.func324.trans (congrArg some (by kernel_rfl)),
 f48 := Tryz.func325.trans (congrArg some (by kernel_rfl)),
 f49 := ⟨"slices.medianAdjacentCmpFunc[zoneappend/api.Entry]", by decide, Tryz.func326.trans (congrArg some (by kernel_rfl))⟩,
 f50 := ⟨"slices.medianCmpFunc[zoneappend/api.Entry]", by decide, Tryz.func327.trans (congrArg some (by kernel_rfl))⟩,
 f57 := ⟨"slices.order2CmpFunc[zoneappend/api.Entry]", by decide, Tryz.func328.trans (congrArg some (by kernel_rfl))⟩,
 t0 := Tryz.underlying0,
 a0 := Tryz.isAgg0,
 z0 := Tryz.sizeOf0,
 v0 := Tryz.zeroValue0,
 t3 := Tryz.underlying3,
 a3 := Tryz.isAgg3,
 z3 := Tryz.sizeOf3,
 v3 := Tryz.zeroValue3,
 t4 := Tryz.underlying4,
 a4 := Tryz.isAgg4,
 z4 := Tryz.sizeOf4,
 v4 := Tryz.zeroValue4,
 t5 := Tryz.underlying5,
 a5 := Tryz.isAgg5,
 z5 := Tryz.sizeOf5,
 v5 := Tryz.zeroValue5,
 t9 := Tryz.underlying9,
 a9 := Tryz.isAgg9,
 z9 := Tryz.sizeOf9,
 v9 := Tryz.zeroValue9,
 t22 := Tryz.underlying50,
 a22 := Tryz.isAgg50,
 z22 := Tryz.sizeOf50,
 v22 := Tryz.zeroValue50,
 t25 := Tryz.underlying349,
 a25 := Tryz.isAgg349,
 z25 := Tryz.sizeOf349,
 v25 := Tryz.zeroValue349,
 t39 := Tryz.underlying294,
 a39 := Tryz.isAgg294,
 z39 := Tryz.sizeOf294,
 v39 := Tryz.zeroValue294,
 t45 := Tryz.underlying366,
 a45 := Tryz.isAgg366,
 z45 := Tryz.sizeOf366,
 v45 := Tryz.zeroValue366,
 t46 := Tryz.underlying367,
 a46 := Tryz.isAgg367,
 z46 := Tryz.sizeOf367,
 v46 := Tryz.zeroValue367,
 t50 := Tryz.underlying123,
 a50 := Tryz.isAgg123,
 z50 := Tryz.sizeOf123,
 v50 := Tryz.zeroValue123,
 t53 := Tryz.underlying259,
 a53 := Tryz.isAgg259,
 z53 := Tryz.sizeOf259,
 v53 := Tryz.zeroValue259,
 t55 := Tryz.underlying354,
 a55 := Tryz.isAgg354,
 z55 := Tryz.sizeOf354,
 v55 := Tryz.zeroValue354,
 t66 := Tryz.underlying374,
 a66 := Tryz.isAgg374,
 z66 := Tryz.sizeOf374,
 v66 := Tryz.zeroValue374,
 t70 := Tryz.underlying184,
 a70 := Tryz.isAgg184,
 z70 := Tryz.sizeOf184,
 v70 := Tryz.zeroValue184,
 t76 := Tryz.underlying379,
 a76 := Tryz.isAgg379,
 z76 := Tryz.sizeOf379,
 v76 := Tryz.zeroValue379,
 t77 := Tryz.underlying276,
 a77 := Tryz.isAgg276,
 z77 := Tryz.sizeOf276,
 v77 := Tryz.zeroValue276 }
def Tryz.layGrowE_ren : Go.Shelf.Ren := ⟨fun | 4 => 306 | n => n, fun | 22 => 50 | 25 => 47 | 3 => 3 | 4 => 4 | 9 => 9 | 20 => 20 | 0 => 0 | n => n, fun | n => n⟩
theorem Tryz.layGrowE : Go.Proofs.Lays8.n4 Tryz.prog Tryz.layGrowE_ren := {
 mixed := by kernel_rfl,
 f4 := ⟨"slices.Grow[[]zoneappend/api.Entry,zoneappend/api.Entry]", by decide, Tryz.func306.trans (congrArg some (by kernel_rfl))⟩,
 t0 := Tryz.underlying0,
 a0 := Tryz.isAgg0,
 z0 := Tryz.sizeOf0,
 v0 := Tryz.zeroValue0,
 t3 := Tryz.underlying3,
 a3 := Tryz.isAgg3,
 z3 := Tryz.sizeOf3,
 v3 := Tryz.zeroValue3,
 t4 := Tryz.underlying4,
 a4 := Tryz.isAgg4,
 z4 := Tryz.sizeOf4,
 v4 := Tryz.zeroValue4,
 t9 := Tryz.underlying9,
 a9 := Tryz.isAgg9,
 z9 := Tryz.sizeOf9,
 v9 := Tryz.zeroValue9,
 t20 := Tryz.underlying20,
 a20 := Tryz.isAgg20,
 z20 := Tryz.sizeOf20,
 v20 := Tryz.zeroValue20,
 t22 := Tryz.underlying50,
 a22 := Tryz.isAgg50,
 z22 := Tryz.sizeOf50,
 v22 := Tryz.zeroValue50 }
end Go.Proofs
end

section
open Go Go.Am
namespace Go.Proofs
set_option maxRecDepth 20000
open Go.Shelf Go.RowKit Go.Lib Go.Sort
abbrev EntB := { e : Ent // 0 ≤ e.block ∧ e.block ≤ 9223372036854775807 }
instance : Inhabited EntB := ⟨⟨default, by decide⟩⟩
def encB (x : EntB) : List Value := [.int .i64 x.1.block, .int .i64 x.1.kind, .int .i64 x.1.version, .int .i64 x.1.move, .int .i64 x.1.zone, .int .i64 x.1.offset]
def cmpB (x y : EntB) : Int := x.1.block - y.1.block
theorem ltB (x y : EntB) : ltOf cmpB x y = decide (x.1.block < y.1.block) := by
 unfold ltOf cmpB
 exact decide_eq_decide.2 (by omega)
theorem swoB : SWO (ltOf cmpB) where
 irrefl x := by rw [ltB]; exact decide_eq_false (by omega)
 trans x y z h1 h2 := by rw [ltB, decide_eq_true_eq] at *; omega
 ntrans x y z h1 h2 := by rw [ltB, decide_eq_false_iff_not] at *; omega
set_option maxHeartbeats 1000000 in
theorem closureB (x y : EntB) (W : World) : Calls Tryz.prog 296 #[.agg #[.int .i64 x.1.block, .int .i64 x.1.kind, .int .i64 x.1.version, .int .i64 x.1.move, .int .i64 x.1.zone, .int .i64 x.1.offset], .agg #[.int .i64 y.1.block, .int .i64 y.1.kind, .int .i64 y.1.version, .int .i64 y.1.move, .int .i64 y.1.zone, .int .i64 y.1.offset]] W fun e w' => e = .returned (.int .i64 (cmpB x y)) ∧ ∃ q os', w' = grow (W.drewN q) os' := by
 have hw : IntKind.i64.wrap (x.1.block - y.1.block) = cmpB x y := by
  have h1 := x.2
  have h2 := y.2
  exact Qa _ (by omega) (by omega)
 generalize cmpB x y = r at hw ⊢
 go_enter Tryz.func296, Tryz.ntmps296
 go_wp2
 go_ret
 exact ⟨rfl, 0, _, by rw [alloc_eq_grow, alloc_eq_grow, grow_grow]; rfl⟩
theorem cmpLaysB (blk off size : Nat) (w : World) : CmpLays Tryz.prog 296 #[] encB 6 cmpB blk off size w :=
 fun _ _ _ _ x y => closureB x y _
theorem encB_get (x : EntB) {j : Nat} (hj : j < 6) (F : Mem) (v : Value) : RepF F (x.1.cell j) v ↔ v = (encB x)[j]! := by
 match j, hj with
 | 0, _ => exact Iff.rfl
 | 1, _ => exact Iff.rfl
 | 2, _ => exact Iff.rfl
 | 3, _ => exact Iff.rfl
 | 4, _ => exact Iff.rfl
 | 5, _ => exact Iff.rfl
def rowB (l : List Ent) (h : ∀ e ∈ l, 0 ≤ e.block ∧ e.block ≤ 9223372036854775807) : Array EntB := (l.attach.map fun e => (⟨e.1, h e.1 e.2⟩ : EntB)).toArray
theorem rowB_size (l : List Ent) (h) : (rowB l h).size = l.length := by simp [rowB]
theorem rowB_get (l : List Ent) (h) {i : Nat} (hi : i < l.length) : ((rowB l h)[i]!).1 = l.getD i default := by
 have : i < (rowB l h).size := by rw [rowB_size]; exact hi
 rw [getElem!_pos (rowB l h) i this, Qu _ _ hi]
 simp [rowB]
theorem rowB_list (l : List Ent) (h) : (rowB l h).toList.map Subtype.val = l := by
 simp [rowB, List.map_map, Function.comp_def]
set_option maxHeartbeats 1000000 in
theorem sortE_spec (m : List (List Ent)) (hm : Qx m = true) (l : List Ent) (hp : l.Perm m.flatten) (hb : ∀ e ∈ l, 0 ≤ e.block ∧ e.block ≤ 9223372036854775807) (hl : 0 < l.length) (hl2 : l.length ≤ 100000000) (gx : Nat → C) :
  CSpec Tryz.prog 295 [.c (.sl 0 6 l.length l.length false), .c (.fn (.func 296) 0 gx)] [.arr 47 6 l.length (entG l)] fun s H => s = .t [] ∧ H = [.arr 47 6 l.length (entG (allM m))] := by
 have hpa := (QcJ hm).2
 have hba : ∀ e ∈ allM m, 0 ≤ e.block ∧ e.block ≤ 9223372036854775807 := fun e he => hb e (hp.mem_iff.2 (hpa.mem_iff.1 he))
 have hla : (allM m).length = l.length := (hpa.trans hp.symm).length_eq
 refine CSpec.rowK (α := EntB) (enc := encB) (d := rowB l hb) (d' := rowB (allM m) hba) hl (by omega) (rowB_size _ _) ((rowB_size _ _).trans hla) (fun i hi j hj F v hv => ?_) (fun _ _ _ _ => Qaw _ _) (fun i hi j hj F => ?_) (fun b cap w hH hblk hnc hcm => ?_)
 ·refine (encB_get (rowB l hb)[i]! hj F v).1 ?_
  rw [rowB_get l hb hi]
  exact hv
 ·have := (encB_get (rowB (allM m) hba)[i]! hj F _).2 rfl
  rw [rowB_get (allM m) hba (by omega)] at this
  exact this
 ·have eg : ∀ args w, (callFunc 296 args).run Tryz.prog w = .ok (.enter 296 args) w := enters_of Tryz.func296 (by kernel_rfl) rfl
  have hcon := AnyQ.slices_SortFunc (P := Tryz.prog) Tryz.laySortE 6 Tryz.isAgg47 Tryz.sizeOf47 encB (fun _ => rfl) (fun x v hv => by
   simp [encB] at hv
   rcases hv with rfl | rfl | rfl | rfl | rfl | rfl <;> rfl) cmpB swoB 296 #[] b 0 cap (rowB l hb) w eg (cmpLaysB b 0 _ w) hH hblk (by rw [rowB_size]; omega)
  rw [rowB_size] at hcon
  refine Calls.mono hcon ?_
  rintro ex w' ⟨rfl, d', q, os, h1, h2, rfl⟩
  refine ⟨rfl, q, os, ?_⟩
  congr 1
  have hs : d'.size = l.length := by rw [h1.1, rowB_size]
  have hperm : (d'.toList.map Subtype.val).Perm l := by
   have := h1.2.2
   rw [Array.extract_eq_self_of_le (by omega), Array.extract_eq_self_of_le (by rw [rowB_size]; exact Nat.le_refl _)] at this
   have := this.map Subtype.val
   rwa [rowB_list] at this
  have huniq := Qrn hm (l := d'.toList.map Subtype.val) (hperm.trans hp) (by
   rw [List.pairwise_map, List.pairwise_iff_getElem]
   intro i j hi hj hij
   have := h2 i j (Nat.zero_le _) hij (by rw [← hs]; simpa using hj)
   rw [ltB, decide_eq_false_iff_not] at this
   rw [getElem!_pos d' j (by simpa using hj), getElem!_pos d' i (by simpa using hi)] at this
   simpa using this)
  have hd : d'.toList = (rowB (allM m) hba).toList := by
   exact (List.map_inj_right (fun a b h => Subtype.ext h)).1 (huniq.trans (rowB_list (allM m) hba).symm)
  exact Array.toList_inj.1 hd
theorem sortE_body : HasBody Tryz.prog 295 := hB Tryz.func295
end Go.Proofs
end

section
open Go Go.Am
namespace Go.Proofs
set_option maxRecDepth 20000
open Go.Shelf Go.RowKit Go.Lib
theorem growE_spec (n : Nat) (hn : n ≤ 10000000) : CSpec Tryz.prog 306 [.c .nils, .c (.int .i64 n)] [] fun s H => s = .c (.sl 0 6 0 0 false) ∧ H = [.arr 47 6 0 (entG [])] := by
 intro K F μ w vs hw hA
 obtain ⟨v, v1, v2⟩ := hA.2 0 _ rfl
 obtain ⟨u, u1, u2⟩ := hA.2 1 _ rfl
 have hvs : vs = #[.slice none 0 0, .int .i64 n] := by
  apply Array.ext_getElem?
  intro j
  match j with
  | 0 => rw [v1, show v = _ from v2]; rfl
  | 1 => rw [u1, show u = _ from u2]; rfl
  | j + 2 => rw [Array.getElem?_eq_none (by rw [hA.1]; simp), Array.getElem?_eq_none (by simp)]
 subst hvs
 obtain ⟨xi, z, i1, i2, i3, i4, i5⟩ := QqH (P := Tryz.prog) (hΓ 47 _ rfl)
 by_cases h0 : n = 0
 ·subst h0
  have hc := Any8.slices_Grow_room (P := Tryz.prog) Tryz.layGrowE none 0 0 0 w (by omega) (by omega) (by omega) (by omega)
  refine Calls.mono hc ?_
  rintro e w' ⟨rfl, rfl⟩
  have hE := Ext.push ([] : List O) μ (.arr 47 6 0 (entG [])) (.slice none 0 0)
  refine ⟨_, F, _, .c (.sl 0 6 0 0 false), _, rfl, Mem.le_refl F, hw.push (.arr 47 6 0 (entG [])) (.slice none 0 0) ⟨rfl, rfl, rfl, Nat.le_refl _, fun _ _ _ => rfl⟩ (fun b hb => by cases hb) ?_, hE, ?_, rfl, rfl⟩
  ·exact ⟨[], ⟨rfl, .inl ⟨by simp [upd], rfl⟩⟩, Nat.zero_le _, fun i hi => by omega, Sp.none (by simp [upd, blk])⟩
  ·exact ⟨rfl, _, 0, _, rfl, Nat.le_refl _, Nat.le_refl _, fun _ => ⟨none, 0, by simp [upd], rfl, fun e => by cases e⟩⟩
 ·have hc := Any8.slices_Grow_grow (P := Tryz.prog) Tryz.layGrowE xi z i1 i4 (by rw [i2]; decide) none 0 0 n [] w (by omega) (by omega) (by rw [i3]; simp; omega) (by omega) (by simp) (fun _ => rfl) (fun a h => by cases h)
  refine Calls.mono hc ?_
  rintro e w' ⟨rfl, hw'⟩
  have hcm : grownCap w (0 + n) 0 47 ≤ maxLen := grownCap_le_maxLen w (0 + n) 0 47 (by unfold maxLen; omega)
  have hge := grownCap_ge w (0 + n) 0 47
  obtain ⟨cs, hcs, hsz, hone⟩ : ∃ cs : Array Value, w' = w.drew.alloc (.cells cs 47) ∧ cs.size = grownCap w (0 + n) 0 47 * 6 ∧ ∀ u ∈ cs.toList, u.oneCell' = true := by
   refine ⟨_, hw', ?_, Qbj (Qbj (by intro u hu; cases hu) (Qbq (QcH (hΓ 47 _ rfl) i1 i4))) (Qbq (QcH (hΓ 47 _ rfl) i1 i4))⟩
   have i6 : z.cells.size = 6 := i5
   have e1 : grownCap w (0 + n) 0 (Tryz.layGrowE_ren.t 25) = grownCap w (0 + n) 0 47 := rfl
   rw [e1]
   simp only [Array.size_append, size_zeroCells, i6]
   simp at hge ⊢
   omega
  subst hcs
  have hE := Ext.push ([] : List O) μ (.arr 47 6 0 (entG [])) (.slice (some ⟨w.heap.size, 0, none⟩) 0 (grownCap w (0 + n) 0 47))
  have hgr : w.grownBy (w.drew.alloc (.cells cs 47)) none := ⟨rfl, rfl, rfl, by simp, fun k hk _ => Go.heap_alloc_old w.drew _ hk⟩
  refine ⟨_, F, _, .c (.sl 0 6 0 0 false), _, rfl, Mem.le_refl F, hw.push (.arr 47 6 0 (entG [])) (.slice (some ⟨w.heap.size, 0, none⟩) 0 (grownCap w (0 + n) 0 47)) hgr (fun b hb => by cases hb; exact Nat.le_refl _) ?_, hE, ?_, rfl, rfl⟩
  ·exact ⟨[], ⟨rfl, .inr ⟨w.heap.size, _, cs, by simp [upd], Nat.zero_le _, Go.heap_alloc_new w.drew _, Nat.zero_le _, hcm, hsz, by simp⟩⟩, Nat.zero_le _, fun i hi => by omega, Sp.of (b := w.heap.size) (by simp [upd, blk]) (Go.heap_alloc_new w.drew _) hone⟩
  ·exact ⟨rfl, _, 0, _, rfl, Nat.le_refl _, Nat.le_refl _, fun _ => ⟨_, _, by simp [upd]; rfl, rfl, fun e => by cases e⟩⟩
theorem growE_body : HasBody Tryz.prog 306 := hB Tryz.func306
end Go.Proofs
end

section
open Go Go.Am
namespace Go.Proofs
set_option maxRecDepth 20000
def QaB (m : List (List Ent)) (k : Nat) : List Ent := (m.take k).flatten
theorem Qcz {m : List (List Ent)} {k : Nat} (hk : k < m.length) : QaB m (k + 1) = QaB m k ++ m.getD k default := by
 unfold QaB
 rw [Qb9 m hk, List.flatten_append]
 simp
theorem Qf5 (m : List (List Ent)) : QaB m m.length = m.flatten := by unfold QaB; rw [List.take_length]
theorem Qcy {m : List (List Ent)} : ∀ {k : Nat}, k ≤ m.length → (∀ i, (m.getD i default).length ≤ 1000000) → (QaB m k).length ≤ k * 1000000
 | 0, _, _ => by simp [QaB]
 | k + 1, hk, h => by
  rw [Qcz (by omega), List.length_append]
  have := Qcy (k := k) (by omega) h
  have := h k
  omega
set_option maxHeartbeats 4000000 in
theorem Qon (m : List (List Ent)) (hm : m.length ≤ 8) (hs : ∀ i, (m.getD i default).length ≤ 1000000) : CS 294 [.c (QC m)] [] fun s H => s = .c (.sl 0 6 m.flatten.length m.flatten.length false) ∧ H = [.arr 47 6 m.flatten.length (entG m.flatten)] := by
 refine CSpec.rm ?_
 refine ov hΓ Tryz.func294 36 0 [.tmp 2] Tryz.ntmps294 Tryz.results294 ?_
 refine Go1 fun _h=>?_
 refine Lp.mkK hΓ (ι := Nat) [0, 2, 9, 10] (fun i => [(11, .c (.int .i64 i)), (3, .c (.int .i64 (QaB m i).length))]) (fun _ => []) (fun k => k ≤ m.length) (fun i => m.length - i) 0 (Nat.zero_le _) ?_ ?_
 ·exact Mv.k0
 ·intro k hk
  have hsk := hs k
  have hfl := Qcy hk hs
  refine Go0 ?_
  refine Br.of (fun h1=>Go1 fun _h=>?_) (fun h1=>Go0 ?_)
  ·have w0 := Qa (↑k + 1) (by omega) (by omega)
   have w1 : IntKind.i64.wrap (↑(QaB m k).length + ↑(m.getD k default).length) = ↑(QaB m (k + 1)).length := by
    rw [Qcz (by omega), List.length_append]
    exact Qa _ (by omega) (by omega)
   have e0 : (k : Int).toNat = k := rfl
   refine Br.no (decide_eq_false (by rw [e0, w1]; omega)) (Go0 ?_)
   refine ⟨k + 1, by omega, by omega, ?_⟩
   exact Mv.k0
  ·have : k = m.length := by omega
   subst this
   have hfa : (QaB m m.length).length ≤ 8000000 := by have := Qcy (k := m.length) (Nat.le_refl _) hs; omega
   refine CallN.autoQ [] growE_body (growE_spec (QaB m m.length).length (by omega)) (Go1 fun _h=>?_)
   refine Lp.mkK hΓ (ι := Nat) [2, 25, 26] (fun i => [(27, .c (.int .i64 i)), (6, .c (.sl 0 6 (QaB m i).length (QaB m i).length false))]) (fun i => [.arr 47 6 (QaB m i).length (entG (QaB m i))]) (fun k => k ≤ m.length) (fun i => m.length - i) 0 (Nat.zero_le _) ?_ ?_
   ·refine Mv.k1 ?_
    exact fun i hi => by omega
   ·intro q hq
    have hsq := hs q
    have hfq := Qcy hq hs
    have hsq2 : (m.getD (q : Int).toNat default).length ≤ 1000000 := hs _
    refine Go0 ?_
    refine Br.of (fun h3=>Go0 ?_) (fun h3=>Go0 ?_)
    ·have w2 := Qa (↑q + 1) (by omega) (by omega)
     have e1 : (q : Int).toNat = q := rfl
     have hlq : (QaB m (q + 1)).length = (QaB m q).length + (m.getD q default).length := by rw [Qcz (by omega), List.length_append]
     refine ⟨q + 1, by omega, by omega, ?_⟩
     refine Mv.k1 ?_
     intro i hi j hj
     rw [Qcz (by omega)]
     exact WC.eq (Qsv rfl j) (Qaw _ _)
    ·have : q = m.length := by omega
     subst this
     refine ⟨_, _, ?_, rfl, rfl⟩
     rw [Qf5]
     exact RM.w0
theorem QnP : HB 294 := hB Tryz.func294
end Go.Proofs
end
