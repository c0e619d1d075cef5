/- Contracts, lemmas; no condition. -/
import Derived.Test.YtmollgldghpbkaaGreatCtGV
import Derived.Test.YtmollgldghpbkaaGreatModCV
set_option linter.all false
section
open Go Go.Am
namespace Go.Proofs
set_option maxRecDepth 20000
theorem Qko {l : List Req} {x : Req} {t : List C} {n i j : Nat} (hn : n = l.length) (hi : i < l.length + 1) (hj : j < 4) : appG (reqG l) n (QaC 4 (.int .i64 x.serial :: .int .i64 x.kind :: .int .i64 x.block :: .str x.data :: t)) i j = reqG (l ++ [x]) i j :=
 Qb8 (f := Req.cell) hn (fun j hj => by
  match j, hj with
  | 0, _ => rfl
  | 1, _ => rfl
  | 2, _ => rfl
  | 3, _ => rfl) hi hj
theorem rowG_drop {α : Type} [Inhabited α] {f : α → Nat → C} {l : List α} {k i j : Nat} : rowG f (l.drop k) i j = rowG f l (k + i) j := by
 simp only [rowG, List.getD, List.getElem?_drop]
theorem QjC {g g' : Nat → Nat → C} {k j0 : Nat} {ys : List C} {i j : Nat} (h : g i j = g' i j) : updG g k j0 ys i j = updG g' k j0 ys i j := by
 unfold updG
 rw [h]
theorem QsO {l : List Wrk} {q : Nat} {st : Int} (hq : q < l.length) (i j : Nat) (hj : j < 12) : updG (wrkG l) q 0 [.int .i64 st] i j = wrkG (l.set q { l.getD q default with state := st }) i j := by
 refine QcC hq (es := 12) (fun j hj => ?_) i j hj
 match j, hj with
 | 0, _ => rfl
 | 1, _ => rfl
 | 2, _ => rfl
 | 3, _ => rfl
 | 4, _ => rfl
 | 5, _ => rfl
 | 6, _ => rfl
 | 7, _ => rfl
 | 8, _ => rfl
 | 9, _ => rfl
 | 10, _ => rfl
 | 11, _ => rfl
theorem Qnz {α : Type} {l : List α} {q : Nat} {x d : α} (hq : q < l.length) : (l.set q x).getD q d = x := by
 simp [List.getD, hq]
def QdA (blocks size : Int) : Int := 2 * (blocks + 2 + size - 1).tdiv size + 6
def Qad (d : DiceM) : Conf :=
 ⟨QdA (1 + d.step.next 6) (3 + d.next 4) + d.step.step.step.step.step.next 3, 3 + d.next 4, 1 + d.step.next 6, 1 + d.step.step.next 3, 1 + d.step.step.step.next 3, 1 + d.step.step.step.step.next 3⟩
def QeF (d : DiceM) : DiceM := d.step.step.step.step.step.step
theorem Qlv {d : DiceM} (h : d.ok) : (QeF d).ok := h.step.step.step.step.step.step
theorem QjZ (d : DiceM) (hd : d.ok) : CS 20 [.c (.ptr 0 0)] [.vr d.cells] fun s H => s = .a (Qad d).cells ∧ H = [.vr (QeF d).cells] := by
 refine CSpec.rm ?_
 refine ov0 hΓ Tryz.func20 37 1 [.cell 2 26] Tryz.ntmps20 Tryz.results20 ?_
 refine CallN.autoQ [0] Ql (Qm d hd 4) (Go0 ?_)
 refine CallN.autoQ [0] Ql (Qm d.step hd.step 6) (Go0 ?_)
 refine CallN.autoQ [0] Ql (Qm d.step.step hd.step.step 3) (Go0 ?_)
 refine CallN.autoQ [0] Ql (Qm d.step.step.step hd.step.step.step 3) (Go0 ?_)
 refine CallN.autoQ [0] Ql (Qm d.step.step.step.step hd.step.step.step.step 3) (Go0 ?_)
 have r1 := d.next_range (n := 4) om om
 have r2 := d.step.next_range (n := 6) om om
 have r3 := d.step.step.next_range (n := 3) om om
 have r4 := d.step.step.step.next_range (n := 3) om om
 have r5 := d.step.step.step.step.next_range (n := 3) om om
 have r6 := d.step.step.step.step.step.next_range (n := 3) om om
 have w1 := Qa (3 + d.next 4) om om
 have w2 := Qa (1 + d.step.next 6) om om
 refine Dr.mkE hΓ hMix [38] [(0, 13), (1, 13), (2, 13), (3, 13), (4, 13), (5, 13), (6, 13), (7, 13), (8, 13), (9, 13), (10, 13), (11, 13)] (by kernel_rfl) (Go0 ?_)
 refine CallE.autoQ [0] Ql (Qm d.step.step.step.step.step hd.step.step.step.step.step 3) (Go0 ?_)
 refine ⟨_, _, ?_, rfl, rfl⟩
 have hq : 0 ≤ (1 + d.step.next 6 + 2 + (3 + d.next 4) - 1).tdiv (3 + d.next 4) ∧ (1 + d.step.next 6 + 2 + (3 + d.next 4) - 1).tdiv (3 + d.next 4) ≤ 100 := by
  rw [Int.tdiv_eq_ediv_of_nonneg om]
  exact ⟨Int.ediv_nonneg om om, Int.ediv_le_of_le_mul om om⟩
 have e1 : IntKind.i64.wrap (IntKind.i64.wrap (2 * IntKind.i64.wrap ((IntKind.i64.wrap (IntKind.i64.wrap (IntKind.i64.wrap (IntKind.i64.wrap (1 + d.step.next 6) + 2) + IntKind.i64.wrap (3 + d.next 4)) - 1)).tdiv (IntKind.i64.wrap (3 + d.next 4)))) + 6) = QdA (1 + d.step.next 6) (3 + d.next 4) := by
  rw [w1, w2, Qa (1 + d.step.next 6 + 2) om om, Qa (1 + d.step.next 6 + 2 + (3 + d.next 4)) om om, Qa (1 + d.step.next 6 + 2 + (3 + d.next 4) - 1) om om]
  rw [Qa ((1 + d.step.next 6 + 2 + (3 + d.next 4) - 1).tdiv (3 + d.next 4)) om om, Qa (2 * (1 + d.step.next 6 + 2 + (3 + d.next 4) - 1).tdiv (3 + d.next 4)) om om]
  exact Qa _ om om
 have e2 : IntKind.i64.wrap (QdA (1 + d.step.next 6) (3 + d.next 4) + d.step.step.step.step.step.next 3) = QdA (1 + d.step.next 6) (3 + d.next 4) + d.step.step.step.step.step.next 3 := Qa _ (by unfold QdA; omega) (by unfold QdA; omega)
 have f6 : IntKind.i64.wrap (1 + d.step.step.step.step.next 3) = (Qad d).shards := Qa _ om om
 have f5 : IntKind.i64.wrap (1 + d.step.step.step.next 3) = (Qad d).depth := Qa _ om om
 have f4 : IntKind.i64.wrap (1 + d.step.step.next 3) = (Qad d).queues := Qa _ om om
 have f3 : IntKind.i64.wrap (1 + d.step.next 6) = (Qad d).blocks := w2
 have f2 : IntKind.i64.wrap (3 + d.next 4) = (Qad d).size := w1
 have f1 : IntKind.i64.wrap (IntKind.i64.wrap (IntKind.i64.wrap (2 * IntKind.i64.wrap ((IntKind.i64.wrap (IntKind.i64.wrap (IntKind.i64.wrap (IntKind.i64.wrap (1 + d.step.next 6) + 2) + IntKind.i64.wrap (3 + d.next 4)) - 1)).tdiv (IntKind.i64.wrap (3 + d.next 4)))) + 6) + d.step.step.step.step.step.next 3) = (Qad d).zones := by rw [e1]; exact e2
 rw [show QeF d = d.step.step.step.step.step.step from rfl]
 clear w1 w2 e1 e2 r1 r2 r3 r4 r5 r6 hq
 refine RM.wkW ?_ ?_ leN
 ·exact wb0
 ·refine WS.a (WL.cons (WC.int f1) (WL.cons (WC.int f2) (WL.cons (WC.int f3) (WL.cons (WC.int f4) (WL.cons (WC.int f5) (WL.cons (WC.int f6) WL.nil))))))
theorem QjS : HB 20 := hB Tryz.func20
theorem QiM (d : DiceM) : Qw (Qad d) = 0 := by
 have r1 := d.next_range (n := 4) om om
 have r2 := d.step.next_range (n := 6) om om
 have r3 := d.step.step.next_range (n := 3) om om
 have r4 := d.step.step.step.next_range (n := 3) om om
 have r5 := d.step.step.step.step.next_range (n := 3) om om
 have r6 := d.step.step.step.step.step.next_range (n := 3) om om
 unfold Qad
 generalize d.next 4 = a at *
 generalize d.step.next 6 = b at *
 generalize d.step.step.next 3 = q at *
 generalize d.step.step.step.next 3 = p at *
 generalize d.step.step.step.step.next 3 = m at *
 generalize d.step.step.step.step.step.next 3 = z at *
 have hs : 1 ≤ (1 + b + 2 + (3 + a) - 1).tdiv (3 + a) ∧ (1 + b + 2 + (3 + a) - 1).tdiv (3 + a) ≤ 4 := by
  rw [Int.tdiv_eq_ediv_of_nonneg om]
  exact ⟨(Int.le_ediv_iff_mul_le om).2 om, Int.ediv_le_of_le_mul om om⟩
 have hr : QbQ ⟨QdA (1 + b) (3 + a) + z, 3 + a, 1 + b, 1 + q, 1 + p, 1 + m⟩ = true := by
  rw [confR_iff]; simp only [QdA]; omega
 unfold Qw
 rw [if_pos hr, if_neg]
 simp only [Qq, capN, Qo, QdA]
 generalize (1 + b + 2 + (3 + a) - 1).tdiv (3 + a) = t at *
 have h3 : (2 * t + 6 + z - 2 * t - 3) * (3 + a - 1) ≥ 3 * 2 := Int.mul_le_mul om om om om
 have h4 : (2 * t + 6 + z - 2 * t - 3) * (3 + a - 1) = (3 + z) * (2 + a) := by congr 1 <;> omega
 rintro (h | h)
 ·omega
 ·rw [h4] at h h3
  omega
end Go.Proofs
end
