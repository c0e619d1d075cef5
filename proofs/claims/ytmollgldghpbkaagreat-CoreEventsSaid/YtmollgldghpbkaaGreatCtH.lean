/- Part of the proofs of laws of this seat: contracts and plain lemmas; no condition is added to a statement. -/
import Derived.Test.YtmollgldghpbkaaGreatCtG
import Derived.Test.YtmollgldghpbkaaGreatModC
set_option linter.unusedSimpArgs false
set_option linter.unusedVariables false
section
open Go Go.Am
namespace Go.Proofs
set_option maxRecDepth 20000
theorem reqSnoc {l : List Req} {x : Req} {t : List C} {n i j : Nat} (hn : n = l.length) (hi : i < l.length + 1) (hj : j < 4) : appG (reqG l) n (flatG 4 (.int .i64 x.serial :: .int .i64 x.kind :: .int .i64 x.block :: .str x.data :: t)) i j = reqG (l ++ [x]) i j :=
  rowG_snoc (f := Req.cell) hn (fun j hj => by
    match j, hj with
    | 0, _ => rfl
    | 1, _ => rfl
    | 2, _ => rfl
    | 3, _ => rfl) hi hj
theorem rowG_drop {α : Type} [Inhabited α] {f : α → Nat → C} {l : List α} {k i j : Nat} : rowG f (l.drop k) i j = rowG f l (k + i) j := by
  simp only [rowG, List.getD, List.getElem?_drop]
theorem ringclone_spec (r : Rng) (hr : r.items.length ≤ 1000000) : PSpec Tryz.prog 138 [.a r.cells] (.a r.cells) := by
  refine PSpec.rm ?_
  refine CSpec.of_vc hΓ Tryz.func138 rfl 9 0 [.cell 2 98] Tryz.ntmps138 rfl (by rw [Tryz.results138]) rfl ?_
  conv => whnf
  repeat' ((first | refine Need.auto ?_ | refine Have.mk (fun _h => ?_)); conv => whnf)
  refine Dr.mk hΓ hMix (by kernel_rfl) ?_; conv => whnf
  repeat' ((first | refine Need.auto ?_ | refine Have.mk (fun _h => ?_)); conv => whnf)
  refine CallP.auto cloneReq_body (cloneReq_spec r.items (by omega) ) ?_
  conv => whnf
  repeat' ((first | refine Need.auto ?_ | refine Have.mk (fun _h => ?_)); conv => whnf)
  refine RM.immW rfl ?_; (repeat' (first | exact WA.nil | refine WA.cons rfl ?_ ?_ | exact WB.nil | refine WB.cons ?_ ?_ | exact WT.nil | refine WT.cons ?_ ?_ | exact WH.nil | refine WH.cons ?_ ?_ | exact WR.nil | refine WR.cons rfl ?_ ?_ | refine WO.vr ?_ | exact WO.dead | exact WO.mpS | refine WO.mpA ?_ | exact WO.arrPA (fun i j => plainRow _ _ _) | refine WO.arrA ?_ | exact WS.u | refine WS.c ?_ | refine WS.a ?_ | refine WS.t ?_ | exact WL.nil | refine WL.cons ?_ ?_ | exact WTL.nil | refine WTL.consC ?_ ?_ | refine WTL.consL ?_ ?_ | exact WC.nils | exact WC.nil rfl | exact WC.nilp | refine WC.fzA | exact WC.ptr rfl (Nat.le_of_ble_eq_true rfl) | exact WC.mpr rfl (Nat.le_of_ble_eq_true rfl) | refine WC.slA | refine WC.intA | refine WC.int ?_ | refine WC.boolA | refine WC.bool ?_ | refine WC.strA | refine WC.str ?_ | exact WC.imm rfl))
theorem ringclone_body : HasBody Tryz.prog 138 := ⟨⟨Tryz.f138, Tryz.func138, rfl, by kernel_rfl⟩⟩
theorem ringtake_spec (r : Rng) (hr : r.items.length ≤ 1000000) : PSpec Tryz.prog 60 [.a r.cells] (.t [.inr (ringTake r).1.cells, .inr (ringTake r).2.1.cells, .inl (.bool (ringTake r).2.2)]) := by
  refine PSpec.rm ?_
  refine CSpec.of_vc hΓ Tryz.func60 rfl 28 0 [.cell 2 98, .cell 3 66, .tmp 4] Tryz.ntmps60 rfl (by rw [Tryz.results60]) rfl ?_
  conv => whnf
  repeat' ((first | refine Need.auto ?_ | refine Have.mk (fun _h => ?_)); conv => whnf)
  refine CallN.pureA ringclone_body (ringclone_spec r hr ) ?_
  conv => whnf
  repeat' ((first | refine Need.auto ?_ | refine Have.mk (fun _h => ?_)); conv => whnf)
  refine CallN.pureA ringvalid_body (ringvalid_spec r hr ) ?_
  conv => whnf
  repeat' ((first | refine Need.auto ?_ | refine Have.mk (fun _h => ?_)); conv => whnf)
  by_cases h : ringOk r = true ∧ 0 < r.items.length
  · refine Br.no (Bool.eq_false_iff.2 fun ebye => by simp [-List.getD_eq_getElem?_getD, -Int.default_eq_zero, h.1] at ebye <;> grind) ?_; conv => whnf
    repeat' ((first | refine Need.auto ?_ | refine Have.mk (fun _h => ?_)); conv => whnf)
    refine Dr.mkE hΓ hMix [] [(1, 5), (2, 5), (3, 5), (4, 5)] (by kernel_rfl) ?_; conv => whnf
    repeat' ((first | refine Need.auto ?_ | refine Have.mk (fun _h => ?_)); conv => whnf)
    rw [show ringTake r = (⟨r.depth, r.items.drop 1⟩, r.items.getD 0 default, true) from if_pos h]
    refine RM.immW rfl ?_; (repeat' (first | exact WA.nil | refine WA.cons rfl ?_ ?_ | exact WB.nil | refine WB.cons ?_ ?_ | exact WT.nil | refine WT.cons ?_ ?_ | exact WH.nil | refine WH.cons ?_ ?_ | exact WR.nil | refine WR.cons rfl ?_ ?_ | refine WO.vr ?_ | exact WO.dead | exact WO.mpS | refine WO.mpA ?_ | exact WO.arrPA (fun i j => plainRow _ _ _) | refine WO.arrA ?_ | exact WS.u | refine WS.c ?_ | refine WS.a ?_ | refine WS.t ?_ | exact WL.nil | refine WL.cons ?_ ?_ | exact WTL.nil | refine WTL.consC ?_ ?_ | refine WTL.consL ?_ ?_ | exact WC.nils | exact WC.nil rfl | exact WC.nilp | refine WC.fzA | exact WC.ptr rfl (Nat.le_of_ble_eq_true rfl) | exact WC.mpr rfl (Nat.le_of_ble_eq_true rfl) | refine WC.slA | refine WC.intA | refine WC.int ?_ | refine WC.boolA | refine WC.bool ?_ | refine WC.strA | refine WC.str ?_ | exact WC.imm rfl))
    · have e : (r.items.drop 1).length = r.items.length - 1 := by simp
      exact WC.leF rfl (leF.isl e.symm (fun i _ j _ => leF.of_eq rowG_drop.symm) (fun e => by cases e))
  · refine Br.yes (Decidable.byContradiction fun ebye => h (by simp [-List.getD_eq_getElem?_getD, -Int.default_eq_zero] at ebye <;> grind)) ?_; conv => whnf
    repeat' ((first | refine Need.auto ?_ | refine Have.mk (fun _h => ?_)); conv => whnf)
    rw [show ringTake r = (r, default, false) from if_neg h]
    refine RM.immW rfl ?_; (repeat' (first | exact WA.nil | refine WA.cons rfl ?_ ?_ | exact WB.nil | refine WB.cons ?_ ?_ | exact WT.nil | refine WT.cons ?_ ?_ | exact WH.nil | refine WH.cons ?_ ?_ | exact WR.nil | refine WR.cons rfl ?_ ?_ | refine WO.vr ?_ | exact WO.dead | exact WO.mpS | refine WO.mpA ?_ | exact WO.arrPA (fun i j => plainRow _ _ _) | refine WO.arrA ?_ | exact WS.u | refine WS.c ?_ | refine WS.a ?_ | refine WS.t ?_ | exact WL.nil | refine WL.cons ?_ ?_ | exact WTL.nil | refine WTL.consC ?_ ?_ | refine WTL.consL ?_ ?_ | exact WC.nils | exact WC.nil rfl | exact WC.nilp | refine WC.fzA | exact WC.ptr rfl (Nat.le_of_ble_eq_true rfl) | exact WC.mpr rfl (Nat.le_of_ble_eq_true rfl) | refine WC.slA | refine WC.intA | refine WC.int ?_ | refine WC.boolA | refine WC.bool ?_ | refine WC.strA | refine WC.str ?_ | exact WC.imm rfl))
theorem ringtake_body : HasBody Tryz.prog 60 := ⟨⟨Tryz.f60, Tryz.func60, rfl, by kernel_rfl⟩⟩
theorem ringSub_neg {r : Rng} {x : Req} (h : ¬ ringOk r = true) : ringSub r x = (r, 6) := if_neg h
theorem ringsub_spec (r : Rng) (x : Req) (hr : r.items.length ≤ 1000000) : PSpec Tryz.prog 65 [.a r.cells, .a x.cells] (.t [.inr (ringSub r x).1.cells, .inl (.int .i64 (ringSub r x).2)]) := by
  refine PSpec.rm ?_
  refine CSpec.of_vc hΓ Tryz.func65 rfl 61 0 [.cell 4 98, .tmp 5] Tryz.ntmps65 rfl (by rw [Tryz.results65]) rfl ?_
  conv => whnf
  repeat' ((first | refine Need.auto ?_ | refine Have.mk (fun _h => ?_)); conv => whnf)
  refine CallN.pureA ringclone_body (ringclone_spec r hr ) ?_
  conv => whnf
  repeat' ((first | refine Need.auto ?_ | refine Have.mk (fun _h => ?_)); conv => whnf)
  refine CallN.pureA ringvalid_body (ringvalid_spec r hr ) ?_
  conv => whnf
  repeat' ((first | refine Need.auto ?_ | refine Have.mk (fun _h => ?_)); conv => whnf)
  by_cases h : ringOk r = true
  · refine Br.no (Bool.eq_false_iff.2 fun ebye => by simp [-List.getD_eq_getElem?_getD, -Int.default_eq_zero, h] at ebye <;> grind) ?_; conv => whnf
    repeat' ((first | refine Need.auto ?_ | refine Have.mk (fun _h => ?_)); conv => whnf)
    (first | refine Br.lt (fun h2 => ?_) (fun h2 => ?_) | refine Br.le (fun h2 => ?_) (fun h2 => ?_) | refine Br.gt (fun h2 => ?_) (fun h2 => ?_) | refine Br.ge (fun h2 => ?_) (fun h2 => ?_) | refine Br.eq (fun h2 => ?_) (fun h2 => ?_) | refine Br.ne (fun h2 => ?_) (fun h2 => ?_) | refine Br.not (fun h2 => ?_) (fun h2 => ?_) | refine Br.mk (fun h2 => ?_) (fun h2 => ?_)) <;> (try simp only [Int.toNat_natCast] at h2) <;> (conv => whnf)
    · repeat' ((first | refine Need.auto ?_ | refine Have.mk (fun _h => ?_)); conv => whnf)
      rw [show ringSub r x = (r, 13) by unfold ringSub; rw [if_pos h, if_pos h2]]
      refine RM.immW rfl ?_; (repeat' (first | exact WA.nil | refine WA.cons rfl ?_ ?_ | exact WB.nil | refine WB.cons ?_ ?_ | exact WT.nil | refine WT.cons ?_ ?_ | exact WH.nil | refine WH.cons ?_ ?_ | exact WR.nil | refine WR.cons rfl ?_ ?_ | refine WO.vr ?_ | exact WO.dead | exact WO.mpS | refine WO.mpA ?_ | exact WO.arrPA (fun i j => plainRow _ _ _) | refine WO.arrA ?_ | exact WS.u | refine WS.c ?_ | refine WS.a ?_ | refine WS.t ?_ | exact WL.nil | refine WL.cons ?_ ?_ | exact WTL.nil | refine WTL.consC ?_ ?_ | refine WTL.consL ?_ ?_ | exact WC.nils | exact WC.nil rfl | exact WC.nilp | refine WC.fzA | exact WC.ptr rfl (Nat.le_of_ble_eq_true rfl) | exact WC.mpr rfl (Nat.le_of_ble_eq_true rfl) | refine WC.slA | refine WC.intA | refine WC.int ?_ | refine WC.boolA | refine WC.bool ?_ | refine WC.strA | refine WC.str ?_ | exact WC.imm rfl))
    · repeat' ((first | refine Need.auto ?_ | refine Have.mk (fun _h => ?_)); conv => whnf)
      refine Dr.mk hΓ hMix (by kernel_rfl) ?_; conv => whnf
      repeat' ((first | refine Need.auto ?_ | refine Have.mk (fun _h => ?_)); conv => whnf)
      refine Need.mk (fun g => by
        simp only [Bool.cond_false_right, Bool.and_eq_true, decide_eq_true_eq, Bool.not_eq_true'] at g
        have w1 : IntKind.i64.wrap (↑r.items.length - 1) = ↑r.items.length - 1 := wrap_id _ (by omega) (by omega)
        rw [w1]; omega) ?_
      conv => whnf
      refine Need.mk (fun g => by
        simp only [Bool.cond_false_right, Bool.and_eq_true, decide_eq_true_eq, Bool.not_eq_true'] at g
        have w1 : IntKind.i64.wrap (↑r.items.length - 1) = ↑r.items.length - 1 := wrap_id _ (by omega) (by omega)
        rw [w1]; omega) ?_
      conv => whnf
      repeat' ((first | refine Need.auto ?_ | refine Have.mk (fun _h => ?_)); conv => whnf)
      have hp : 0 < r.items.length → (IntKind.i64.wrap (↑r.items.length - 1)).toNat = r.items.length - 1 := fun h0 => by rw [wrap_id _ (by omega) (by omega)]; omega
      have hn : ringSub r x = if x.serial < 0 ∨ 0 < r.items.length ∧ x.serial ≤ (r.items.getD (r.items.length - 1) default).serial then (r, 17) else (⟨r.depth, r.items ++ [x]⟩, 0) := by
        unfold ringSub; rw [if_pos h, if_neg h2]
      by_cases c : x.serial < 0 ∨ 0 < r.items.length ∧ x.serial ≤ (r.items.getD (r.items.length - 1) default).serial
      · refine Br.yes ?_ ?_
        · rcases c with c | ⟨c, d⟩
          · simp [c]
          · rw [hp c]; simp [-List.getD_eq_getElem?_getD, d]; omega
        conv => whnf
        repeat' ((first | refine Need.auto ?_ | refine Have.mk (fun _h => ?_)); conv => whnf)
        rw [hn, if_pos c]
        refine RM.immW rfl ?_; (repeat' (first | exact WA.nil | refine WA.cons rfl ?_ ?_ | exact WB.nil | refine WB.cons ?_ ?_ | exact WT.nil | refine WT.cons ?_ ?_ | exact WH.nil | refine WH.cons ?_ ?_ | exact WR.nil | refine WR.cons rfl ?_ ?_ | refine WO.vr ?_ | exact WO.dead | exact WO.mpS | refine WO.mpA ?_ | exact WO.arrPA (fun i j => plainRow _ _ _) | refine WO.arrA ?_ | exact WS.u | refine WS.c ?_ | refine WS.a ?_ | refine WS.t ?_ | exact WL.nil | refine WL.cons ?_ ?_ | exact WTL.nil | refine WTL.consC ?_ ?_ | refine WTL.consL ?_ ?_ | exact WC.nils | exact WC.nil rfl | exact WC.nilp | refine WC.fzA | exact WC.ptr rfl (Nat.le_of_ble_eq_true rfl) | exact WC.mpr rfl (Nat.le_of_ble_eq_true rfl) | refine WC.slA | refine WC.intA | refine WC.int ?_ | refine WC.boolA | refine WC.bool ?_ | refine WC.strA | refine WC.str ?_ | exact WC.imm rfl))
      · refine Br.no ?_ ?_
        · refine Bool.eq_false_iff.2 fun e => c ?_
          by_cases c0 : 0 < r.items.length
          · rw [hp c0] at e
            simp [-List.getD_eq_getElem?_getD] at e
            omega
          · have : r.items.length = 0 := by omega
            simp [-List.getD_eq_getElem?_getD, this] at e
            omega
        conv => whnf
        repeat' ((first | refine Need.auto ?_ | refine Have.mk (fun _h => ?_)); conv => whnf)
        refine Dr.mkE hΓ hMix [4294967296] [] (by kernel_rfl) ?_; conv => whnf
        repeat' ((first | refine Need.auto ?_ | refine Have.mk (fun _h => ?_)); conv => whnf)
        rw [hn, if_neg c]
        refine RM.allT (FwT.consL (FwL.cons (Fw.same rfl) (FwL.cons (Fw.slP rfl rfl (by simp) (fun i hi j hj => reqSnoc (x := x) rfl hi hj) (fun _ _ => reqCell_imm _ _)) FwL.nil)) (FwT.consC (Fw.same rfl) FwT.nil))
  · refine Br.yes (Decidable.byContradiction fun ebye => h (by simp [-List.getD_eq_getElem?_getD, -Int.default_eq_zero] at ebye <;> grind)) ?_; conv => whnf
    repeat' ((first | refine Need.auto ?_ | refine Have.mk (fun _h => ?_)); conv => whnf)
    rw [ringSub_neg h]
    refine RM.immW rfl ?_; (repeat' (first | exact WA.nil | refine WA.cons rfl ?_ ?_ | exact WB.nil | refine WB.cons ?_ ?_ | exact WT.nil | refine WT.cons ?_ ?_ | exact WH.nil | refine WH.cons ?_ ?_ | exact WR.nil | refine WR.cons rfl ?_ ?_ | refine WO.vr ?_ | exact WO.dead | exact WO.mpS | refine WO.mpA ?_ | exact WO.arrPA (fun i j => plainRow _ _ _) | refine WO.arrA ?_ | exact WS.u | refine WS.c ?_ | refine WS.a ?_ | refine WS.t ?_ | exact WL.nil | refine WL.cons ?_ ?_ | exact WTL.nil | refine WTL.consC ?_ ?_ | refine WTL.consL ?_ ?_ | exact WC.nils | exact WC.nil rfl | exact WC.nilp | refine WC.fzA | exact WC.ptr rfl (Nat.le_of_ble_eq_true rfl) | exact WC.mpr rfl (Nat.le_of_ble_eq_true rfl) | refine WC.slA | refine WC.intA | refine WC.int ?_ | refine WC.boolA | refine WC.bool ?_ | refine WC.strA | refine WC.str ?_ | exact WC.imm rfl))
theorem ringsub_body : HasBody Tryz.prog 65 := ⟨⟨Tryz.f65, Tryz.func65, rfl, by kernel_rfl⟩⟩
end Go.Proofs
end

section
open Go Go.Am
namespace Go.Proofs
set_option maxRecDepth 20000
theorem updG_congr {g g' : Nat → Nat → C} {k j0 : Nat} {ys : List C} {i j : Nat} (h : g i j = g' i j) : updG g k j0 ys i j = updG g' k j0 ys i j := by
  unfold updG
  rw [h]
theorem wrk_state {l : List Wrk} {q : Nat} {st : Int} (hq : q < l.length) (i j : Nat) (hj : j < 12) : updG (wrkG l) q 0 [.int .i64 st] i j = wrkG (l.set q { l.getD q default with state := st }) i j := by
  refine rowG_set hq (es := 12) (fun j hj => ?_) i j hj
  match j, hj with
  | 0, _ => rfl
  | 1, _ => rfl
  | 2, _ => rfl
  | 3, _ => rfl
  | 4, _ => rfl
  | 5, _ => rfl
  | 6, _ => rfl
  | 7, _ => rfl
  | 8, _ => rfl
  | 9, _ => rfl
  | 10, _ => rfl
  | 11, _ => rfl
theorem set_getD {α : Type} {l : List α} {q : Nat} {x d : α} (hq : q < l.length) : (l.set q x).getD q d = x := by
  simp [List.getD, hq]
theorem wrk_set2 {l : List Wrk} {q : Nat} {w : Wrk} {st : Int} {ys : List C} (hq : q < l.length) (hy : ys = w.cells) (i j : Nat) (hj : j < 12) : updG (updG (wrkG l) q 0 ys) q 0 [.int .i64 st] i j = wrkG (l.set q { w with state := st }) i j := by
  rw [updG_congr (wrk_set hq hy i j hj), wrk_state (by simpa using hq) i j hj, set_getD hq, List.set_set]
set_option maxHeartbeats 8000000 in
theorem begin_spec (s : St) (hs : s.small) (l : List Ent) (hall : mapOk s.map = true → AllS s.map l) (q : Int) : PSpec Tryz.prog 21 [.a s.cells, .c (.int .i64 q)] (.t [.inr (beginS true s q).1.cells, .inl (.bool (beginS true s q).2)]) := by
  refine PSpec.rm ?_
  refine CSpec.of_vc hΓ Tryz.func21 rfl 119 0 [.cell 4 58, .tmp 5] Tryz.ntmps21 rfl (by rw [Tryz.results21]) rfl ?_
  conv => whnf
  repeat' ((first | refine Need.auto ?_ | refine Have.mk (fun _h => ?_)); conv => whnf)
  refine CallN.autoI [] edit_body (edit_spec s hs l hall) (by repeat' (first | exact PlainH.nil | refine PlainH.vr ?_ | refine PlainH.mp ?_ | refine PlainH.arr (fun i j => ?_) ?_ | exact plainRow _ _ _)) ?_; conv => whnf
  repeat' ((first | refine Need.auto ?_ | refine Have.mk (fun _h => ?_)); conv => whnf)
  refine Frc.mk (.c (.int .i64 (s.works.getD q.toNat default).state)) rfl ?_
  conv => whnf
  repeat' ((first | refine Need.auto ?_ | refine Have.mk (fun _h => ?_)); conv => whnf)
  by_cases hc : validS s = true ∧ 0 ≤ q ∧ q < s.works.length ∧ (s.works.getD q.toNat default).state = 0
  · have hq0 := hc.2.1
    have hq1 := hc.2.2.1
    have hlen : s.rings.length = s.works.length := (partsM_len (s := s) (by have := hc.1; unfold validS at this; rw [Bool.and_eq_true] at this; exact this.1)).1
    have hq2 : q < s.rings.length := by omega
    have hq1' : q.toNat < s.works.length := by omega
    have hq2' : q.toNat < s.rings.length := by omega
    refine Br.no (Bool.eq_false_iff.2 fun ebye => by simp [-List.getD_eq_getElem?_getD, -Int.default_eq_zero, hc.1,hc.2.2.2] at ebye <;> grind) ?_; conv => whnf
    repeat' ((first | refine Need.auto ?_ | refine Have.mk (fun _h => ?_)); conv => whnf)
    refine Frc.mk (.a (s.rings.getD q.toNat default).cells) rfl ?_
    conv => whnf
    repeat' ((first | refine Need.auto ?_ | refine Have.mk (fun _h => ?_)); conv => whnf)
    refine CallN.pureA ringtake_body (ringtake_spec (s.rings.getD q.toNat default) (hs.items _) ) ?_
    conv => whnf
    repeat' ((first | refine Need.auto ?_ | refine Have.mk (fun _h => ?_)); conv => whnf)
    generalize ht : ringTake (s.rings.getD q.toNat default) = t
    obtain ⟨r, x, ok⟩ := t
    cases ok with
    | false =>
      refine Br.yes rfl ?_; conv => whnf
      repeat' ((first | refine Need.auto ?_ | refine Have.mk (fun _h => ?_)); conv => whnf)
      rw [show beginS true s q = (s, false) by unfold beginS; rw [if_pos hc, ht]; rfl]
      refine RM.allT (FwT.consL (FwL.own (a := 2) (b := 3) (c := 4) rfl rfl rfl) (FwT.consC (Fw.same rfl) FwT.nil))
    | true =>
      refine Br.no rfl ?_; conv => whnf
      repeat' ((first | refine Need.auto ?_ | refine Have.mk (fun _h => ?_)); conv => whnf)
      refine Dr.mkE hΓ hMix [] [(9, 14), (11, 14), (12, 14)] (by kernel_rfl) ?_; conv => whnf
      repeat' ((first | refine Need.auto ?_ | refine Have.mk (fun _h => ?_)); conv => whnf)
      refine CallN.pureA cmd_body (cmd_spec s.cfg x ) ?_
      conv => whnf
      repeat' ((first | refine Need.auto ?_ | refine Have.mk (fun _h => ?_)); conv => whnf)
      by_cases he : cmdE s.cfg x = 0
      · have hk : x.kind = 1 ∨ x.kind = 2 ∨ x.kind = 3 ∨ x.kind = 4 := by
          unfold cmdE at he
          split at he
          · cases he
          · omega
        have hb : beginS true s q = ((s.setRing q.toNat r).setWork q.toNat ⟨firstS x.kind, x, default, ByteArray.empty⟩, true) := by
          unfold beginS; rw [if_pos hc, ht]; simp only [if_true, if_pos he]
        obtain ⟨ser, kind, block, data⟩ := x
        refine Br.no (by rw [he]; rfl) ?_
        rcases hk with hk | hk | hk | hk <;> simp only at hk <;> subst hk
        · conv => whnf
          repeat' ((first | refine Need.auto ?_ | refine Have.mk (fun _h => ?_)); conv => whnf)
          rw [hb]
          refine RM.allT (FwT.consL (FwL.ownG ((s.setRing q.toNat r).setWork q.toNat ⟨firstS 1, ⟨ser, 1, block, data⟩, default, ByteArray.empty⟩) (a := 2) (b := 3) (c := 4) rfl rfl rfl (List.length_set).symm (List.length_set).symm rfl (fun i _ j hj => rng_set hq2' rfl i j hj) (fun i _ j hj => wrk_set2 (w := ⟨0, ⟨ser, 1, block, data⟩, default, ByteArray.empty⟩) hq1' rfl i j hj) (fun _ _ _ _ => rfl)) (FwT.consC (Fw.same rfl) FwT.nil))
        · conv => whnf
          repeat' ((first | refine Need.auto ?_ | refine Have.mk (fun _h => ?_)); conv => whnf)
          rw [hb]
          refine RM.allT (FwT.consL (FwL.ownG ((s.setRing q.toNat r).setWork q.toNat ⟨firstS 2, ⟨ser, 2, block, data⟩, default, ByteArray.empty⟩) (a := 2) (b := 3) (c := 4) rfl rfl rfl (List.length_set).symm (List.length_set).symm rfl (fun i _ j hj => rng_set hq2' rfl i j hj) (fun i _ j hj => wrk_set2 (w := ⟨0, ⟨ser, 2, block, data⟩, default, ByteArray.empty⟩) hq1' rfl i j hj) (fun _ _ _ _ => rfl)) (FwT.consC (Fw.same rfl) FwT.nil))
        · conv => whnf
          repeat' ((first | refine Need.auto ?_ | refine Have.mk (fun _h => ?_)); conv => whnf)
          rw [hb]
          refine RM.allT (FwT.consL (FwL.ownG ((s.setRing q.toNat r).setWork q.toNat ⟨firstS 3, ⟨ser, 3, block, data⟩, default, ByteArray.empty⟩) (a := 2) (b := 3) (c := 4) rfl rfl rfl (List.length_set).symm (List.length_set).symm rfl (fun i _ j hj => rng_set hq2' rfl i j hj) (fun i _ j hj => wrk_set2 (w := ⟨0, ⟨ser, 3, block, data⟩, default, ByteArray.empty⟩) hq1' rfl i j hj) (fun _ _ _ _ => rfl)) (FwT.consC (Fw.same rfl) FwT.nil))
        · conv => whnf
          repeat' ((first | refine Need.auto ?_ | refine Have.mk (fun _h => ?_)); conv => whnf)
          rw [hb]
          refine RM.allT (FwT.consL (FwL.ownG ((s.setRing q.toNat r).setWork q.toNat ⟨firstS 4, ⟨ser, 4, block, data⟩, default, ByteArray.empty⟩) (a := 2) (b := 3) (c := 4) rfl rfl rfl (List.length_set).symm (List.length_set).symm rfl (fun i _ j hj => rng_set hq2' rfl i j hj) (fun i _ j hj => wrk_set2 (w := ⟨0, ⟨ser, 4, block, data⟩, default, ByteArray.empty⟩) hq1' rfl i j hj) (fun _ _ _ _ => rfl)) (FwT.consC (Fw.same rfl) FwT.nil))
      · refine Br.yes (by simpa using he) ?_
        conv => whnf
        repeat' ((first | refine Need.auto ?_ | refine Have.mk (fun _h => ?_)); conv => whnf)
        have lr : s.rings.length = ((s.setRing q.toNat r).setWork q.toNat ⟨0, x, default, ByteArray.empty⟩).rings.length := (List.length_set).symm
        have lw : s.works.length = ((s.setRing q.toNat r).setWork q.toNat ⟨0, x, default, ByteArray.empty⟩).works.length := (List.length_set).symm
        refine CallN.autoI [5,2,3,4] tell_body (tell_spec ((s.setRing q.toNat r).setWork q.toNat ⟨0, x, default, ByteArray.empty⟩) true q x (cmdE s.cfg x) ByteArray.empty hs.evs) (by repeat' (first | exact PlainH.nil | refine PlainH.vr ?_ | refine PlainH.mp ?_ | refine PlainH.arr (fun i j => ?_) ?_ | exact plainRow _ _ _)) (h := by (repeat' (first | exact WA.nil | refine WA.cons rfl ?_ ?_ | exact WB.nil | refine WB.cons ?_ ?_ | exact WT.nil | refine WT.cons ?_ ?_ | exact WH.nil | refine WH.cons ?_ ?_ | exact WR.nil | refine WR.cons rfl ?_ ?_ | refine WO.vr ?_ | exact WO.dead | exact WO.mpS | refine WO.mpA ?_ | exact WO.arrPA (fun i j => plainRow _ _ _) | refine WO.arrA ?_ | exact WS.u | refine WS.c ?_ | refine WS.a ?_ | refine WS.t ?_ | exact WL.nil | refine WL.cons ?_ ?_ | exact WTL.nil | refine WTL.consC ?_ ?_ | refine WTL.consL ?_ ?_ | exact WC.nils | exact WC.nil rfl | exact WC.nilp | refine WC.fzA | exact WC.ptr rfl (Nat.le_of_ble_eq_true rfl) | exact WC.mpr rfl (Nat.le_of_ble_eq_true rfl) | refine WC.slA | refine WC.intA | refine WC.int ?_ | refine WC.boolA | refine WC.bool ?_ | refine WC.strA | refine WC.str ?_ | exact WC.imm rfl)) <;> first | exact fun i _ j hj => WC.eq (rng_set hq2' rfl i j hj) (rngCell_imm _ _) | exact fun i _ j hj => WC.eq (wrk_set (w := ⟨0, x, default, ByteArray.empty⟩) hq1' rfl i j hj) (wrkCell_imm _ _)) ?_; conv => whnf
        have hw : q < (((s.setRing q.toNat r).setWork q.toNat ⟨0, x, default, ByteArray.empty⟩).addEv (tellE true q x (cmdE s.cfg x) ByteArray.empty)).works.length := by
          show q < ((s.works.set q.toNat ⟨0, x, default, ByteArray.empty⟩).length : Int)
          rw [List.length_set]; exact hq1
        repeat' ((first | refine Need.auto ?_ | refine Have.mk (fun _h => ?_)); conv => whnf)
        rw [show beginS true s q = (((s.setRing q.toNat r).setWork q.toNat default).addEv (tellE true q x (cmdE s.cfg x) ByteArray.empty), true) by
          unfold beginS; rw [if_pos hc, ht]; simp only [if_true, if_neg he]]
        refine RM.allT (FwT.consL (FwL.ownG (((s.setRing q.toNat r).setWork q.toNat default).addEv (tellE true q x (cmdE s.cfg x) ByteArray.empty)) (a := 2) (b := 3) (c := 4) rfl rfl rfl rfl ?_ rfl (fun _ _ _ _ => rfl) ?_ (fun _ _ _ _ => rfl)) (FwT.consC (Fw.same rfl) FwT.nil))
        · show (s.works.set q.toNat ⟨0, x, default, ByteArray.empty⟩).length = (s.works.set q.toNat default).length
          rw [List.length_set, List.length_set]
        · intro i _ j hj
          refine (wrk_set (l := s.works.set q.toNat ⟨0, x, default, ByteArray.empty⟩) (q := q.toNat) (w := default) (by rw [List.length_set]; exact hq1') rfl i j hj).trans ?_
          rw [List.set_set]
          rfl
  · refine Br.yes (Decidable.byContradiction fun ebye => hc (by simp [-List.getD_eq_getElem?_getD, -Int.default_eq_zero] at ebye <;> grind)) ?_; conv => whnf
    repeat' ((first | refine Need.auto ?_ | refine Have.mk (fun _h => ?_)); conv => whnf)
    rw [show beginS true s q = (s, false) from if_neg hc]
    refine RM.allT (FwT.consL (FwL.own (a := 2) (b := 3) (c := 4) rfl rfl rfl) (FwT.consC (Fw.same rfl) FwT.nil))
theorem begin_body : HasBody Tryz.prog 21 := ⟨⟨Tryz.f21, Tryz.func21, rfl, by kernel_rfl⟩⟩
end Go.Proofs
end

section
open Go Go.Am
namespace Go.Proofs
set_option maxRecDepth 20000
theorem validS_parts {s : St} (h : validS s = true) : partsM s = true := by
  unfold validS at h; rw [Bool.and_eq_true] at h; exact h.1
theorem openM_len (l : List Evt) : (openM l).length ≤ l.length := openTo_len l _
set_option maxHeartbeats 8000000 in
theorem submit_spec (s : St) (hs : s.small) (l : List Ent) (hall : mapOk s.map = true → AllS s.map l) (q : Int) (x : Req) : PSpec Tryz.prog 24 [.a s.cells, .c (.int .i64 q), .a [.int .i64 x.kind, .int .i64 x.block, .str x.data]] (.t [.inr (submitS s q x).1.cells, .inl (.int .i64 (submitS s q x).2)]) := by
  refine PSpec.rm ?_
  have he1 := hs.evs
  have he2 := openM_len s.evs
  refine CSpec.of_vc hΓ Tryz.func24 rfl 120 0 [.cell 6 58, .tmp 7] Tryz.ntmps24 rfl (by rw [Tryz.results24]) rfl ?_
  conv => whnf
  repeat' ((first | refine Need.auto ?_ | refine Have.mk (fun _h => ?_)); conv => whnf)
  refine CallN.autoI [] edit_body (edit_spec s hs l hall) (by repeat' (first | exact PlainH.nil | refine PlainH.vr ?_ | refine PlainH.mp ?_ | refine PlainH.arr (fun i j => ?_) ?_ | exact plainRow _ _ _)) ?_; conv => whnf
  repeat' ((first | refine Need.auto ?_ | refine Have.mk (fun _h => ?_)); conv => whnf)
  by_cases hv : validS s = true
  · refine Br.no (by rw [hv]; rfl) ?_
    conv => whnf
    repeat' ((first | refine Need.auto ?_ | refine Have.mk (fun _h => ?_)); conv => whnf)
    have hp := partsM_len (validS_parts hv)
    by_cases hq : 0 ≤ q ∧ q < s.rings.length
    · have hq0 := hq.1
      have hq1 := hq.2
      have hq2 : q.toNat < s.rings.length := by omega
      refine Br.no (Bool.eq_false_iff.2 fun ebye => by simp [-List.getD_eq_getElem?_getD, -Int.default_eq_zero, hv] at ebye <;> grind) ?_; conv => whnf
      repeat' ((first | refine Need.auto ?_ | refine Have.mk (fun _h => ?_)); conv => whnf)
      refine Dr.mkE hΓ hMix [64] [(0, 7), (1, 7), (2, 7), (3, 7), (4, 7)] (by kernel_rfl) ?_; conv => whnf
      repeat' ((first | refine Need.auto ?_ | refine Have.mk (fun _h => ?_)); conv => whnf)
      refine CallE.reads open_st_body (PSpec.len (open_st_spec s hs.evs)) (BwA.cons (BwS.a (BwL.own (a := 3) (b := 4) (c := 5) rfl rfl rfl)) BwA.nil) rfl ?_
      conv => whnf
      repeat' ((first | refine Need.auto ?_ | refine Have.mk (fun _h => ?_)); conv => whnf)
      have w0 : IntKind.i64.wrap (↑s.evs.length + ↑(openM s.evs).length) = ↑s.evs.length + ↑(openM s.evs).length := wrap_id _ (by omega) (by omega)
      by_cases hl : 398 < s.evs.length + (openM s.evs).length ∨ 1099511627776 ≤ s.serial
      · refine Br.yes (by rw [w0]; simp; omega) ?_
        conv => whnf
        repeat' ((first | refine Need.auto ?_ | refine Have.mk (fun _h => ?_)); conv => whnf)
        rw [show submitS s q x = (s, 19) by unfold submitS; rw [if_pos hv, if_pos hq, if_pos hl]]
        refine RM.allT (FwT.consL (FwL.own (a := 3) (b := 4) (c := 5) rfl rfl rfl) (FwT.consC (Fw.same rfl) FwT.nil))
      · refine Br.no (by rw [w0]; simp; omega) ?_
        conv => whnf
        repeat' ((first | refine Need.auto ?_ | refine Have.mk (fun _h => ?_)); conv => whnf)
        have w1 := wrap_id (s.serial + 1) (by omega) (by omega)
        have hb : submitS s q x = (let y : Req := { x with serial := s.serial }
        if s.closed = true then
          (({ s with serial := s.serial + 1 }.addEv (tellE false q y 0 ByteArray.empty)).addEv (tellE true q y 12 ByteArray.empty), 0)
        else
          let r := ringSub (s.rings.getD q.toNat default) y
          if r.2 ≠ 0 then (s, r.2)
          else ({ (s.setRing q.toNat r.1) with serial := s.serial + 1 }.addEv (tellE false q y 0 ByteArray.empty), 0)) := by unfold submitS; rw [if_pos hv, if_pos hq, if_neg hl]
        by_cases hcl : s.closed = true
        · refine Br.no (by rw [hcl]; rfl) ?_
          conv => whnf
          repeat' ((first | refine Need.auto ?_ | refine Have.mk (fun _h => ?_)); conv => whnf)
          refine CallN.autoI [6,3,4,5] tell_body (tell_spec { s with serial := s.serial + 1 } false q { x with serial := s.serial } 0 ByteArray.empty hs.evs) (by repeat' (first | exact PlainH.nil | refine PlainH.vr ?_ | refine PlainH.mp ?_ | refine PlainH.arr (fun i j => ?_) ?_ | exact plainRow _ _ _)) ?_; conv => whnf
          repeat' ((first | refine Need.auto ?_ | refine Have.mk (fun _h => ?_)); conv => whnf)
          refine Br.yes hcl ?_
          conv => whnf
          repeat' ((first | refine Need.auto ?_ | refine Have.mk (fun _h => ?_)); conv => whnf)
          refine CallN.autoI [6,3,4,5] tell_body (tell_spec (St.addEv { s with serial := s.serial + 1 } (tellE false q { x with serial := s.serial } 0 ByteArray.empty)) true q { x with serial := s.serial } 12 ByteArray.empty (by simp [St.addEv]; omega)) (by repeat' (first | exact PlainH.nil | refine PlainH.vr ?_ | refine PlainH.mp ?_ | refine PlainH.arr (fun i j => ?_) ?_ | exact plainRow _ _ _)) ?_; conv => whnf
          repeat' ((first | refine Need.auto ?_ | refine Have.mk (fun _h => ?_)); conv => whnf)
          rw [hb, if_pos hcl]
          refine RM.allT (FwT.consL (FwL.own (a := 3) (b := 4) (c := 5) rfl rfl rfl) (FwT.consC (Fw.same rfl) FwT.nil))
        · refine Br.yes (by rw [bool_no hcl]; rfl) ?_
          conv => whnf
          repeat' ((first | refine Need.auto ?_ | refine Have.mk (fun _h => ?_)); conv => whnf)
          refine Dr.mkE hΓ hMix [] [(11, 13)] (by kernel_rfl) ?_; conv => whnf
          repeat' ((first | refine Need.auto ?_ | refine Have.mk (fun _h => ?_)); conv => whnf)
          refine Frc.mk (.a (s.rings.getD q.toNat default).cells) rfl ?_
          conv => whnf
          repeat' ((first | refine Need.auto ?_ | refine Have.mk (fun _h => ?_)); conv => whnf)
          refine CallP.auto ringsub_body (ringsub_spec (s.rings.getD q.toNat default) { x with serial := s.serial } (hs.items _) ) ?_
          conv => whnf
          repeat' ((first | refine Need.auto ?_ | refine Have.mk (fun _h => ?_)); conv => whnf)
          generalize ht : ringSub (s.rings.getD q.toNat default) { x with serial := s.serial } = t
          obtain ⟨r, e⟩ := t
          by_cases he : e = 0
          · subst he
            refine Br.no rfl ?_; conv => whnf
            repeat' ((first | refine Need.auto ?_ | refine Have.mk (fun _h => ?_)); conv => whnf)
            have lr : s.rings.length = ({ (s.setRing q.toNat r) with serial := s.serial + 1 } : St).rings.length := (List.length_set).symm
            refine CallN.autoI [6,3,4,5] tell_body (tell_spec { (s.setRing q.toNat r) with serial := s.serial + 1 } false q { x with serial := s.serial } 0 ByteArray.empty hs.evs) (by repeat' (first | exact PlainH.nil | refine PlainH.vr ?_ | refine PlainH.mp ?_ | refine PlainH.arr (fun i j => ?_) ?_ | exact plainRow _ _ _)) (h := by (repeat' (first | exact WA.nil | refine WA.cons rfl ?_ ?_ | exact WB.nil | refine WB.cons ?_ ?_ | exact WT.nil | refine WT.cons ?_ ?_ | exact WH.nil | refine WH.cons ?_ ?_ | exact WR.nil | refine WR.cons rfl ?_ ?_ | refine WO.vr ?_ | exact WO.dead | exact WO.mpS | refine WO.mpA ?_ | exact WO.arrPA (fun i j => plainRow _ _ _) | refine WO.arrA ?_ | exact WS.u | refine WS.c ?_ | refine WS.a ?_ | refine WS.t ?_ | exact WL.nil | refine WL.cons ?_ ?_ | exact WTL.nil | refine WTL.consC ?_ ?_ | refine WTL.consL ?_ ?_ | exact WC.nils | exact WC.nil rfl | exact WC.nilp | refine WC.fzA | exact WC.ptr rfl (Nat.le_of_ble_eq_true rfl) | exact WC.mpr rfl (Nat.le_of_ble_eq_true rfl) | refine WC.slA | refine WC.intA | refine WC.int ?_ | refine WC.boolA | refine WC.bool ?_ | refine WC.strA | refine WC.str ?_ | exact WC.imm rfl)) <;> first | exact fun i _ j hj => WC.eq (rng_set hq2 rfl i j hj) (rngCell_imm _ _)) ?_; conv => whnf
            repeat' ((first | refine Need.auto ?_ | refine Have.mk (fun _h => ?_)); conv => whnf)
            refine Br.no (bool_no hcl) ?_
            conv => whnf
            repeat' ((first | refine Need.auto ?_ | refine Have.mk (fun _h => ?_)); conv => whnf)
            rw [hb, if_neg hcl]
            simp only [ht]
            rw [if_neg (by simp)]
            refine RM.allT (FwT.consL (FwL.own (a := 3) (b := 4) (c := 5) rfl rfl rfl) (FwT.consC (Fw.same rfl) FwT.nil))
          · refine Br.yes (by simpa using he) ?_
            conv => whnf
            repeat' ((first | refine Need.auto ?_ | refine Have.mk (fun _h => ?_)); conv => whnf)
            rw [hb, if_neg hcl]
            simp only [ht]
            rw [if_pos he]
            refine RM.allT (FwT.consL (FwL.own (a := 3) (b := 4) (c := 5) rfl rfl rfl) (FwT.consC (Fw.same rfl) FwT.nil))
    · refine Br.yes (Decidable.byContradiction fun ebye => hq (by simp [-List.getD_eq_getElem?_getD, -Int.default_eq_zero] at ebye <;> grind)) ?_; conv => whnf
      repeat' ((first | refine Need.auto ?_ | refine Have.mk (fun _h => ?_)); conv => whnf)
      rw [show submitS s q x = (s, 1) by unfold submitS; rw [if_pos hv, if_neg hq]]
      refine RM.allT (FwT.consL (FwL.own (a := 3) (b := 4) (c := 5) rfl rfl rfl) (FwT.consC (Fw.same rfl) FwT.nil))
  · refine Br.yes (by rw [bool_no hv]; rfl) ?_
    conv => whnf
    repeat' ((first | refine Need.auto ?_ | refine Have.mk (fun _h => ?_)); conv => whnf)
    rw [show submitS s q x = (s, 6) from if_neg hv]
    refine RM.allT (FwT.consL (FwL.own (a := 3) (b := 4) (c := 5) rfl rfl rfl) (FwT.consC (Fw.same rfl) FwT.nil))
theorem submit_body : HasBody Tryz.prog 24 := ⟨⟨Tryz.f24, Tryz.func24, rfl, by kernel_rfl⟩⟩
end Go.Proofs
end

section
open Go Go.Am
namespace Go.Proofs
set_option maxRecDepth 20000
def zonesN (blocks size : Int) : Int := 2 * (blocks + 2 + size - 1).tdiv size + 6
def smallC (d : DiceM) : Conf :=
  ⟨zonesN (1 + d.step.next 6) (3 + d.next 4) + d.step.step.step.step.step.next 3, 3 + d.next 4, 1 + d.step.next 6, 1 + d.step.step.next 3, 1 + d.step.step.step.next 3, 1 + d.step.step.step.step.next 3⟩
def smallD (d : DiceM) : DiceM := d.step.step.step.step.step.step
theorem smallD_ok {d : DiceM} (h : d.ok) : (smallD d).ok := h.step.step.step.step.step.step
theorem small_spec (d : DiceM) (hd : d.ok) : CSpec Tryz.prog 20 [.c (.ptr 0 0)] [.vr d.cells] fun s H => s = .a (smallC d).cells ∧ H = [.vr (smallD d).cells] := by
  refine CSpec.rm ?_
  refine CSpec.of_vc hΓ Tryz.func20 rfl 37 1 [.cell 2 26] Tryz.ntmps20 rfl (by rw [Tryz.results20]) rfl ?_
  conv => whnf
  repeat' ((first | refine Need.auto ?_ | refine Have.mk (fun _h => ?_)); conv => whnf)
  refine CallN.autoQ [0] next_body (next_spec d hd 4) ?_; conv => whnf
  repeat' ((first | refine Need.auto ?_ | refine Have.mk (fun _h => ?_)); conv => whnf)
  refine CallN.autoQ [0] next_body (next_spec d.step hd.step 6) ?_; conv => whnf
  repeat' ((first | refine Need.auto ?_ | refine Have.mk (fun _h => ?_)); conv => whnf)
  refine CallN.autoQ [0] next_body (next_spec d.step.step hd.step.step 3) ?_; conv => whnf
  repeat' ((first | refine Need.auto ?_ | refine Have.mk (fun _h => ?_)); conv => whnf)
  refine CallN.autoQ [0] next_body (next_spec d.step.step.step hd.step.step.step 3) ?_; conv => whnf
  repeat' ((first | refine Need.auto ?_ | refine Have.mk (fun _h => ?_)); conv => whnf)
  refine CallN.autoQ [0] next_body (next_spec d.step.step.step.step hd.step.step.step.step 3) ?_; conv => whnf
  repeat' ((first | refine Need.auto ?_ | refine Have.mk (fun _h => ?_)); conv => whnf)
  have r1 := d.next_range (n := 4) (by omega) (by omega)
  have r2 := d.step.next_range (n := 6) (by omega) (by omega)
  have r3 := d.step.step.next_range (n := 3) (by omega) (by omega)
  have r4 := d.step.step.step.next_range (n := 3) (by omega) (by omega)
  have r5 := d.step.step.step.step.next_range (n := 3) (by omega) (by omega)
  have r6 := d.step.step.step.step.step.next_range (n := 3) (by omega) (by omega)
  have w1 := wrap_id (3 + d.next 4) (by omega) (by omega)
  have w2 := wrap_id (1 + d.step.next 6) (by omega) (by omega)
  refine Dr.mkE hΓ hMix [38] [(0, 13), (1, 13), (2, 13), (3, 13), (4, 13), (5, 13), (6, 13), (7, 13), (8, 13), (9, 13), (10, 13), (11, 13)] (by kernel_rfl) ?_; conv => whnf
  repeat' ((first | refine Need.auto ?_ | refine Have.mk (fun _h => ?_)); conv => whnf)
  refine CallE.autoQ [0] next_body (next_spec d.step.step.step.step.step hd.step.step.step.step.step 3) ?_; conv => whnf
  repeat' ((first | refine Need.auto ?_ | refine Have.mk (fun _h => ?_)); conv => whnf)
  refine ⟨_, _, ?_, rfl, rfl⟩
  have hq : 0 ≤ (1 + d.step.next 6 + 2 + (3 + d.next 4) - 1).tdiv (3 + d.next 4) ∧ (1 + d.step.next 6 + 2 + (3 + d.next 4) - 1).tdiv (3 + d.next 4) ≤ 100 := by
    rw [Int.tdiv_eq_ediv_of_nonneg (by omega)]
    exact ⟨Int.ediv_nonneg (by omega) (by omega), Int.ediv_le_of_le_mul (by omega) (by omega)⟩
  have e1 : IntKind.i64.wrap (IntKind.i64.wrap (2 * IntKind.i64.wrap ((IntKind.i64.wrap (IntKind.i64.wrap (IntKind.i64.wrap (IntKind.i64.wrap (1 + d.step.next 6) + 2) + IntKind.i64.wrap (3 + d.next 4)) - 1)).tdiv (IntKind.i64.wrap (3 + d.next 4)))) + 6) = zonesN (1 + d.step.next 6) (3 + d.next 4) := by
    rw [w1, w2, wrap_id (1 + d.step.next 6 + 2) (by omega) (by omega), wrap_id (1 + d.step.next 6 + 2 + (3 + d.next 4)) (by omega) (by omega), wrap_id (1 + d.step.next 6 + 2 + (3 + d.next 4) - 1) (by omega) (by omega)]
    rw [wrap_id ((1 + d.step.next 6 + 2 + (3 + d.next 4) - 1).tdiv (3 + d.next 4)) (by omega) (by omega), wrap_id (2 * (1 + d.step.next 6 + 2 + (3 + d.next 4) - 1).tdiv (3 + d.next 4)) (by omega) (by omega)]
    exact wrap_id _ (by omega) (by omega)
  have e2 : IntKind.i64.wrap (zonesN (1 + d.step.next 6) (3 + d.next 4) + d.step.step.step.step.step.next 3) = zonesN (1 + d.step.next 6) (3 + d.next 4) + d.step.step.step.step.step.next 3 := wrap_id _ (by unfold zonesN; omega) (by unfold zonesN; omega)
  have f6 : IntKind.i64.wrap (1 + d.step.step.step.step.next 3) = (smallC d).shards := wrap_id _ (by omega) (by omega)
  have f5 : IntKind.i64.wrap (1 + d.step.step.step.next 3) = (smallC d).depth := wrap_id _ (by omega) (by omega)
  have f4 : IntKind.i64.wrap (1 + d.step.step.next 3) = (smallC d).queues := wrap_id _ (by omega) (by omega)
  have f3 : IntKind.i64.wrap (1 + d.step.next 6) = (smallC d).blocks := w2
  have f2 : IntKind.i64.wrap (3 + d.next 4) = (smallC d).size := w1
  have f1 : IntKind.i64.wrap (IntKind.i64.wrap (IntKind.i64.wrap (2 * IntKind.i64.wrap ((IntKind.i64.wrap (IntKind.i64.wrap (IntKind.i64.wrap (IntKind.i64.wrap (1 + d.step.next 6) + 2) + IntKind.i64.wrap (3 + d.next 4)) - 1)).tdiv (IntKind.i64.wrap (3 + d.next 4)))) + 6) + d.step.step.step.step.step.next 3) = (smallC d).zones := by rw [e1]; exact e2
  rw [show smallD d = d.step.step.step.step.step.step from rfl]
  clear w1 w2 e1 e2 r1 r2 r3 r4 r5 r6 hq
  refine RM.wkW ?_ ?_ (Nat.le_of_ble_eq_true rfl)
  · (repeat' (first | exact WA.nil | refine WA.cons rfl ?_ ?_ | exact WB.nil | refine WB.cons ?_ ?_ | exact WT.nil | refine WT.cons ?_ ?_ | exact WH.nil | refine WH.cons ?_ ?_ | exact WR.nil | refine WR.cons rfl ?_ ?_ | refine WO.vr ?_ | exact WO.dead | exact WO.mpS | refine WO.mpA ?_ | exact WO.arrPA (fun i j => plainRow _ _ _) | refine WO.arrA ?_ | exact WS.u | refine WS.c ?_ | refine WS.a ?_ | refine WS.t ?_ | exact WL.nil | refine WL.cons ?_ ?_ | exact WTL.nil | refine WTL.consC ?_ ?_ | refine WTL.consL ?_ ?_ | exact WC.nils | exact WC.nil rfl | exact WC.nilp | refine WC.fzA | exact WC.ptr rfl (Nat.le_of_ble_eq_true rfl) | exact WC.mpr rfl (Nat.le_of_ble_eq_true rfl) | refine WC.slA | refine WC.intA | refine WC.int ?_ | refine WC.boolA | refine WC.bool ?_ | refine WC.strA | refine WC.str ?_ | exact WC.imm rfl))
  · refine WS.a (WL.cons (WC.int f1) (WL.cons (WC.int f2) (WL.cons (WC.int f3) (WL.cons (WC.int f4) (WL.cons (WC.int f5) (WL.cons (WC.int f6) WL.nil))))))
theorem small_body : HasBody Tryz.prog 20 := ⟨⟨Tryz.f20, Tryz.func20, rfl, by kernel_rfl⟩⟩
theorem small_ok (d : DiceM) : confE (smallC d) = 0 := by
  have r1 := d.next_range (n := 4) (by omega) (by omega)
  have r2 := d.step.next_range (n := 6) (by omega) (by omega)
  have r3 := d.step.step.next_range (n := 3) (by omega) (by omega)
  have r4 := d.step.step.step.next_range (n := 3) (by omega) (by omega)
  have r5 := d.step.step.step.step.next_range (n := 3) (by omega) (by omega)
  have r6 := d.step.step.step.step.step.next_range (n := 3) (by omega) (by omega)
  unfold smallC
  generalize d.next 4 = a at *
  generalize d.step.next 6 = b at *
  generalize d.step.step.next 3 = q at *
  generalize d.step.step.step.next 3 = p at *
  generalize d.step.step.step.step.next 3 = m at *
  generalize d.step.step.step.step.step.next 3 = z at *
  have hs : 1 ≤ (1 + b + 2 + (3 + a) - 1).tdiv (3 + a) ∧ (1 + b + 2 + (3 + a) - 1).tdiv (3 + a) ≤ 4 := by
    rw [Int.tdiv_eq_ediv_of_nonneg (by omega)]
    exact ⟨(Int.le_ediv_iff_mul_le (by omega)).2 (by omega), Int.ediv_le_of_le_mul (by omega) (by omega)⟩
  have hr : confR ⟨zonesN (1 + b) (3 + a) + z, 3 + a, 1 + b, 1 + q, 1 + p, 1 + m⟩ = true := by
    rw [confR_iff]; simp only [zonesN]; omega
  unfold confE
  rw [if_pos hr, if_neg]
  simp only [dataN, capN, slotN, zonesN]
  generalize (1 + b + 2 + (3 + a) - 1).tdiv (3 + a) = t at *
  have h3 : (2 * t + 6 + z - 2 * t - 3) * (3 + a - 1) ≥ 3 * 2 := Int.mul_le_mul (by omega) (by omega) (by omega) (by omega)
  have h4 : (2 * t + 6 + z - 2 * t - 3) * (3 + a - 1) = (3 + z) * (2 + a) := by congr 1 <;> omega
  rintro (h | h)
  · omega
  · rw [h4] at h h3
    omega
end Go.Proofs
end
