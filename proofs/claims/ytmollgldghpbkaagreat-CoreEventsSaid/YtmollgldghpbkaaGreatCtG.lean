/- Part of the proofs of laws of this seat: contracts and plain lemmas; no condition is added to a statement. -/
import Derived.Test.YtmollgldghpbkaaGreatCtF
import Derived.Test.YtmollgldghpbkaaGreatModC
set_option linter.unusedSimpArgs false
set_option linter.unusedVariables false
section
open Go Go.Am
namespace Go.Proofs
set_option maxRecDepth 20000
def openS (s : St) : List Int := if validS s = true then openM s.evs else []
theorem openC_spec (s : St) (hs : s.small) (l : List Ent) (hall : mapOk s.map = true → AllS s.map l) : PSpec Tryz.prog 26 [.a s.cells] (.c (intsC (openS s))) := by
  refine PSpec.rm ?_
  refine CSpec.of_vc hΓ Tryz.func26 rfl 10 0 [.tmp 2] Tryz.ntmps26 rfl (by rw [Tryz.results26]) rfl ?_
  conv => whnf
  repeat' ((first | refine Need.auto ?_ | refine Have.mk (fun _h => ?_)); conv => whnf)
  refine CallN.pureA shape_st_body (shape_st_spec s hs l hall ) ?_
  conv => whnf
  repeat' ((first | refine Need.auto ?_ | refine Have.mk (fun _h => ?_)); conv => whnf)
  by_cases hv : validS s = true
  · refine Br.yes hv ?_
    conv => whnf
    repeat' ((first | refine Need.auto ?_ | refine Have.mk (fun _h => ?_)); conv => whnf)
    refine CallN.pureA open_st_body (open_st_spec s hs.evs ) ?_
    conv => whnf
    repeat' ((first | refine Need.auto ?_ | refine Have.mk (fun _h => ?_)); conv => whnf)
    rw [show openS s = openM s.evs from if_pos hv]
    refine RM.immW rfl ?_; (repeat' (first | exact WA.nil | refine WA.cons rfl ?_ ?_ | exact WB.nil | refine WB.cons ?_ ?_ | exact WT.nil | refine WT.cons ?_ ?_ | exact WH.nil | refine WH.cons ?_ ?_ | exact WR.nil | refine WR.cons rfl ?_ ?_ | refine WO.vr ?_ | exact WO.dead | exact WO.mpS | refine WO.mpA ?_ | exact WO.arrPA (fun i j => plainRow _ _ _) | refine WO.arrA ?_ | exact WS.u | refine WS.c ?_ | refine WS.a ?_ | refine WS.t ?_ | exact WL.nil | refine WL.cons ?_ ?_ | exact WTL.nil | refine WTL.consC ?_ ?_ | refine WTL.consL ?_ ?_ | exact WC.nils | exact WC.nil rfl | exact WC.nilp | refine WC.fzA | exact WC.ptr rfl (Nat.le_of_ble_eq_true rfl) | exact WC.mpr rfl (Nat.le_of_ble_eq_true rfl) | refine WC.slA | refine WC.intA | refine WC.int ?_ | refine WC.boolA | refine WC.bool ?_ | refine WC.strA | refine WC.str ?_ | exact WC.imm rfl))
  · refine Br.no (bool_no hv) ?_
    conv => whnf
    repeat' ((first | refine Need.auto ?_ | refine Have.mk (fun _h => ?_)); conv => whnf)
    rw [show openS s = [] from if_neg hv]
    refine RM.immW rfl ?_; (repeat' (first | exact WA.nil | refine WA.cons rfl ?_ ?_ | exact WB.nil | refine WB.cons ?_ ?_ | exact WT.nil | refine WT.cons ?_ ?_ | exact WH.nil | refine WH.cons ?_ ?_ | exact WR.nil | refine WR.cons rfl ?_ ?_ | refine WO.vr ?_ | exact WO.dead | exact WO.mpS | refine WO.mpA ?_ | exact WO.arrPA (fun i j => plainRow _ _ _) | refine WO.arrA ?_ | exact WS.u | refine WS.c ?_ | refine WS.a ?_ | refine WS.t ?_ | exact WL.nil | refine WL.cons ?_ ?_ | exact WTL.nil | refine WTL.consC ?_ ?_ | refine WTL.consL ?_ ?_ | exact WC.nils | exact WC.nil rfl | exact WC.nilp | refine WC.fzA | exact WC.ptr rfl (Nat.le_of_ble_eq_true rfl) | exact WC.mpr rfl (Nat.le_of_ble_eq_true rfl) | refine WC.slA | refine WC.intA | refine WC.int ?_ | refine WC.boolA | refine WC.bool ?_ | refine WC.strA | refine WC.str ?_ | exact WC.imm rfl))
theorem openC_body : HasBody Tryz.prog 26 := ⟨⟨Tryz.f26, Tryz.func26, rfl, by kernel_rfl⟩⟩
theorem cutTo_step {n : Int} {l : List Wrk} {k : Nat} : cutTo n l (k + 1) = if underWay (l.getD k default) = true ∧ ((l.take k).any underWay = false ∨ (l.getD k default).ent.version < cutTo n l k) then (l.getD k default).ent.version else cutTo n l k := rfl
theorem any_take_succ {l : List Wrk} {k : Nat} (hk : k < l.length) : (l.take (k + 1)).any underWay = ((l.take k).any underWay || underWay (l.getD k default)) := by
  rw [take_getD l hk, List.any_append]
  simp
theorem cutTo_none {n : Int} {l : List Wrk} : ∀ k, k ≤ l.length → (l.take k).any underWay = false → cutTo n l k = n
  | 0, _, _ => rfl
  | k + 1, hk, h => by
    rw [any_take_succ (by omega), Bool.or_eq_false_iff] at h
    rw [cutTo_step, if_neg (by rw [h.2]; simp)]
    exact cutTo_none k (by omega) h.1
def cutN (l : List Wrk) (n : Int) (k : Nat) : Int := if (l.take k).any underWay = true then cutTo n l k else 0
theorem cutN_hit {l : List Wrk} {n : Int} {k : Nat} (hk : k < l.length) (h : underWay (l.getD k default) = true ∧ ((l.take k).any underWay = false ∨ (l.getD k default).ent.version < cutN l n k)) : cutN l n (k + 1) = (l.getD k default).ent.version := by
  unfold cutN
  rw [if_pos (by rw [any_take_succ hk, h.1]; simp), cutTo_step, if_pos]
  refine ⟨h.1, ?_⟩
  rcases h.2 with h2 | h2
  · exact Or.inl h2
  · by_cases c : (l.take k).any underWay = true
    · unfold cutN at h2; rw [if_pos c] at h2; exact Or.inr h2
    · exact Or.inl (bool_no c)
theorem cutN_miss {l : List Wrk} {n : Int} {k : Nat} (hk : k < l.length) (h : ¬ (underWay (l.getD k default) = true ∧ ((l.take k).any underWay = false ∨ (l.getD k default).ent.version < cutN l n k))) : cutN l n (k + 1) = cutN l n k ∧ (l.take (k + 1)).any underWay = (l.take k).any underWay := by
  by_cases c : (l.take k).any underWay = true
  · have e : (l.take (k + 1)).any underWay = true := by rw [any_take_succ hk, c]; rfl
    unfold cutN at h ⊢
    rw [if_pos c] at h
    rw [if_pos c, if_pos e, cutTo_step, if_neg h]
    exact ⟨rfl, by rw [e, c]⟩
  · have hu : underWay (l.getD k default) = false := bool_no fun q => h ⟨q, Or.inl (bool_no c)⟩
    have e : (l.take (k + 1)).any underWay = false := by rw [any_take_succ hk, bool_no c, hu]; rfl
    unfold cutN
    rw [if_neg c, if_neg (by rw [e]; simp)]
    exact ⟨rfl, by rw [e, bool_no c]⟩
def cutW (s : St) : Int := cutTo s.next s.works s.works.length
set_option maxHeartbeats 4000000 in
theorem cut_st_spec (s : St) (hs : s.works.length ≤ 1000000) : PSpec Tryz.prog 78 [.a s.cells] (.c (.int .i64 (cutW s))) := by
  refine PSpec.rm ?_
  refine CSpec.of_vc hΓ Tryz.func78 rfl 44 0 [.tmp 2] Tryz.ntmps78 rfl (by rw [Tryz.results78]) rfl ?_
  conv => whnf
  repeat' ((first | refine Need.auto ?_ | refine Have.mk (fun _h => ?_)); conv => whnf)
  refine Lp.mkK hΓ (ι := Nat) [1, 2, 9, 10] (fun i => [(11, .c (.int .i64 i)), (3, .c (.int .i64 (cutN s.works s.next i))), (4, .c (.bool ((s.works.take i).any underWay)))]) (fun k => [.vr s.cells]) (fun k => k ≤ s.works.length) (fun i => s.works.length - i) 0 (Nat.zero_le _) ?_ ?_
  · refine Mv.mkW ?_ ?_ (Nat.le_of_ble_eq_true rfl) <;> (repeat' (first | exact WA.nil | refine WA.cons rfl ?_ ?_ | exact WB.nil | refine WB.cons ?_ ?_ | exact WT.nil | refine WT.cons ?_ ?_ | exact WH.nil | refine WH.cons ?_ ?_ | exact WR.nil | refine WR.cons rfl ?_ ?_ | refine WO.vr ?_ | exact WO.dead | exact WO.mpS | refine WO.mpA ?_ | exact WO.arrPA (fun i j => plainRow _ _ _) | refine WO.arrA ?_ | exact WS.u | refine WS.c ?_ | refine WS.a ?_ | refine WS.t ?_ | exact WL.nil | refine WL.cons ?_ ?_ | exact WTL.nil | refine WTL.consC ?_ ?_ | refine WTL.consL ?_ ?_ | exact WC.nils | exact WC.nil rfl | exact WC.nilp | refine WC.fzA | exact WC.ptr rfl (Nat.le_of_ble_eq_true rfl) | exact WC.mpr rfl (Nat.le_of_ble_eq_true rfl) | refine WC.slA | refine WC.intA | refine WC.int ?_ | refine WC.boolA | refine WC.bool ?_ | refine WC.strA | refine WC.str ?_ | exact WC.imm rfl))
  · intro k hk
    conv => whnf
    repeat' ((first | refine Need.auto ?_ | refine Have.mk (fun _h => ?_)); conv => whnf)
    (first | refine Br.lt (fun h1 => ?_) (fun h1 => ?_) | refine Br.le (fun h1 => ?_) (fun h1 => ?_) | refine Br.gt (fun h1 => ?_) (fun h1 => ?_) | refine Br.ge (fun h1 => ?_) (fun h1 => ?_) | refine Br.eq (fun h1 => ?_) (fun h1 => ?_) | refine Br.ne (fun h1 => ?_) (fun h1 => ?_) | refine Br.not (fun h1 => ?_) (fun h1 => ?_) | refine Br.mk (fun h1 => ?_) (fun h1 => ?_)) <;> (try simp only [Int.toNat_natCast] at h1) <;> (conv => whnf)
    · repeat' ((first | refine Need.auto ?_ | refine Have.mk (fun _h => ?_)); conv => whnf)
      have w0 := wrap_id (↑k + 1) (by omega) (by omega)
      have e0 : ((k : Int)).toNat = k := rfl
      have hu : underWay (s.works.getD k default) = true ↔ (s.works.getD k default).state = 7 ∨ (s.works.getD k default).state = 8 := by unfold underWay; exact decide_eq_true_iff
      by_cases c : underWay (s.works.getD k default) = true ∧ ((s.works.take k).any underWay = false ∨ (s.works.getD k default).ent.version < cutN s.works s.next k)
      · refine Br.yes ?_ ?_
        · rw [hu] at c
          rcases c with ⟨c1 | c1, c2 | c2⟩ <;> simp [-List.getD_eq_getElem?_getD, c1, c2]
        conv => whnf
        repeat' ((first | refine Need.auto ?_ | refine Have.mk (fun _h => ?_)); conv => whnf)
        refine ⟨k + 1, by omega, by omega, ?_⟩
        refine Mv.mkW ?_ ?_ (Nat.le_of_ble_eq_true rfl) <;> (repeat' (first | exact WA.nil | refine WA.cons rfl ?_ ?_ | exact WB.nil | refine WB.cons ?_ ?_ | exact WT.nil | refine WT.cons ?_ ?_ | exact WH.nil | refine WH.cons ?_ ?_ | exact WR.nil | refine WR.cons rfl ?_ ?_ | refine WO.vr ?_ | exact WO.dead | exact WO.mpS | refine WO.mpA ?_ | exact WO.arrPA (fun i j => plainRow _ _ _) | refine WO.arrA ?_ | exact WS.u | refine WS.c ?_ | refine WS.a ?_ | refine WS.t ?_ | exact WL.nil | refine WL.cons ?_ ?_ | exact WTL.nil | refine WTL.consC ?_ ?_ | refine WTL.consL ?_ ?_ | exact WC.nils | exact WC.nil rfl | exact WC.nilp | refine WC.fzA | exact WC.ptr rfl (Nat.le_of_ble_eq_true rfl) | exact WC.mpr rfl (Nat.le_of_ble_eq_true rfl) | refine WC.slA | refine WC.intA | refine WC.int ?_ | refine WC.boolA | refine WC.bool ?_ | refine WC.strA | refine WC.str ?_ | exact WC.imm rfl))
        · exact (cutN_hit (by omega) c).symm
        · rw [any_take_succ (by omega), c.1, Bool.or_true]
      · refine Br.no ?_ ?_
        · refine Bool.eq_false_iff.2 fun e => c ?_
          rw [hu]
          simp [-List.getD_eq_getElem?_getD, -List.any_eq_false] at e
          exact e
        conv => whnf
        repeat' ((first | refine Need.auto ?_ | refine Have.mk (fun _h => ?_)); conv => whnf)
        refine ⟨k + 1, by omega, by omega, ?_⟩
        have hm := cutN_miss (n := s.next) (k := k) (by omega) c
        refine Mv.mkW ?_ ?_ (Nat.le_of_ble_eq_true rfl) <;> (repeat' (first | exact WA.nil | refine WA.cons rfl ?_ ?_ | exact WB.nil | refine WB.cons ?_ ?_ | exact WT.nil | refine WT.cons ?_ ?_ | exact WH.nil | refine WH.cons ?_ ?_ | exact WR.nil | refine WR.cons rfl ?_ ?_ | refine WO.vr ?_ | exact WO.dead | exact WO.mpS | refine WO.mpA ?_ | exact WO.arrPA (fun i j => plainRow _ _ _) | refine WO.arrA ?_ | exact WS.u | refine WS.c ?_ | refine WS.a ?_ | refine WS.t ?_ | exact WL.nil | refine WL.cons ?_ ?_ | exact WTL.nil | refine WTL.consC ?_ ?_ | refine WTL.consL ?_ ?_ | exact WC.nils | exact WC.nil rfl | exact WC.nilp | refine WC.fzA | exact WC.ptr rfl (Nat.le_of_ble_eq_true rfl) | exact WC.mpr rfl (Nat.le_of_ble_eq_true rfl) | refine WC.slA | refine WC.intA | refine WC.int ?_ | refine WC.boolA | refine WC.bool ?_ | refine WC.strA | refine WC.str ?_ | exact WC.imm rfl))
        · exact hm.2.symm
    · repeat' ((first | refine Need.auto ?_ | refine Have.mk (fun _h => ?_)); conv => whnf)
      have : k = s.works.length := by omega
      subst this
      have e2 : s.works.take s.works.length = s.works := List.take_length
      rw [e2]
      by_cases c : s.works.any underWay = true
      · refine Br.no (by rw [c]; rfl) ?_
        conv => whnf
        repeat' ((first | refine Need.auto ?_ | refine Have.mk (fun _h => ?_)); conv => whnf)
        rw [show cutW s = cutN s.works s.next s.works.length by unfold cutN cutW; rw [e2, if_pos c]]
        refine RM.immW rfl ?_; (repeat' (first | exact WA.nil | refine WA.cons rfl ?_ ?_ | exact WB.nil | refine WB.cons ?_ ?_ | exact WT.nil | refine WT.cons ?_ ?_ | exact WH.nil | refine WH.cons ?_ ?_ | exact WR.nil | refine WR.cons rfl ?_ ?_ | refine WO.vr ?_ | exact WO.dead | exact WO.mpS | refine WO.mpA ?_ | exact WO.arrPA (fun i j => plainRow _ _ _) | refine WO.arrA ?_ | exact WS.u | refine WS.c ?_ | refine WS.a ?_ | refine WS.t ?_ | exact WL.nil | refine WL.cons ?_ ?_ | exact WTL.nil | refine WTL.consC ?_ ?_ | refine WTL.consL ?_ ?_ | exact WC.nils | exact WC.nil rfl | exact WC.nilp | refine WC.fzA | exact WC.ptr rfl (Nat.le_of_ble_eq_true rfl) | exact WC.mpr rfl (Nat.le_of_ble_eq_true rfl) | refine WC.slA | refine WC.intA | refine WC.int ?_ | refine WC.boolA | refine WC.bool ?_ | refine WC.strA | refine WC.str ?_ | exact WC.imm rfl))
      · refine Br.yes (by rw [bool_no c]; rfl) ?_
        conv => whnf
        repeat' ((first | refine Need.auto ?_ | refine Have.mk (fun _h => ?_)); conv => whnf)
        rw [show cutW s = s.next from cutTo_none _ (Nat.le_refl _) (by rw [e2]; exact bool_no c)]
        refine RM.immW rfl ?_; (repeat' (first | exact WA.nil | refine WA.cons rfl ?_ ?_ | exact WB.nil | refine WB.cons ?_ ?_ | exact WT.nil | refine WT.cons ?_ ?_ | exact WH.nil | refine WH.cons ?_ ?_ | exact WR.nil | refine WR.cons rfl ?_ ?_ | refine WO.vr ?_ | exact WO.dead | exact WO.mpS | refine WO.mpA ?_ | exact WO.arrPA (fun i j => plainRow _ _ _) | refine WO.arrA ?_ | exact WS.u | refine WS.c ?_ | refine WS.a ?_ | refine WS.t ?_ | exact WL.nil | refine WL.cons ?_ ?_ | exact WTL.nil | refine WTL.consC ?_ ?_ | refine WTL.consL ?_ ?_ | exact WC.nils | exact WC.nil rfl | exact WC.nilp | refine WC.fzA | exact WC.ptr rfl (Nat.le_of_ble_eq_true rfl) | exact WC.mpr rfl (Nat.le_of_ble_eq_true rfl) | refine WC.slA | refine WC.intA | refine WC.int ?_ | refine WC.boolA | refine WC.bool ?_ | refine WC.strA | refine WC.str ?_ | exact WC.imm rfl))
theorem cut_st_body : HasBody Tryz.prog 78 := ⟨⟨Tryz.f78, Tryz.func78, rfl, by kernel_rfl⟩⟩
theorem cutC_spec (s : St) (hs : s.small) (l : List Ent) (hall : mapOk s.map = true → AllS s.map l) : PSpec Tryz.prog 32 [.a s.cells] (.c (.int .i64 (cutS s))) := by
  refine PSpec.rm ?_
  refine CSpec.of_vc hΓ Tryz.func32 rfl 10 0 [.tmp 2] Tryz.ntmps32 rfl (by rw [Tryz.results32]) rfl ?_
  conv => whnf
  repeat' ((first | refine Need.auto ?_ | refine Have.mk (fun _h => ?_)); conv => whnf)
  refine CallN.pureA shape_st_body (shape_st_spec s hs l hall ) ?_
  conv => whnf
  repeat' ((first | refine Need.auto ?_ | refine Have.mk (fun _h => ?_)); conv => whnf)
  by_cases hv : validS s = true
  · refine Br.yes hv ?_
    conv => whnf
    repeat' ((first | refine Need.auto ?_ | refine Have.mk (fun _h => ?_)); conv => whnf)
    refine CallN.pureA cut_st_body (cut_st_spec s hs.works ) ?_
    conv => whnf
    repeat' ((first | refine Need.auto ?_ | refine Have.mk (fun _h => ?_)); conv => whnf)
    rw [show cutS s = cutW s from if_pos hv]
    refine RM.immW rfl ?_; (repeat' (first | exact WA.nil | refine WA.cons rfl ?_ ?_ | exact WB.nil | refine WB.cons ?_ ?_ | exact WT.nil | refine WT.cons ?_ ?_ | exact WH.nil | refine WH.cons ?_ ?_ | exact WR.nil | refine WR.cons rfl ?_ ?_ | refine WO.vr ?_ | exact WO.dead | exact WO.mpS | refine WO.mpA ?_ | exact WO.arrPA (fun i j => plainRow _ _ _) | refine WO.arrA ?_ | exact WS.u | refine WS.c ?_ | refine WS.a ?_ | refine WS.t ?_ | exact WL.nil | refine WL.cons ?_ ?_ | exact WTL.nil | refine WTL.consC ?_ ?_ | refine WTL.consL ?_ ?_ | exact WC.nils | exact WC.nil rfl | exact WC.nilp | refine WC.fzA | exact WC.ptr rfl (Nat.le_of_ble_eq_true rfl) | exact WC.mpr rfl (Nat.le_of_ble_eq_true rfl) | refine WC.slA | refine WC.intA | refine WC.int ?_ | refine WC.boolA | refine WC.bool ?_ | refine WC.strA | refine WC.str ?_ | exact WC.imm rfl))
  · refine Br.no (bool_no hv) ?_
    conv => whnf
    repeat' ((first | refine Need.auto ?_ | refine Have.mk (fun _h => ?_)); conv => whnf)
    rw [show cutS s = 0 from if_neg hv]
    refine RM.immW rfl ?_; (repeat' (first | exact WA.nil | refine WA.cons rfl ?_ ?_ | exact WB.nil | refine WB.cons ?_ ?_ | exact WT.nil | refine WT.cons ?_ ?_ | exact WH.nil | refine WH.cons ?_ ?_ | exact WR.nil | refine WR.cons rfl ?_ ?_ | refine WO.vr ?_ | exact WO.dead | exact WO.mpS | refine WO.mpA ?_ | exact WO.arrPA (fun i j => plainRow _ _ _) | refine WO.arrA ?_ | exact WS.u | refine WS.c ?_ | refine WS.a ?_ | refine WS.t ?_ | exact WL.nil | refine WL.cons ?_ ?_ | exact WTL.nil | refine WTL.consC ?_ ?_ | refine WTL.consL ?_ ?_ | exact WC.nils | exact WC.nil rfl | exact WC.nilp | refine WC.fzA | exact WC.ptr rfl (Nat.le_of_ble_eq_true rfl) | exact WC.mpr rfl (Nat.le_of_ble_eq_true rfl) | refine WC.slA | refine WC.intA | refine WC.int ?_ | refine WC.boolA | refine WC.bool ?_ | refine WC.strA | refine WC.str ?_ | exact WC.imm rfl))
theorem cutC_body : HasBody Tryz.prog 32 := ⟨⟨Tryz.f32, Tryz.func32, rfl, by kernel_rfl⟩⟩
end Go.Proofs
end

section
open Go Go.Am
namespace Go.Proofs
set_option maxRecDepth 20000
theorem dropC_spec (s : St) (hs : s.works.length ≤ 1000000) (e : Ent) : PSpec Tryz.prog 81 [.a e.cells, .c (.ip 48 (lget s.cells))] (.c (.bool (dropE (cutW s) e))) := by
  refine PSpec.rm ?_
  refine CSpec.of_vc hΓ Tryz.func81 rfl 14 0 [.tmp 3] Tryz.ntmps81 rfl (by rw [Tryz.results81]) rfl ?_
  conv => whnf
  repeat' ((first | refine Need.auto ?_ | refine Have.mk (fun _h => ?_)); conv => whnf)
  refine Dr.mk hΓ hMix (by kernel_rfl) ?_; conv => whnf
  repeat' ((first | refine Need.auto ?_ | refine Have.mk (fun _h => ?_)); conv => whnf)
  refine CallP.autoG cut_st_body (fun _ => cut_st_spec s hs ) ?_
  conv => whnf
  repeat' ((first | refine Need.auto ?_ | refine Have.mk (fun _h => ?_)); conv => whnf)
  refine RM.immW rfl (WS.c (WC.bool ?_))
  unfold dropE
  by_cases h : e.kind = 2 <;> simp [h]
theorem dropC_body : HasBody Tryz.prog 81 := ⟨⟨Tryz.f81, Tryz.func81, rfl, by kernel_rfl⟩⟩
theorem dropFI_spec (s0 : St) (h0 : s0.works.length ≤ 1000000) (l : List Ent) (hl : l.length ≤ 1000000) : PSpec Tryz.prog 146 [.c (entsC l), .c (.fn (.func 81) 1 (capS48 s0))] (.c (.int .i64 (if l.any (dropE (cutW s0)) = true then (l.findIdx (dropE (cutW s0)) : Nat) else -1))) := by
  refine PSpec.rm ?_
  refine CSpec.of_vc hΓ Tryz.func146 rfl 19 0 [.tmp 4] Tryz.ntmps146 rfl (by rw [Tryz.results146]) rfl ?_
  conv => whnf
  repeat' ((first | refine Need.auto ?_ | refine Have.mk (fun _h => ?_)); conv => whnf)
  refine Lp.mkK hΓ (ι := Nat) [0, 1, 7] (fun i => [(8, .c (.int .i64 i))]) (fun _ => []) (fun i => i ≤ l.length ∧ ∀ j, j < i → (dropE (cutW s0)) (l.getD j default) = false) (fun i => l.length - i) 0 ⟨Nat.zero_le _, fun j hj => absurd hj (by omega)⟩ ?_ ?_
  · refine Mv.mkW ?_ ?_ (Nat.le_of_ble_eq_true rfl) <;> (repeat' (first | exact WA.nil | refine WA.cons rfl ?_ ?_ | exact WB.nil | refine WB.cons ?_ ?_ | exact WT.nil | refine WT.cons ?_ ?_ | exact WH.nil | refine WH.cons ?_ ?_ | exact WR.nil | refine WR.cons rfl ?_ ?_ | refine WO.vr ?_ | exact WO.dead | exact WO.mpS | refine WO.mpA ?_ | exact WO.arrPA (fun i j => plainRow _ _ _) | refine WO.arrA ?_ | exact WS.u | refine WS.c ?_ | refine WS.a ?_ | refine WS.t ?_ | exact WL.nil | refine WL.cons ?_ ?_ | exact WTL.nil | refine WTL.consC ?_ ?_ | refine WTL.consL ?_ ?_ | exact WC.nils | exact WC.nil rfl | exact WC.nilp | refine WC.fzA | exact WC.ptr rfl (Nat.le_of_ble_eq_true rfl) | exact WC.mpr rfl (Nat.le_of_ble_eq_true rfl) | refine WC.slA | refine WC.intA | refine WC.int ?_ | refine WC.boolA | refine WC.bool ?_ | refine WC.strA | refine WC.str ?_ | exact WC.imm rfl))
    exact WC.fnI (fun j _ => rfl)
  · rintro k ⟨hk, hs⟩
    conv => whnf
    repeat' ((first | refine Need.auto ?_ | refine Have.mk (fun _h => ?_)); conv => whnf)
    (first | refine Br.lt (fun h1 => ?_) (fun h1 => ?_) | refine Br.le (fun h1 => ?_) (fun h1 => ?_) | refine Br.gt (fun h1 => ?_) (fun h1 => ?_) | refine Br.ge (fun h1 => ?_) (fun h1 => ?_) | refine Br.eq (fun h1 => ?_) (fun h1 => ?_) | refine Br.ne (fun h1 => ?_) (fun h1 => ?_) | refine Br.not (fun h1 => ?_) (fun h1 => ?_) | refine Br.mk (fun h1 => ?_) (fun h1 => ?_)) <;> (try simp only [Int.toNat_natCast] at h1) <;> (conv => whnf)
    · repeat' ((first | refine Need.auto ?_ | refine Have.mk (fun _h => ?_)); conv => whnf)
      refine CallN.pureA dropC_body (dropC_spec s0 h0 (l.getD k default) ) ?_
      conv => whnf
      repeat' ((first | refine Need.auto ?_ | refine Have.mk (fun _h => ?_)); conv => whnf)
      rcases Bool.eq_false_or_eq_true ((dropE (cutW s0)) (l.getD k default)) with hb | hb
      · refine Br.yes hb ?_
        conv => whnf
        repeat' ((first | refine Need.auto ?_ | refine Have.mk (fun _h => ?_)); conv => whnf)
        obtain ⟨q1, q2⟩ := any_getD (p := dropE (cutW s0)) (by omega) hb hs
        rw [if_pos q1, q2]
        refine RM.immW rfl ?_; (repeat' (first | exact WA.nil | refine WA.cons rfl ?_ ?_ | exact WB.nil | refine WB.cons ?_ ?_ | exact WT.nil | refine WT.cons ?_ ?_ | exact WH.nil | refine WH.cons ?_ ?_ | exact WR.nil | refine WR.cons rfl ?_ ?_ | refine WO.vr ?_ | exact WO.dead | exact WO.mpS | refine WO.mpA ?_ | exact WO.arrPA (fun i j => plainRow _ _ _) | refine WO.arrA ?_ | exact WS.u | refine WS.c ?_ | refine WS.a ?_ | refine WS.t ?_ | exact WL.nil | refine WL.cons ?_ ?_ | exact WTL.nil | refine WTL.consC ?_ ?_ | refine WTL.consL ?_ ?_ | exact WC.nils | exact WC.nil rfl | exact WC.nilp | refine WC.fzA | exact WC.ptr rfl (Nat.le_of_ble_eq_true rfl) | exact WC.mpr rfl (Nat.le_of_ble_eq_true rfl) | refine WC.slA | refine WC.intA | refine WC.int ?_ | refine WC.boolA | refine WC.bool ?_ | refine WC.strA | refine WC.str ?_ | exact WC.imm rfl))
      · refine Br.no hb ?_
        conv => whnf
        repeat' ((first | refine Need.auto ?_ | refine Have.mk (fun _h => ?_)); conv => whnf)
        have w0 := wrap_id (↑k + 1) (by omega) (by omega)
        refine ⟨k + 1, ⟨by omega, all_step hs hb⟩, by omega, ?_⟩
        refine Mv.mkW ?_ ?_ (Nat.le_of_ble_eq_true rfl) <;> (repeat' (first | exact WA.nil | refine WA.cons rfl ?_ ?_ | exact WB.nil | refine WB.cons ?_ ?_ | exact WT.nil | refine WT.cons ?_ ?_ | exact WH.nil | refine WH.cons ?_ ?_ | exact WR.nil | refine WR.cons rfl ?_ ?_ | refine WO.vr ?_ | exact WO.dead | exact WO.mpS | refine WO.mpA ?_ | exact WO.arrPA (fun i j => plainRow _ _ _) | refine WO.arrA ?_ | exact WS.u | refine WS.c ?_ | refine WS.a ?_ | refine WS.t ?_ | exact WL.nil | refine WL.cons ?_ ?_ | exact WTL.nil | refine WTL.consC ?_ ?_ | refine WTL.consL ?_ ?_ | exact WC.nils | exact WC.nil rfl | exact WC.nilp | refine WC.fzA | exact WC.ptr rfl (Nat.le_of_ble_eq_true rfl) | exact WC.mpr rfl (Nat.le_of_ble_eq_true rfl) | refine WC.slA | refine WC.intA | refine WC.int ?_ | refine WC.boolA | refine WC.bool ?_ | refine WC.strA | refine WC.str ?_ | exact WC.imm rfl))
        exact WC.fnI (fun j _ => rfl)
    · repeat' ((first | refine Need.auto ?_ | refine Have.mk (fun _h => ?_)); conv => whnf)
      rw [if_neg (any_none (fun j hj => hs j (by omega)))]
      refine RM.immW rfl ?_; (repeat' (first | exact WA.nil | refine WA.cons rfl ?_ ?_ | exact WB.nil | refine WB.cons ?_ ?_ | exact WT.nil | refine WT.cons ?_ ?_ | exact WH.nil | refine WH.cons ?_ ?_ | exact WR.nil | refine WR.cons rfl ?_ ?_ | refine WO.vr ?_ | exact WO.dead | exact WO.mpS | refine WO.mpA ?_ | exact WO.arrPA (fun i j => plainRow _ _ _) | refine WO.arrA ?_ | exact WS.u | refine WS.c ?_ | refine WS.a ?_ | refine WS.t ?_ | exact WL.nil | refine WL.cons ?_ ?_ | exact WTL.nil | refine WTL.consC ?_ ?_ | refine WTL.consL ?_ ?_ | exact WC.nils | exact WC.nil rfl | exact WC.nilp | refine WC.fzA | exact WC.ptr rfl (Nat.le_of_ble_eq_true rfl) | exact WC.mpr rfl (Nat.le_of_ble_eq_true rfl) | refine WC.slA | refine WC.intA | refine WC.int ?_ | refine WC.boolA | refine WC.bool ?_ | refine WC.strA | refine WC.str ?_ | exact WC.imm rfl))
theorem dropFI_body : HasBody Tryz.prog 146 := ⟨⟨Tryz.f146, Tryz.func146, rfl, by kernel_rfl⟩⟩
theorem dropF_spec (s0 : St) (h0 : s0.works.length ≤ 1000000) (l : List Ent) (hl : l.length ≤ 1000000) : PSpec Tryz.prog 79 [.c (entsC l), .c (.fn (.func 81) 1 (capS48 s0))] (.c (.bool (l.any (dropE (cutW s0))))) := by
  refine PSpec.rm ?_
  refine CSpec.of_vc hΓ Tryz.func79 rfl 9 0 [.tmp 4] Tryz.ntmps79 rfl (by rw [Tryz.results79]) rfl ?_
  conv => whnf
  repeat' ((first | refine Need.auto ?_ | refine Have.mk (fun _h => ?_)); conv => whnf)
  refine CallN.reads dropFI_body (dropFI_spec s0 h0 l hl) (BwA.cons (BwS.c (Bw.same rfl)) (BwA.cons (BwS.c (Bw.fn fun j _ => Bw.same (rfl))) BwA.nil)) rfl ?_
  conv => whnf
  repeat' ((first | refine Need.auto ?_ | refine Have.mk (fun _h => ?_)); conv => whnf)
  refine RM.immW rfl ?_; (repeat' (first | exact WA.nil | refine WA.cons rfl ?_ ?_ | exact WB.nil | refine WB.cons ?_ ?_ | exact WT.nil | refine WT.cons ?_ ?_ | exact WH.nil | refine WH.cons ?_ ?_ | exact WR.nil | refine WR.cons rfl ?_ ?_ | refine WO.vr ?_ | exact WO.dead | exact WO.mpS | refine WO.mpA ?_ | exact WO.arrPA (fun i j => plainRow _ _ _) | refine WO.arrA ?_ | exact WS.u | refine WS.c ?_ | refine WS.a ?_ | refine WS.t ?_ | exact WL.nil | refine WL.cons ?_ ?_ | exact WTL.nil | refine WTL.consC ?_ ?_ | refine WTL.consL ?_ ?_ | exact WC.nils | exact WC.nil rfl | exact WC.nilp | refine WC.fzA | exact WC.ptr rfl (Nat.le_of_ble_eq_true rfl) | exact WC.mpr rfl (Nat.le_of_ble_eq_true rfl) | refine WC.slA | refine WC.intA | refine WC.int ?_ | refine WC.boolA | refine WC.bool ?_ | refine WC.strA | refine WC.str ?_ | exact WC.imm rfl))
  cases l.any (dropE (cutW s0)) with
  | true => simp
  | false => rfl
theorem dropF_body : HasBody Tryz.prog 79 := ⟨⟨Tryz.f79, Tryz.func79, rfl, by kernel_rfl⟩⟩
theorem AllS.anyD {m : List (List Ent)} {l : List Ent} (h : AllS m l) (p : Ent → Bool) : l.any p = m.any fun x => x.any p := by
  rw [Bool.eq_iff_iff, List.any_eq_true, List.any_eq_true]
  constructor
  · rintro ⟨e, h1, h2⟩
    obtain ⟨i, hi, he⟩ := (h.mem e).1 h1
    rw [getD_eq _ _ hi] at he
    exact ⟨_, List.getElem_mem hi, List.any_eq_true.2 ⟨e, he, h2⟩⟩
  · rintro ⟨x, h1, h2⟩
    obtain ⟨e, he, h3⟩ := List.any_eq_true.1 h2
    obtain ⟨i, hi, rfl⟩ := List.getElem_of_mem h1
    exact ⟨e, (h.mem e).2 ⟨i, hi, by rw [getD_eq _ _ hi]; exact he⟩, h3⟩
theorem validS_map {s : St} (h : validS s = true) : mapOk s.map = true := by
  unfold validS at h
  rw [Bool.and_eq_true] at h
  have := h.1
  unfold partsM at this
  simp only [Bool.and_eq_true] at this
  exact this.2.2.2.1
theorem droppable_spec (s : St) (hs : s.small) (l : List Ent) (hall : mapOk s.map = true → AllS s.map l) : PSpec Tryz.prog 33 [.a s.cells] (.c (.bool (dropS s))) := by
  refine PSpec.rm ?_
  refine CSpec.of_vc hΓ Tryz.func33 rfl 15 0 [.tmp 2] Tryz.ntmps33 rfl (by rw [Tryz.results33]) rfl ?_
  conv => whnf
  repeat' ((first | refine Need.auto ?_ | refine Have.mk (fun _h => ?_)); conv => whnf)
  refine CallN.pureA shape_st_body (shape_st_spec s hs l hall ) ?_
  conv => whnf
  repeat' ((first | refine Need.auto ?_ | refine Have.mk (fun _h => ?_)); conv => whnf)
  refine CallG.auto all_body (fun hv => (hall (validS_map hv)).spec) ?_
  conv => whnf
  repeat' ((first | refine Need.auto ?_ | refine Have.mk (fun _h => ?_)); conv => whnf)
  refine CallG.reads dropF_body (fun hv => dropF_spec s hs.works l (hall (validS_map hv)).len) (fun hv => BwA.cons (BwS.c (Bw.same rfl)) (BwA.cons (BwS.c (Bw.fn1 (g := lget [.ptr 1 0]) (g' := capS48 s) (Bw.ptrL (cs := s.cells) rfl rfl rfl))) BwA.nil)) rfl ?_
  conv => whnf
  repeat' ((first | refine Need.auto ?_ | refine Have.mk (fun _h => ?_)); conv => whnf)
  refine RM.immW rfl (WS.c (WC.bool ?_))
  unfold dropS
  cases hv : validS s with
  | false => rfl
  | true =>
    rw [show cutS s = cutW s from if_pos hv, ← (hall (validS_map hv)).anyD]
    rfl
theorem droppable_body : HasBody Tryz.prog 33 := ⟨⟨Tryz.f33, Tryz.func33, rfl, by kernel_rfl⟩⟩
end Go.Proofs
end

section
open Go Go.Am
namespace Go.Proofs
set_option maxRecDepth 20000
theorem any_take_ret {l : List Ret} {k : Nat} {z : Int} (hk : k < l.length) : isRet (l.take (k + 1)) z = (isRet (l.take k) z || decide ((l.getD k default).zone = z)) := by
  unfold isRet
  rw [take_getD l hk, List.any_append]
  simp
theorem isRet_of {l : List Ret} {k : Nat} {z : Int} (hk : k < l.length) (h : (l.getD k default).zone = z) : isRet l z = true := by
  unfold isRet
  rw [List.any_eq_true]
  refine ⟨l[k], List.getElem_mem hk, ?_⟩
  rw [getD_eq _ _ hk] at h
  exact decide_eq_true h
set_option maxHeartbeats 4000000 in
theorem can_spec (s : St) (hs : s.small) (z : Int) : PSpec Tryz.prog 190 [.a s.cells, .c (.int .i64 z)] (.c (.bool (canV s z))) := by
  refine PSpec.rm ?_
  have hr0 := hs.rets
  refine CSpec.of_vc hΓ Tryz.func190 rfl 91 0 [.tmp 4] Tryz.ntmps190 rfl (by rw [Tryz.results190]) rfl ?_
  conv => whnf
  repeat' ((first | refine Need.auto ?_ | refine Have.mk (fun _h => ?_)); conv => whnf)
  refine CallN.pureA isDataL_body (isDataL_spec s.cfg z ) ?_
  conv => whnf
  repeat' ((first | refine Need.auto ?_ | refine Have.mk (fun _h => ?_)); conv => whnf)
  have no : ¬ canV s z = true → canV s z = false := bool_no
  by_cases h1 : isDataM s.cfg z = true ∧ (z < s.dev.zones.length ∧ z < s.live.length ∧ z < s.pend.length)
  · have hz := isDataM_nonneg h1.1
    refine Br.no (Bool.eq_false_iff.2 fun ebye => by simp [-List.getD_eq_getElem?_getD, -Int.default_eq_zero, h1.1] at ebye <;> grind) ?_; conv => whnf
    have hr := confR_iff.1 hz.2.2
    have hz0 := hz.1
    have hz1 := h1.2.1
    have hz2 := h1.2.2.1
    have hz3 := h1.2.2.2
    repeat' ((first | refine Need.auto ?_ | refine Have.mk (fun _h => ?_)); conv => whnf)
    by_cases h2 : (s.dev.zones.getD z.toNat default).state = 4 ∧ s.pend.getD z.toNat default = 0 ∧ z ≠ s.host ∧ z ≠ s.lane
    · refine Br.no (Bool.eq_false_iff.2 fun ebye => by simp [-List.getD_eq_getElem?_getD, -Int.default_eq_zero, h2] at ebye <;> grind) ?_; conv => whnf
      repeat' ((first | refine Need.auto ?_ | refine Have.mk (fun _h => ?_)); conv => whnf)
      refine Lp.mkK hΓ (ι := Nat) [1, 2, 69, 70] (fun i => [(71, .c (.int .i64 i))]) (fun _ => [.vr s.cells]) (fun k => k ≤ s.rets.length ∧ isRet (s.rets.take k) z = false) (fun i => s.rets.length - i) 0 ⟨Nat.zero_le _, rfl⟩ ?_ ?_
      · refine Mv.mkW ?_ ?_ (Nat.le_of_ble_eq_true rfl) <;> (repeat' (first | exact WA.nil | refine WA.cons rfl ?_ ?_ | exact WB.nil | refine WB.cons ?_ ?_ | exact WT.nil | refine WT.cons ?_ ?_ | exact WH.nil | refine WH.cons ?_ ?_ | exact WR.nil | refine WR.cons rfl ?_ ?_ | refine WO.vr ?_ | exact WO.dead | exact WO.mpS | refine WO.mpA ?_ | exact WO.arrPA (fun i j => plainRow _ _ _) | refine WO.arrA ?_ | exact WS.u | refine WS.c ?_ | refine WS.a ?_ | refine WS.t ?_ | exact WL.nil | refine WL.cons ?_ ?_ | exact WTL.nil | refine WTL.consC ?_ ?_ | refine WTL.consL ?_ ?_ | exact WC.nils | exact WC.nil rfl | exact WC.nilp | refine WC.fzA | exact WC.ptr rfl (Nat.le_of_ble_eq_true rfl) | exact WC.mpr rfl (Nat.le_of_ble_eq_true rfl) | refine WC.slA | refine WC.intA | refine WC.int ?_ | refine WC.boolA | refine WC.bool ?_ | refine WC.strA | refine WC.str ?_ | exact WC.imm rfl))
      · rintro k ⟨hk, hk2⟩
        conv => whnf
        repeat' ((first | refine Need.auto ?_ | refine Have.mk (fun _h => ?_)); conv => whnf)
        (first | refine Br.lt (fun h3 => ?_) (fun h3 => ?_) | refine Br.le (fun h3 => ?_) (fun h3 => ?_) | refine Br.gt (fun h3 => ?_) (fun h3 => ?_) | refine Br.ge (fun h3 => ?_) (fun h3 => ?_) | refine Br.eq (fun h3 => ?_) (fun h3 => ?_) | refine Br.ne (fun h3 => ?_) (fun h3 => ?_) | refine Br.not (fun h3 => ?_) (fun h3 => ?_) | refine Br.mk (fun h3 => ?_) (fun h3 => ?_)) <;> (try simp only [Int.toNat_natCast] at h3) <;> (conv => whnf)
        · repeat' ((first | refine Need.auto ?_ | refine Have.mk (fun _h => ?_)); conv => whnf)
          have w0 := wrap_id (↑k + 1) (by omega) (by omega)
          (first | refine Br.lt (fun h4 => ?_) (fun h4 => ?_) | refine Br.le (fun h4 => ?_) (fun h4 => ?_) | refine Br.gt (fun h4 => ?_) (fun h4 => ?_) | refine Br.ge (fun h4 => ?_) (fun h4 => ?_) | refine Br.eq (fun h4 => ?_) (fun h4 => ?_) | refine Br.ne (fun h4 => ?_) (fun h4 => ?_) | refine Br.not (fun h4 => ?_) (fun h4 => ?_) | refine Br.mk (fun h4 => ?_) (fun h4 => ?_)) <;> (try simp only [Int.toNat_natCast] at h4) <;> (conv => whnf)
          · repeat' ((first | refine Need.auto ?_ | refine Have.mk (fun _h => ?_)); conv => whnf)
            rw [no (fun q => by rw [canV_iff] at q; rw [isRet_of (by omega) h4] at q; cases q.2.2.2.1)]
            refine RM.immW rfl ?_; (repeat' (first | exact WA.nil | refine WA.cons rfl ?_ ?_ | exact WB.nil | refine WB.cons ?_ ?_ | exact WT.nil | refine WT.cons ?_ ?_ | exact WH.nil | refine WH.cons ?_ ?_ | exact WR.nil | refine WR.cons rfl ?_ ?_ | refine WO.vr ?_ | exact WO.dead | exact WO.mpS | refine WO.mpA ?_ | exact WO.arrPA (fun i j => plainRow _ _ _) | refine WO.arrA ?_ | exact WS.u | refine WS.c ?_ | refine WS.a ?_ | refine WS.t ?_ | exact WL.nil | refine WL.cons ?_ ?_ | exact WTL.nil | refine WTL.consC ?_ ?_ | refine WTL.consL ?_ ?_ | exact WC.nils | exact WC.nil rfl | exact WC.nilp | refine WC.fzA | exact WC.ptr rfl (Nat.le_of_ble_eq_true rfl) | exact WC.mpr rfl (Nat.le_of_ble_eq_true rfl) | refine WC.slA | refine WC.intA | refine WC.int ?_ | refine WC.boolA | refine WC.bool ?_ | refine WC.strA | refine WC.str ?_ | exact WC.imm rfl))
          · repeat' ((first | refine Need.auto ?_ | refine Have.mk (fun _h => ?_)); conv => whnf)
            refine ⟨k + 1, ⟨by omega, by rw [any_take_ret (by omega), hk2, decide_eq_false h4]; rfl⟩, by omega, ?_⟩
            refine Mv.mkW ?_ ?_ (Nat.le_of_ble_eq_true rfl) <;> (repeat' (first | exact WA.nil | refine WA.cons rfl ?_ ?_ | exact WB.nil | refine WB.cons ?_ ?_ | exact WT.nil | refine WT.cons ?_ ?_ | exact WH.nil | refine WH.cons ?_ ?_ | exact WR.nil | refine WR.cons rfl ?_ ?_ | refine WO.vr ?_ | exact WO.dead | exact WO.mpS | refine WO.mpA ?_ | exact WO.arrPA (fun i j => plainRow _ _ _) | refine WO.arrA ?_ | exact WS.u | refine WS.c ?_ | refine WS.a ?_ | refine WS.t ?_ | exact WL.nil | refine WL.cons ?_ ?_ | exact WTL.nil | refine WTL.consC ?_ ?_ | refine WTL.consL ?_ ?_ | exact WC.nils | exact WC.nil rfl | exact WC.nilp | refine WC.fzA | exact WC.ptr rfl (Nat.le_of_ble_eq_true rfl) | exact WC.mpr rfl (Nat.le_of_ble_eq_true rfl) | refine WC.slA | refine WC.intA | refine WC.int ?_ | refine WC.boolA | refine WC.bool ?_ | refine WC.strA | refine WC.str ?_ | exact WC.imm rfl))
        · repeat' ((first | refine Need.auto ?_ | refine Have.mk (fun _h => ?_)); conv => whnf)
          refine Dr.mk hΓ hMix (by kernel_rfl) ?_; conv => whnf
          repeat' ((first | refine Need.auto ?_ | refine Have.mk (fun _h => ?_)); conv => whnf)
          have hk3 : isRet s.rets z = false := by
            have : k = s.rets.length := by omega
            rw [this, List.take_length] at hk2
            exact hk2
          have w1 : IntKind.i64.wrap (s.cfg.size - 1) = s.cfg.size - 1 := wrap_id _ (by omega) (by omega)
          refine RM.immW rfl (WS.c (WC.bool ?_))
          rw [w1, Bool.eq_iff_iff, canV_iff]
          simp [-List.getD_eq_getElem?_getD, -Int.default_eq_zero, h1, h2, hk3]
    · refine Br.yes (Decidable.byContradiction fun ebye => h2 (by simp [-List.getD_eq_getElem?_getD, -Int.default_eq_zero] at ebye <;> grind)) ?_; conv => whnf
      repeat' ((first | refine Need.auto ?_ | refine Have.mk (fun _h => ?_)); conv => whnf)
      rw [no (fun q => h2 (canV_iff.1 q).2.2.1)]
      refine RM.immW rfl ?_; (repeat' (first | exact WA.nil | refine WA.cons rfl ?_ ?_ | exact WB.nil | refine WB.cons ?_ ?_ | exact WT.nil | refine WT.cons ?_ ?_ | exact WH.nil | refine WH.cons ?_ ?_ | exact WR.nil | refine WR.cons rfl ?_ ?_ | refine WO.vr ?_ | exact WO.dead | exact WO.mpS | refine WO.mpA ?_ | exact WO.arrPA (fun i j => plainRow _ _ _) | refine WO.arrA ?_ | exact WS.u | refine WS.c ?_ | refine WS.a ?_ | refine WS.t ?_ | exact WL.nil | refine WL.cons ?_ ?_ | exact WTL.nil | refine WTL.consC ?_ ?_ | refine WTL.consL ?_ ?_ | exact WC.nils | exact WC.nil rfl | exact WC.nilp | refine WC.fzA | exact WC.ptr rfl (Nat.le_of_ble_eq_true rfl) | exact WC.mpr rfl (Nat.le_of_ble_eq_true rfl) | refine WC.slA | refine WC.intA | refine WC.int ?_ | refine WC.boolA | refine WC.bool ?_ | refine WC.strA | refine WC.str ?_ | exact WC.imm rfl))
  · refine Br.yes (Decidable.byContradiction fun ebye => h1 (by simp [-List.getD_eq_getElem?_getD, -Int.default_eq_zero] at ebye <;> grind)) ?_; conv => whnf
    repeat' ((first | refine Need.auto ?_ | refine Have.mk (fun _h => ?_)); conv => whnf)
    rw [no (fun q => h1 ⟨(canV_iff.1 q).1, (canV_iff.1 q).2.1⟩)]
    refine RM.immW rfl ?_; (repeat' (first | exact WA.nil | refine WA.cons rfl ?_ ?_ | exact WB.nil | refine WB.cons ?_ ?_ | exact WT.nil | refine WT.cons ?_ ?_ | exact WH.nil | refine WH.cons ?_ ?_ | exact WR.nil | refine WR.cons rfl ?_ ?_ | refine WO.vr ?_ | exact WO.dead | exact WO.mpS | refine WO.mpA ?_ | exact WO.arrPA (fun i j => plainRow _ _ _) | refine WO.arrA ?_ | exact WS.u | refine WS.c ?_ | refine WS.a ?_ | refine WS.t ?_ | exact WL.nil | refine WL.cons ?_ ?_ | exact WTL.nil | refine WTL.consC ?_ ?_ | refine WTL.consL ?_ ?_ | exact WC.nils | exact WC.nil rfl | exact WC.nilp | refine WC.fzA | exact WC.ptr rfl (Nat.le_of_ble_eq_true rfl) | exact WC.mpr rfl (Nat.le_of_ble_eq_true rfl) | refine WC.slA | refine WC.intA | refine WC.int ?_ | refine WC.boolA | refine WC.bool ?_ | refine WC.strA | refine WC.str ?_ | exact WC.imm rfl))
theorem can_body : HasBody Tryz.prog 190 := ⟨⟨Tryz.f190, Tryz.func190, rfl, by kernel_rfl⟩⟩
theorem better_spec (s : St) (hs : s.small) (z b : Int) (f : Bool) (hb : 0 ≤ b) (hb2 : f = true → b < s.live.length) : PSpec Tryz.prog 189 [.c (.int .i64 z), .c (.ip 48 (lget s.cells)), .c (.ip 1 fun _ => .bool f), .c (.ip 1 fun _ => .int .i64 b)]
    (.c (.bool (canV s z && (!f || decide (s.live.getD z.toNat default < s.live.getD b.toNat default))))) := by
  refine PSpec.rm ?_
  refine CSpec.of_vc hΓ Tryz.func189 rfl 28 0 [.tmp 5] Tryz.ntmps189 rfl (by rw [Tryz.results189]) rfl ?_
  conv => whnf
  repeat' ((first | refine Need.auto ?_ | refine Have.mk (fun _h => ?_)); conv => whnf)
  refine Dr.mk hΓ hMix (by kernel_rfl) ?_; conv => whnf
  repeat' ((first | refine Need.auto ?_ | refine Have.mk (fun _h => ?_)); conv => whnf)
  refine CallP.auto can_body (can_spec s hs z ) ?_
  conv => whnf
  have hz : canV s z = true → 0 ≤ z ∧ z < s.live.length := fun h => ⟨(isDataM_nonneg (canV_iff.1 h).1).1, (canV_iff.1 h).2.1.2.1⟩
  cases hcv : canV s z with
  | false =>
    repeat' ((first | refine Need.auto ?_ | refine Have.mk (fun _h => ?_)); conv => whnf)
    refine RM.immW rfl (WS.c (WC.bool rfl))
  | true =>
    have hz1 := hz hcv
    cases f with
    | false =>
      repeat' ((first | refine Need.auto ?_ | refine Have.mk (fun _h => ?_)); conv => whnf)
      refine RM.immW rfl (WS.c (WC.bool rfl))
    | true =>
      have hb3 := hb2 rfl
      repeat' ((first | refine Need.auto ?_ | refine Have.mk (fun _h => ?_)); conv => whnf)
      refine RM.immW rfl (WS.c (WC.bool rfl))
theorem better_body : HasBody Tryz.prog 189 := ⟨⟨Tryz.f189, Tryz.func189, rfl, by kernel_rfl⟩⟩
theorem bel3 {n a b c oa ob oc : Nat} {ha : Nat.blt a n = true} {hb : Nat.blt b n = true} {hc : Nat.blt c n = true} : ∀ j, j < 3 → (lget [C.ptr a oa, C.ptr b ob, C.ptr c oc] j).bel n = true := fun j hj => by
  match j, hj with
  | 0, _ => exact ha
  | 1, _ => exact hb
  | 2, _ => exact hc
theorem choose_spec (s : St) (hs : s.small) : PSpec Tryz.prog 132 [.a s.cells] (.t [.inl (.int .i64 (chooseV s).1), .inl (.bool (chooseV s).2)]) := by
  refine PSpec.rm ?_
  refine CSpec.of_vc hΓ Tryz.func132 rfl 23 0 [.tmp 2, .tmp 3] Tryz.ntmps132 rfl (by rw [Tryz.results132]) rfl ?_
  have hz0 := hs.dev.z
  conv => whnf
  repeat' ((first | refine Need.auto ?_ | refine Have.mk (fun _h => ?_)); conv => whnf)
  refine Lp.mkK hΓ (ι := Nat) [2, 3, 4, 5, 6, 12] (fun i => [(13, .c (.int .i64 i))]) (fun k => [.vr s.cells, .vr [.int .i64 (bestTo s k).1], .vr [.bool (bestTo s k).2]]) (fun k => k ≤ s.dev.zones.length) (fun i => s.dev.zones.length - i) 0 (Nat.zero_le _) ?_ ?_
  · refine Mv.mkW ?_ ?_ (Nat.le_of_ble_eq_true rfl) <;> (repeat' (first | exact WA.nil | refine WA.cons rfl ?_ ?_ | exact WB.nil | refine WB.cons ?_ ?_ | exact WT.nil | refine WT.cons ?_ ?_ | exact WH.nil | refine WH.cons ?_ ?_ | exact WR.nil | refine WR.cons rfl ?_ ?_ | refine WO.vr ?_ | exact WO.dead | exact WO.mpS | refine WO.mpA ?_ | exact WO.arrPA (fun i j => plainRow _ _ _) | refine WO.arrA ?_ | exact WS.u | refine WS.c ?_ | refine WS.a ?_ | refine WS.t ?_ | exact WL.nil | refine WL.cons ?_ ?_ | exact WTL.nil | refine WTL.consC ?_ ?_ | refine WTL.consL ?_ ?_ | exact WC.nils | exact WC.nil rfl | exact WC.nilp | refine WC.fzA | exact WC.ptr rfl (Nat.le_of_ble_eq_true rfl) | exact WC.mpr rfl (Nat.le_of_ble_eq_true rfl) | refine WC.slA | refine WC.intA | refine WC.int ?_ | refine WC.boolA | refine WC.bool ?_ | refine WC.strA | refine WC.str ?_ | exact WC.imm rfl))
    exact WC.fnP (bel3 (ha := rfl) (hb := rfl) (hc := rfl))
  · intro k hk
    conv => whnf
    repeat' ((first | refine Need.auto ?_ | refine Have.mk (fun _h => ?_)); conv => whnf)
    (first | refine Br.lt (fun h1 => ?_) (fun h1 => ?_) | refine Br.le (fun h1 => ?_) (fun h1 => ?_) | refine Br.gt (fun h1 => ?_) (fun h1 => ?_) | refine Br.ge (fun h1 => ?_) (fun h1 => ?_) | refine Br.eq (fun h1 => ?_) (fun h1 => ?_) | refine Br.ne (fun h1 => ?_) (fun h1 => ?_) | refine Br.not (fun h1 => ?_) (fun h1 => ?_) | refine Br.mk (fun h1 => ?_) (fun h1 => ?_)) <;> (try simp only [Int.toNat_natCast] at h1) <;> (conv => whnf)
    · repeat' ((first | refine Need.auto ?_ | refine Have.mk (fun _h => ?_)); conv => whnf)
      have w0 := wrap_id (↑k + 1) (by omega) (by omega)
      refine CallN.reads better_body (better_spec s hs k (bestTo s k).1 (bestTo s k).2 (by omega) (fun h => by have := (canV_iff.1 (bestTo_lt h).2).2.1.2.1; omega)) (BwA.cons (BwS.c (Bw.same rfl)) (BwA.cons (BwS.c (Bw.ptrL (cs := s.cells) rfl rfl rfl)) (BwA.cons (BwS.c (Bw.ptr1 rfl rfl)) (BwA.cons (BwS.c (Bw.ptr1 rfl rfl)) BwA.nil)))) rfl ?_
      conv => whnf
      repeat' ((first | refine Need.auto ?_ | refine Have.mk (fun _h => ?_)); conv => whnf)
      have hst : bestTo s (k + 1) = if canV s k = true ∧ ((bestTo s k).2 = false ∨ s.live.getD k default < s.live.getD (bestTo s k).1 default) then (k, true) else bestTo s k := rfl
      by_cases c : canV s k = true ∧ ((bestTo s k).2 = false ∨ s.live.getD k default < s.live.getD (bestTo s k).1 default)
      · refine Br.yes (by rcases c with ⟨c1, c2 | c2⟩ <;> simp [-List.getD_eq_getElem?_getD, -Int.default_eq_zero, c1, c2]) ?_
        conv => whnf
        repeat' ((first | refine Need.auto ?_ | refine Have.mk (fun _h => ?_)); conv => whnf)
        refine ⟨k + 1, by omega, by omega, ?_⟩
        rw [hst, if_pos c]
        refine Mv.mkW ?_ ?_ (Nat.le_of_ble_eq_true rfl) <;> (repeat' (first | exact WA.nil | refine WA.cons rfl ?_ ?_ | exact WB.nil | refine WB.cons ?_ ?_ | exact WT.nil | refine WT.cons ?_ ?_ | exact WH.nil | refine WH.cons ?_ ?_ | exact WR.nil | refine WR.cons rfl ?_ ?_ | refine WO.vr ?_ | exact WO.dead | exact WO.mpS | refine WO.mpA ?_ | exact WO.arrPA (fun i j => plainRow _ _ _) | refine WO.arrA ?_ | exact WS.u | refine WS.c ?_ | refine WS.a ?_ | refine WS.t ?_ | exact WL.nil | refine WL.cons ?_ ?_ | exact WTL.nil | refine WTL.consC ?_ ?_ | refine WTL.consL ?_ ?_ | exact WC.nils | exact WC.nil rfl | exact WC.nilp | refine WC.fzA | exact WC.ptr rfl (Nat.le_of_ble_eq_true rfl) | exact WC.mpr rfl (Nat.le_of_ble_eq_true rfl) | refine WC.slA | refine WC.intA | refine WC.int ?_ | refine WC.boolA | refine WC.bool ?_ | refine WC.strA | refine WC.str ?_ | exact WC.imm rfl))
        exact WC.fnP (bel3 (ha := rfl) (hb := rfl) (hc := rfl))
      · refine Br.no (Bool.eq_false_iff.2 fun e => c (by simpa [-List.getD_eq_getElem?_getD, -Int.default_eq_zero] using e)) ?_
        conv => whnf
        repeat' ((first | refine Need.auto ?_ | refine Have.mk (fun _h => ?_)); conv => whnf)
        refine ⟨k + 1, by omega, by omega, ?_⟩
        rw [hst, if_neg c]
        refine Mv.mkW ?_ ?_ (Nat.le_of_ble_eq_true rfl) <;> (repeat' (first | exact WA.nil | refine WA.cons rfl ?_ ?_ | exact WB.nil | refine WB.cons ?_ ?_ | exact WT.nil | refine WT.cons ?_ ?_ | exact WH.nil | refine WH.cons ?_ ?_ | exact WR.nil | refine WR.cons rfl ?_ ?_ | refine WO.vr ?_ | exact WO.dead | exact WO.mpS | refine WO.mpA ?_ | exact WO.arrPA (fun i j => plainRow _ _ _) | refine WO.arrA ?_ | exact WS.u | refine WS.c ?_ | refine WS.a ?_ | refine WS.t ?_ | exact WL.nil | refine WL.cons ?_ ?_ | exact WTL.nil | refine WTL.consC ?_ ?_ | refine WTL.consL ?_ ?_ | exact WC.nils | exact WC.nil rfl | exact WC.nilp | refine WC.fzA | exact WC.ptr rfl (Nat.le_of_ble_eq_true rfl) | exact WC.mpr rfl (Nat.le_of_ble_eq_true rfl) | refine WC.slA | refine WC.intA | refine WC.int ?_ | refine WC.boolA | refine WC.bool ?_ | refine WC.strA | refine WC.str ?_ | exact WC.imm rfl))
        exact WC.fnP (bel3 (ha := rfl) (hb := rfl) (hc := rfl))
    · repeat' ((first | refine Need.auto ?_ | refine Have.mk (fun _h => ?_)); conv => whnf)
      have : k = s.dev.zones.length := by omega
      subst this
      refine Dr.mk hΓ hMix (by kernel_rfl) ?_; conv => whnf
      repeat' ((first | refine Need.auto ?_ | refine Have.mk (fun _h => ?_)); conv => whnf)
      refine RM.immW rfl ?_
      (repeat' (first | exact WA.nil | refine WA.cons rfl ?_ ?_ | exact WB.nil | refine WB.cons ?_ ?_ | exact WT.nil | refine WT.cons ?_ ?_ | exact WH.nil | refine WH.cons ?_ ?_ | exact WR.nil | refine WR.cons rfl ?_ ?_ | refine WO.vr ?_ | exact WO.dead | exact WO.mpS | refine WO.mpA ?_ | exact WO.arrPA (fun i j => plainRow _ _ _) | refine WO.arrA ?_ | exact WS.u | refine WS.c ?_ | refine WS.a ?_ | refine WS.t ?_ | exact WL.nil | refine WL.cons ?_ ?_ | exact WTL.nil | refine WTL.consC ?_ ?_ | refine WTL.consL ?_ ?_ | exact WC.nils | exact WC.nil rfl | exact WC.nilp | refine WC.fzA | exact WC.ptr rfl (Nat.le_of_ble_eq_true rfl) | exact WC.mpr rfl (Nat.le_of_ble_eq_true rfl) | refine WC.slA | refine WC.intA | refine WC.int ?_ | refine WC.boolA | refine WC.bool ?_ | refine WC.strA | refine WC.str ?_ | exact WC.imm rfl))
theorem choose_body : HasBody Tryz.prog 132 := ⟨⟨Tryz.f132, Tryz.func132, rfl, by kernel_rfl⟩⟩
theorem maxI_pos {l : List Int} (h : 1 ≤ l.length) : decide (maxTo l (l.length - 1) > 0) = l.any fun x => decide (0 < x) := by
  rw [Bool.eq_iff_iff, decide_eq_true_eq, List.any_eq_true]
  rw [← Decidable.not_iff_not]
  rw [show ¬ maxTo l (l.length - 1) > 0 ↔ maxTo l (l.length - 1) ≤ 0 by omega, maxTo_le]
  constructor
  · rintro h1 ⟨x, hx, h2⟩
    obtain ⟨i, hi, rfl⟩ := List.getElem_of_mem hx
    have := h1 i (by omega)
    rw [getD_eq _ _ hi] at this
    have := of_decide_eq_true h2
    omega
  · intro h1 i hi
    rw [getD_eq _ _ (by omega)]
    exact Int.not_lt.1 fun h2 => h1 ⟨_, List.getElem_mem (by omega), decide_eq_true h2⟩
theorem validS_pend {s : St} (h : validS s = true) : 1 ≤ s.pend.length := by
  unfold validS at h
  rw [Bool.and_eq_true] at h
  have := h.1
  unfold partsM at this
  simp only [Bool.and_eq_true] at this
  have := this.2.2.2.2.2.2.1
  unfold countsOk at this
  simp only [Bool.and_eq_true, decide_eq_true_eq] at this
  omega
set_option maxHeartbeats 4000000 in
theorem hope_spec (s : St) (hs : s.small) (l : List Ent) (hall : mapOk s.map = true → AllS s.map l) : PSpec Tryz.prog 51 [.a s.cells] (.c (.bool (hopeS s))) := by
  refine PSpec.rm ?_
  refine CSpec.of_vc hΓ Tryz.func51 rfl 48 0 [.tmp 2] Tryz.ntmps51 rfl (by rw [Tryz.results51]) rfl ?_
  conv => whnf
  repeat' ((first | refine Need.auto ?_ | refine Have.mk (fun _h => ?_)); conv => whnf)
  refine CallN.pureA valid_body (valid_spec s hs l hall ) ?_
  conv => whnf
  repeat' ((first | refine Need.auto ?_ | refine Have.mk (fun _h => ?_)); conv => whnf)
  by_cases hv : validS s = true
  · refine Br.no (by rw [hv]; rfl) ?_
    conv => whnf
    repeat' ((first | refine Need.auto ?_ | refine Have.mk (fun _h => ?_)); conv => whnf)
    refine CallN.pureA choose_body (choose_spec s hs ) ?_
    conv => whnf
    repeat' ((first | refine Need.auto ?_ | refine Have.mk (fun _h => ?_)); conv => whnf)
    refine CallG.auto maxI_body (fun _ => maxI_spec s.pend (validS_pend hv) hs.pend ) ?_
    conv => whnf
    repeat' ((first | refine Need.auto ?_ | refine Have.mk (fun _h => ?_)); conv => whnf)
    refine CallG.auto droppable_body (fun _ => droppable_spec s hs l hall ) ?_
    conv => whnf
    repeat' ((first | refine Need.auto ?_ | refine Have.mk (fun _h => ?_)); conv => whnf)
    refine RM.immW rfl (WS.c (WC.bool ?_))
    unfold hopeS
    rw [maxI_pos (validS_pend hv), hv]
    cases (chooseV s).2 <;> cases s.want <;> simp [-List.getD_eq_getElem?_getD]
    simp only [neI, Bool.or_assoc]
  · refine Br.yes (by rw [bool_no hv]; rfl) ?_
    conv => whnf
    repeat' ((first | refine Need.auto ?_ | refine Have.mk (fun _h => ?_)); conv => whnf)
    rw [show hopeS s = false by unfold hopeS; rw [bool_no hv]; rfl]
    refine RM.immW rfl ?_; (repeat' (first | exact WA.nil | refine WA.cons rfl ?_ ?_ | exact WB.nil | refine WB.cons ?_ ?_ | exact WT.nil | refine WT.cons ?_ ?_ | exact WH.nil | refine WH.cons ?_ ?_ | exact WR.nil | refine WR.cons rfl ?_ ?_ | refine WO.vr ?_ | exact WO.dead | exact WO.mpS | refine WO.mpA ?_ | exact WO.arrPA (fun i j => plainRow _ _ _) | refine WO.arrA ?_ | exact WS.u | refine WS.c ?_ | refine WS.a ?_ | refine WS.t ?_ | exact WL.nil | refine WL.cons ?_ ?_ | exact WTL.nil | refine WTL.consC ?_ ?_ | refine WTL.consL ?_ ?_ | exact WC.nils | exact WC.nil rfl | exact WC.nilp | refine WC.fzA | exact WC.ptr rfl (Nat.le_of_ble_eq_true rfl) | exact WC.mpr rfl (Nat.le_of_ble_eq_true rfl) | refine WC.slA | refine WC.intA | refine WC.int ?_ | refine WC.boolA | refine WC.bool ?_ | refine WC.strA | refine WC.str ?_ | exact WC.imm rfl))
theorem hope_body : HasBody Tryz.prog 51 := ⟨⟨Tryz.f51, Tryz.func51, rfl, by kernel_rfl⟩⟩
end Go.Proofs
end
