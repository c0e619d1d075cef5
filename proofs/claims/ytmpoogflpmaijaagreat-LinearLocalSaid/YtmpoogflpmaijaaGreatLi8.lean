/- Part of the proofs of laws of this seat: contracts and plain lemmas; no condition is added to a statement. -/
import Derived.Test.YtmpoogflpmaijaaGreatAmF
import Derived.Test.YtmpoogflpmaijaaGreatLinB
import Derived.Test.YtmpoogflpmaijaaGreatLi9
import Derived.Test.YtmpoogflpmaijaaGreatD16
set_option linter.unusedSimpArgs false
set_option linter.unusedVariables false
open Go Go.Am
namespace Go.Proofs
set_option maxRecDepth 20000
set_option maxHeartbeats 2000000
theorem light19_spec (bs : List ByteArray) (l : List Evt) : PSpec Tryz.prog 20 [.c (strsC bs), .c (evC l)] (.c (.bool (decide (bs.length ≤ 20) && decide (l.length ≤ 60)))) := by
  refine PSpec.rm ?_
  refine ov hΓ Tryz.func20 13 0 [.tmp 4] Tryz.ntmps20 Tryz.results20 ?_
  ((conv=>whnf);(repeat' ((first|refine Nd ?_|refine Hv fun _h=>?_);conv=>whnf)))
  refine RM.i1 ?_
  · cases c1 : decide (bs.length ≤ 20) <;> cases c2 : decide (l.length ≤ 60) <;> simp_all <;> omega
theorem light19_body : HasBody Tryz.prog 20 := hB Tryz.func20
theorem answered_spec (x : Evt) (d : ByteArray) : PSpec Tryz.prog 24 [.a x.cells, .c (.str d)] (.a (ansA x d).cells) := by
  refine PSpec.rm ?_
  refine ov hΓ Tryz.func24 10 0 [.cell 4 52] Tryz.ntmps24 Tryz.results24 ?_
  ((conv=>whnf);(repeat' ((first|refine Nd ?_|refine Hv fun _h=>?_);conv=>whnf)))
  exact RM.i0
theorem answered_body : HasBody Tryz.prog 24 := hB Tryz.func24
theorem upto6 {P : Nat → Prop} (h0 : P 0) (h1 : P 1) (h2 : P 2) (h3 : P 3) (h4 : P 4) (h5 : P 5) : ∀ i, i < 6 → P i
  | 0, _ => h0
  | 1, _ => h1
  | 2, _ => h2
  | 3, _ => h3
  | 4, _ => h4
  | 5, _ => h5
  | n + 6, h => absurd h (by omega)
theorem upto8 {P : Nat → Prop} (h0 : P 0) (h1 : P 1) (h2 : P 2) (h3 : P 3) (h4 : P 4) (h5 : P 5) (h6 : P 6) (h7 : P 7) : ∀ i, i < 8 → P i
  | 0, _ => h0
  | 1, _ => h1
  | 2, _ => h2
  | 3, _ => h3
  | 4, _ => h4
  | 5, _ => h5
  | 6, _ => h6
  | 7, _ => h7
  | n + 8, h => absurd h (by omega)
def flatE (t : List C) : List Evt → List C
  | [] => t
  | e :: r => e.cells ++ flatE t r
theorem flat_ev {t : List C} : ∀ (l : List Evt) {i j : Nat}, i < l.length → j < 8 → flatG 8 (flatE t l) i j = evG l i j
  | [], i, j, hi, _ => by simp at hi
  | e :: r, 0, j, _, hj => by
    simp only [flatG, flatE, Nat.zero_mul, Nat.zero_add]
    have : lget (e.cells ++ flatE t r) j = lget e.cells j := by
      simp only [lget, getL_eq]
      rw [List.getElem?_append_left (by exact hj)]
    rw [this, cells_lget]
    rfl
  | e :: r, i + 1, j, hi, hj => by
    have ih := flat_ev (t := t) r (i := i) (j := j) (by simpa using hi) hj
    simp only [flatG, flatE] at ih ⊢
    have : lget (e.cells ++ flatE t r) ((i + 1) * 8 + j) = lget (flatE t r) (i * 8 + j) := by
      simp only [lget, getL_eq]
      rw [List.getElem?_append_right (by show 8 ≤ _; omega)]
      congr 2
      show (i + 1) * 8 + j - 8 = _
      omega
    rw [this, ih]
    rfl
theorem ev_fz {id n : Nat} {g : Nat → Nat → C} (e : Evt) (j : Nat) : fzC id n g (e.cell j) = e.cell j := by
  match j with
  | 0 => rfl
  | 1 => rfl
  | 2 => rfl
  | 3 => rfl
  | 4 => rfl
  | 5 => rfl
  | 6 => rfl
  | 7 => rfl
  | j + 8 => rfl
theorem awake_spec : PSpec Tryz.prog 8 [] (.c (.bool true)) := by
  refine PSpec.rm ?_
  refine ov hΓ Tryz.func8 110 0 [.tmp 0] Tryz.ntmps8 Tryz.results8 ?_
  ((conv=>whnf);(repeat' ((first|refine Nd ?_|refine Hv fun _h=>?_);conv=>whnf)))
  refine Dr.mk hΓ hMix (by kernel_rfl) ?_; conv=>whnf
  ((conv=>whnf);(repeat' ((first|refine Nd ?_|refine Hv fun _h=>?_);conv=>whnf)))
  refine CallP.auto value_body (value_spec 5 ) ?_
  ((conv=>whnf);(repeat' ((first|refine Nd ?_|refine Hv fun _h=>?_);conv=>whnf)))
  refine Need.mk (fun i _ => ⟨0, rfl⟩) ?_
  ((conv=>whnf);(repeat' ((first|refine Nd ?_|refine Hv fun _h=>?_);conv=>whnf)))
  refine Dr.mk hΓ hMix (by kernel_rfl) ?_; conv=>whnf
  ((conv=>whnf);(repeat' ((first|refine Nd ?_|refine Hv fun _h=>?_);conv=>whnf)))
  refine CallP.auto answered_body (answered_spec (rA 2) five ) ?_
  ((conv=>whnf);(repeat' ((first|refine Nd ?_|refine Hv fun _h=>?_);conv=>whnf)))
  refine CallP.auto answered_body (answered_spec (rA 3) zeroB ) ?_
  ((conv=>whnf);(repeat' ((first|refine Nd ?_|refine Hv fun _h=>?_);conv=>whnf)))
  refine CallP.auto answered_body (answered_spec wA ByteArray.empty ) ?_
  ((conv=>whnf);(repeat' ((first|refine Nd ?_|refine Hv fun _h=>?_);conv=>whnf)))
  refine Dr.mk hΓ hMix (by kernel_rfl) ?_; conv=>whnf
  ((conv=>whnf);(repeat' ((first|refine Nd ?_|refine Hv fun _h=>?_);conv=>whnf)))
  refine CallP.auto answered_body (answered_spec (rA 2) zeroB ) ?_
  ((conv=>whnf);(repeat' ((first|refine Nd ?_|refine Hv fun _h=>?_);conv=>whnf)))
  refine CallP.auto answered_body (answered_spec (rA 3) five ) ?_
  ((conv=>whnf);(repeat' ((first|refine Nd ?_|refine Hv fun _h=>?_);conv=>whnf)))
  refine CallP.auto answered_body (answered_spec wA ByteArray.empty ) ?_
  ((conv=>whnf);(repeat' ((first|refine Nd ?_|refine Hv fun _h=>?_);conv=>whnf)))
  refine CallN.fzK 4 [1] [(0, .c (.bool false)), (2, .c (.str zeroB)), (6, .c (evC histN)), (7, .c (.sl 5 8 6 6 true))] [.arr 5 1 16 (fun _ _ => .int .u8 0), .vr wA.cells, .vr (rA 2).cells, .vr (rA 3).cells, .dead, .arr 52 8 6 (evG histY)] [.c (.str zeroB), .c (evC histN)] rfl (Nat.zero_le _) ?_ ?_ ?_ ?_ leN ?_
  · intro i hi j hj
    exact (congrArg C.imm (flat_ev histN hi hj)).trans (evCell_imm _ _)
  all_goals (repeat' (first | exact WA.nil | refine WA.cons rfl ?_ ?_ | exact WB.nil | refine WB.cons ?_ ?_ | exact WT.nil | refine WT.cons ?_ ?_ | exact WH.nil | refine WH.cons ?_ ?_ | exact WR.nil | refine WR.cons rfl ?_ ?_ | refine WO.vr ?_ | exact WO.dead | exact WO.mpS | refine WO.mpA ?_ | exact WO.arrPA (fun i j => plainRow _ _ _) | refine WO.arrA ?_ | exact WS.u | refine WS.c ?_ | refine WS.a ?_ | refine WS.t ?_ | exact WL.nil | refine WL.cons ?_ ?_ | exact WTL.nil | refine WTL.consC ?_ ?_ | refine WTL.consL ?_ ?_ | exact WC.nils | exact WC.nil rfl | exact WC.nilp | refine WC.fzA | exact WC.ptr rfl leN | exact WC.mpr rfl leN | refine WC.slA | refine WC.intA | refine WC.int ?_ | refine WC.boolA | refine WC.bool ?_ | refine WC.strA | refine WC.str ?_ | exact WC.imm rfl))
  all_goals first
    | (intro i hi j hj; exact WC.eq ((congrArg (fzC 4 6 _) (flat_ev histY hi hj)).trans (ev_fz _ _)) (evCell_imm _ _))
    | (intro i hi j hj; have h0 : j = 0 := (by have : j < 1 := hj; omega); subst h0; exact WC.eq rfl rfl)
    | exact WC.fz rfl rfl (fun i hi j hj => leF.of_eq (flat_ev histN hi hj)) (fun q => by cases q)
    | exact WC.fz rfl rfl (fun i hi j hj => leF.of_eq (flat_ev histY hi hj)) (fun q => by cases q)
    | exact WC.fz rfl rfl (fun i hi j hj => leF.of_eq rfl) (fun q => by cases q)
    | exact WC.sl rfl leN rfl rfl (fun q => q)
    | skip
  refine CallN.pureA block_body (block_spec zeroB histN (by decide) ) ?_
  rw [histN_block]
  ((conv=>whnf);(repeat' ((first|refine Nd ?_|refine Hv fun _h=>?_);conv=>whnf)))
  refine CallN.fzK 5 [1, 2, 9] [(0, .c (.bool false)), (7, .c (evC histY))] [.arr 5 1 16 (fun _ _ => .int .u8 0), .vr wA.cells, .vr (rA 2).cells, .vr (rA 3).cells, .dead, .dead] [.c (.str zeroB), .c (evC histY)] rfl (Nat.zero_le _) ?_ ?_ ?_ ?_ leN ?_
  · exact fun _ _ _ _ => evCell_imm _ _
  all_goals (repeat' (first | exact WA.nil | refine WA.cons rfl ?_ ?_ | exact WB.nil | refine WB.cons ?_ ?_ | exact WT.nil | refine WT.cons ?_ ?_ | exact WH.nil | refine WH.cons ?_ ?_ | exact WR.nil | refine WR.cons rfl ?_ ?_ | refine WO.vr ?_ | exact WO.dead | exact WO.mpS | refine WO.mpA ?_ | exact WO.arrPA (fun i j => plainRow _ _ _) | refine WO.arrA ?_ | exact WS.u | refine WS.c ?_ | refine WS.a ?_ | refine WS.t ?_ | exact WL.nil | refine WL.cons ?_ ?_ | exact WTL.nil | refine WTL.consC ?_ ?_ | refine WTL.consL ?_ ?_ | exact WC.nils | exact WC.nil rfl | exact WC.nilp | refine WC.fzA | exact WC.ptr rfl leN | exact WC.mpr rfl leN | refine WC.slA | refine WC.intA | refine WC.int ?_ | refine WC.boolA | refine WC.bool ?_ | refine WC.strA | refine WC.str ?_ | exact WC.imm rfl))
  all_goals first
    | (intro i hi j hj; exact WC.eq ((congrArg (fzC 4 6 _) (flat_ev histY hi hj)).trans (ev_fz _ _)) (evCell_imm _ _))
    | (intro i hi j hj; have h0 : j = 0 := (by have : j < 1 := hj; omega); subst h0; exact WC.eq rfl rfl)
    | exact WC.fz rfl rfl (fun i hi j hj => leF.of_eq (flat_ev histN hi hj)) (fun q => by cases q)
    | exact WC.fz rfl rfl (fun i hi j hj => leF.of_eq (flat_ev histY hi hj)) (fun q => by cases q)
    | exact WC.fz rfl rfl (fun i hi j hj => leF.of_eq rfl) (fun q => by cases q)
    | exact WC.sl rfl leN rfl rfl (fun q => q)
    | skip
  refine CallN.pureA block_body (block_spec zeroB histY (by decide) ) ?_
  rw [histY_block]
  ((conv=>whnf);(repeat' ((first|refine Nd ?_|refine Hv fun _h=>?_);conv=>whnf)))
  refine CallN.pureA values_body (values_spec zeroB histY (by decide) ) ?_
  rw [histY_values]
  ((conv=>whnf);(repeat' ((first|refine Nd ?_|refine Hv fun _h=>?_);conv=>whnf)))
  refine Br.yes (by kernel_rfl) ?_
  ((conv=>whnf);(repeat' ((first|refine Nd ?_|refine Hv fun _h=>?_);conv=>whnf)))
  refine CallG.reads (args' := [.c (strsC [zeroB]), .c (evC histY), .c (intsC [2, 1, 3])]) lcheck_body (fun _ => lcheck_spec [zeroB] histY [2, 1, 3] (by decide) (by decide) (by decide)) (fun _ => ?_) rfl ?_
  · refine BwA.cons (BwS.c (bwStrs (f := [zeroB]) rfl rfl fun i hi j hj => ?_)) (BwA.cons (BwS.c (Bw.same rfl)) (BwA.cons (BwS.c (Bw.same rfl)) BwA.nil))
    have hi0 : i = 0 := by omega
    have hj0 : j = 0 := by omega
    subst hi0 hj0
    rfl
  rw [histY_check]
  ((conv=>whnf);(repeat' ((first|refine Nd ?_|refine Hv fun _h=>?_);conv=>whnf)))
  exact RM.i0
theorem awake_body : HasBody Tryz.prog 8 := hB Tryz.func8
end Go.Proofs
