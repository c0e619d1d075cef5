/- Part of the proofs of laws of this seat: contracts and plain lemmas; no condition is added to a statement. -/
import Derived.Test.YtbahpfnjjkoboaaDurDX
import Derived.Test.YtbahpfnjjkoboaaAmEX
set_option linter.unusedSimpArgs false
set_option linter.unusedVariables false
section
open Go Go.Am
namespace Go.Proofs
theorem durableRaw_spec (bs : List ByteArray) (l : List Evt) (b : Int) (found : List ByteArray) : PSpec Try.prog 5 [.c (strsC bs), .c (evC l), .c (.int .i64 b), .c (strsC found)] (.c (.bool true)) := by
  refine PSpec.rm ?_
  refine CSpec.of_vc hΓ Try.func5 rfl 29 0 [.tmp 8] Try.ntmps5 rfl (by rw [Try.results5]) rfl ?_
  conv => whnf
  repeat' ((first | refine Need.auto ?_ | refine Have.mk (fun _h => ?_)); conv => whnf)
  by_cases hl : l.length ≤ 60
  · have key : ∀ c : Bool, (bif c then true else decide ((l.length : Int) > 60)) = c := fun c => by
      rw [decide_eq_false (by omega)]; cases c <;> rfl
    rw [key]
    refine Br.mk (fun h => ?_) (fun h => ?_)
    · conv => whnf
      repeat' ((first | refine Need.auto ?_ | refine Have.mk (fun _h => ?_)); conv => whnf)
      refine CallN.pureA awake20_body (awake20_spec ) ?_
      conv => whnf
      repeat' ((first | refine Need.auto ?_ | refine Have.mk (fun _h => ?_)); conv => whnf)
      refine RM.immW rfl ?_; (repeat' (first | exact WA.nil | refine WA.cons rfl ?_ ?_ | exact WB.nil | refine WB.cons ?_ ?_ | exact WT.nil | refine WT.cons ?_ ?_ | exact WH.nil | refine WH.cons ?_ ?_ | exact WR.nil | refine WR.cons rfl ?_ ?_ | refine WO.vr ?_ | exact WO.dead | exact WO.mpS | refine WO.mpA ?_ | refine WO.arrA ?_ | exact WS.u | refine WS.c ?_ | refine WS.a ?_ | refine WS.t ?_ | exact WL.nil | refine WL.cons ?_ ?_ | exact WTL.nil | refine WTL.consC ?_ ?_ | refine WTL.consL ?_ ?_ | exact WC.nils | exact WC.nil rfl | exact WC.nilp | refine WC.fzA | exact WC.ptr rfl (Nat.le_of_ble_eq_true rfl) | exact WC.mpr rfl (Nat.le_of_ble_eq_true rfl) | refine WC.slA | refine WC.intA | refine WC.int ?_ | refine WC.boolA | refine WC.bool ?_ | refine WC.strA | refine WC.str ?_ | exact WC.imm rfl))
    · conv => whnf
      repeat' ((first | refine Need.auto ?_ | refine Have.mk (fun _h => ?_)); conv => whnf)
      refine CallN.pureA agree_body (agree_spec bs l b found (by omega) ) ?_
      conv => whnf
      repeat' ((first | refine Need.auto ?_ | refine Have.mk (fun _h => ?_)); conv => whnf)
      refine CallG.auto awake20_body (fun _ => awake20_spec ) ?_
      conv => whnf
      repeat' ((first | refine Need.auto ?_ | refine Have.mk (fun _h => ?_)); conv => whnf)
      refine RM.immW rfl ?_; (repeat' (first | exact WA.nil | refine WA.cons rfl ?_ ?_ | exact WB.nil | refine WB.cons ?_ ?_ | exact WT.nil | refine WT.cons ?_ ?_ | exact WH.nil | refine WH.cons ?_ ?_ | exact WR.nil | refine WR.cons rfl ?_ ?_ | refine WO.vr ?_ | exact WO.dead | exact WO.mpS | refine WO.mpA ?_ | refine WO.arrA ?_ | exact WS.u | refine WS.c ?_ | refine WS.a ?_ | refine WS.t ?_ | exact WL.nil | refine WL.cons ?_ ?_ | exact WTL.nil | refine WTL.consC ?_ ?_ | refine WTL.consL ?_ ?_ | exact WC.nils | exact WC.nil rfl | exact WC.nilp | refine WC.fzA | exact WC.ptr rfl (Nat.le_of_ble_eq_true rfl) | exact WC.mpr rfl (Nat.le_of_ble_eq_true rfl) | refine WC.slA | refine WC.intA | refine WC.int ?_ | refine WC.boolA | refine WC.bool ?_ | refine WC.strA | refine WC.str ?_ | exact WC.imm rfl))
  · have key : ∀ c : Bool, (bif c then true else decide ((l.length : Int) > 60)) = true := fun c => by
      rw [decide_eq_true (by omega)]; cases c <;> rfl
    refine Br.yes (key _) ?_
    conv => whnf
    repeat' ((first | refine Need.auto ?_ | refine Have.mk (fun _h => ?_)); conv => whnf)
    refine CallN.pureA awake20_body (awake20_spec ) ?_
    conv => whnf
    repeat' ((first | refine Need.auto ?_ | refine Have.mk (fun _h => ?_)); conv => whnf)
    refine RM.immW rfl ?_; (repeat' (first | exact WA.nil | refine WA.cons rfl ?_ ?_ | exact WB.nil | refine WB.cons ?_ ?_ | exact WT.nil | refine WT.cons ?_ ?_ | exact WH.nil | refine WH.cons ?_ ?_ | exact WR.nil | refine WR.cons rfl ?_ ?_ | refine WO.vr ?_ | exact WO.dead | exact WO.mpS | refine WO.mpA ?_ | refine WO.arrA ?_ | exact WS.u | refine WS.c ?_ | refine WS.a ?_ | refine WS.t ?_ | exact WL.nil | refine WL.cons ?_ ?_ | exact WTL.nil | refine WTL.consC ?_ ?_ | refine WTL.consL ?_ ?_ | exact WC.nils | exact WC.nil rfl | exact WC.nilp | refine WC.fzA | exact WC.ptr rfl (Nat.le_of_ble_eq_true rfl) | exact WC.mpr rfl (Nat.le_of_ble_eq_true rfl) | refine WC.slA | refine WC.intA | refine WC.int ?_ | refine WC.boolA | refine WC.bool ?_ | refine WC.strA | refine WC.str ?_ | exact WC.imm rfl))
theorem durableRaw_body : HasBody Try.prog 5 := ⟨⟨Try.f5, Try.func5, rfl, by kernel_rfl⟩⟩
end Go.Proofs
end

section
open Go Go.Am
namespace Go.Proofs
structure MadeS where
  d : DiceM
  out : List Evt
  opn : List Evt
/-- An answer of one that is open. -/
def madeX (d : DiceM) (e : Evt) : Evt := if d.next 8 = 7 then { retE e with err := 7 } else retE e
def madeA (s : MadeS) : MadeS :=
  ⟨s.d.step.step.step, s.out ++ [madeX s.d.step.step (s.opn.getD (s.d.step.next s.opn.length).toNat default)], s.opn.take (s.d.step.next s.opn.length).toNat ++ s.opn.drop ((s.d.step.next s.opn.length).toNat + 1)⟩
def madeK (d : DiceM) : Int := 2 + d.step.next 3
def madeN (d : DiceM) (i : Nat) : Evt :=
  ⟨false, d.next 3, i, madeK d, if madeK d = 4 then 0 else d.step.step.next 3, if madeK d = 2 then valueS (1 + d.step.step.step.next 5) else ByteArray.empty, 0, ByteArray.empty⟩
def madeB (s : MadeS) (d : DiceM) (i : Nat) : MadeS :=
  ⟨if madeK d = 2 then d.step.step.step.step else d.step.step.step, s.out ++ [madeN d i], s.opn ++ [madeN d i]⟩
def madeStep (i : Nat) (s : MadeS) : MadeS :=
  if 0 < s.opn.length then (if s.d.next 2 = 0 then madeA s else madeB s s.d.step i) else madeB s s.d i
def madeI (l : List Int) : Nat → MadeS
  | 0 => ⟨⟨l, 0⟩, [], []⟩
  | i + 1 => if 0 < (madeI l i).d.rest then madeStep i (madeI l i) else madeI l i
def madeM (l : List Int) : List Evt := (madeI l 50).out
theorem madeStep_ok {i : Nat} {s : MadeS} (h : s.d.ok) : (madeStep i s).d.ok := by
  unfold madeStep madeA madeB
  split
  · split
    · exact h.step.step.step
    · show DiceM.ok (if _ then _ else _)
      split
      · exact h.step.step.step.step.step
      · exact h.step.step.step.step
  · show DiceM.ok (if _ then _ else _)
    split
    · exact h.step.step.step.step
    · exact h.step.step.step
theorem madeI_ok {l : List Int} (hl : l.length ≤ 10000000) : ∀ i, (madeI l i).d.ok
  | 0 => ⟨Nat.zero_le _, hl⟩
  | i + 1 => by
    simp only [madeI]
    split
    · exact madeStep_ok (madeI_ok hl i)
    · exact madeI_ok hl i
theorem madeStep_len (i : Nat) (s : MadeS) : (madeStep i s).out.length = s.out.length + 1 ∧ (madeStep i s).opn.length ≤ s.opn.length + 1 := by
  unfold madeStep madeA madeB
  split
  · split
    · refine ⟨by simp, ?_⟩
      simp only [List.length_append, List.length_take, List.length_drop]
      omega
    · exact ⟨by simp, by simp⟩
  · exact ⟨by simp, by simp⟩
theorem madeI_len (l : List Int) : ∀ i, (madeI l i).out.length ≤ i ∧ (madeI l i).opn.length ≤ i
  | 0 => ⟨Nat.le_refl _, Nat.le_refl _⟩
  | i + 1 => by
    obtain ⟨h1, h2⟩ := madeI_len l i
    simp only [madeI]
    split
    · obtain ⟨h3, h4⟩ := madeStep_len i (madeI l i)
      omega
    · omega
theorem madeI_stop {l : List Int} {i : Nat} (h : ¬ 0 < (madeI l i).d.rest) : ∀ k, madeI l (i + k) = madeI l i
  | 0 => rfl
  | k + 1 => by
    have ih := madeI_stop h k
    show madeI l (i + k + 1) = _
    rw [madeI, ih, if_neg h]
theorem WC.fzEq {ρ : Nat → Nat} {n id m : Nat} {g : Nat → Nat → C} {c c' : C} (h : c = c') (hi : c'.imm = true) : WC ρ n (fzC id m g c) c' := by subst h; exact WC.fzImm hi
theorem ev_cut {l : List Evt} {k : Nat} (hk : k < l.length) {g0 : Nat → Nat → C} {i j : Nat} (hi : i < 0 + k + (l.length - (k + 1))) : appG (appG g0 0 (evG l)) (0 + k) (fun i j => evG l (k + 1 + i) j) i j = evG (l.take k ++ l.drop (k + 1)) i j := by
  simp only [appG, Nat.zero_add]
  by_cases c : i < k
  · rw [if_pos c, if_neg (by omega)]
    unfold evG rowG
    congr 1
    simp [List.getD, List.getElem?_append, List.getElem?_take, c, (by omega : i < l.length), Nat.min_eq_left (Nat.le_of_lt hk)]
  · rw [if_neg c]
    unfold evG rowG
    congr 1
    simp only [List.getD]
    rw [List.getElem?_append_right (by rw [List.length_take]; omega), List.length_take, Nat.min_eq_left (by omega), List.getElem?_drop]
set_option maxHeartbeats 8000000 in
theorem made_spec (l : List Int) (hl : l.length ≤ 10000000) : PSpec Try.prog 24 [.c (intsC l)] (.c (evC (madeM l))) := by
  refine PSpec.rm ?_
  refine CSpec.of_vc hΓ Try.func24 rfl 92 0 [.tmp 2] Try.ntmps24 rfl (by rw [Try.results24]) rfl ?_
  conv => whnf
  repeat' ((first | refine Need.auto ?_ | refine Have.mk (fun _h => ?_)); conv => whnf)
  refine CallN.autoQ [] roll_body (roll_spec l hl) ?_; conv => whnf
  conv => whnf
  repeat' ((first | refine Need.auto ?_ | refine Have.mk (fun _h => ?_)); conv => whnf)
  refine Lp.reserve 41 8 (evG []) 4 rfl ?_
  refine Lp.reserve 41 8 (evG []) 5 rfl ?_
  refine Lp.mkK hΓ (ι := Nat) [3] (fun i => [(6, .c (.int .i64 i)), (4, .c (.sl 1 8 (madeI l i).out.length (madeI l i).out.length false)), (5, .c (.sl 2 8 (madeI l i).opn.length (madeI l i).opn.length false))]) (fun i => [.vr (madeI l i).d.cells, .arr 41 8 (madeI l i).out.length (evG (madeI l i).out), .arr 41 8 (madeI l i).opn.length (evG (madeI l i).opn)]) (fun i => i ≤ 50 ∧ (madeI l i).out.length = i) (fun i => 50 - i) 0 ⟨Nat.zero_le _, rfl⟩ ?_ ?_
  · refine Mv.mkW ?_ ?_ (Nat.le_of_ble_eq_true rfl) <;> (repeat' (first | exact WA.nil | refine WA.cons rfl ?_ ?_ | exact WB.nil | refine WB.cons ?_ ?_ | exact WT.nil | refine WT.cons ?_ ?_ | exact WH.nil | refine WH.cons ?_ ?_ | exact WR.nil | refine WR.cons rfl ?_ ?_ | refine WO.vr ?_ | exact WO.dead | exact WO.mpS | refine WO.mpA ?_ | refine WO.arrA ?_ | exact WS.u | refine WS.c ?_ | refine WS.a ?_ | refine WS.t ?_ | exact WL.nil | refine WL.cons ?_ ?_ | exact WTL.nil | refine WTL.consC ?_ ?_ | refine WTL.consL ?_ ?_ | exact WC.nils | exact WC.nil rfl | exact WC.nilp | refine WC.fzA | exact WC.ptr rfl (Nat.le_of_ble_eq_true rfl) | exact WC.mpr rfl (Nat.le_of_ble_eq_true rfl) | refine WC.slA | refine WC.intA | refine WC.int ?_ | refine WC.boolA | refine WC.bool ?_ | refine WC.strA | refine WC.str ?_ | exact WC.imm rfl))
    all_goals (intro i hi; exact absurd hi (by omega))
  · intro i ⟨hi, ho⟩
    have hd := madeI_ok hl i
    have hlen := madeI_len l i
    have hs : madeI l (i + 1) = if 0 < (madeI l i).d.rest then madeStep i (madeI l i) else madeI l i := rfl
    have hstop := fun h => madeI_stop (l := l) (i := i) h (50 - i)
    generalize hsI : madeI l i = s at *
    obtain ⟨d, out, opn⟩ := s
    conv => whnf
    repeat' ((first | refine Need.auto ?_ | refine Have.mk (fun _h => ?_)); conv => whnf)
    refine CallN.autoQ [0] rest_body (rest_spec d hd) ?_; conv => whnf
    conv => whnf
    repeat' ((first | refine Need.auto ?_ | refine Have.mk (fun _h => ?_)); conv => whnf)
    dsimp only at *
    by_cases hr : 0 < d.rest ∧ i < 50
    · rw [if_pos hr.1] at hs
      refine Br.yes (by rw [decide_eq_true (by omega), decide_eq_true (by omega)]; rfl) ?_
      conv => whnf
      repeat' ((first | refine Need.auto ?_ | refine Have.mk (fun _h => ?_)); conv => whnf)
      refine CallG.autoQ [0] next_body (next_spec d hd 2) (fun hg => ?_) (fun hg => ?_) <;> (conv => whnf)
      · repeat' ((first | refine Need.auto ?_ | refine Have.mk (fun _h => ?_)); conv => whnf)
        have hop : 0 < opn.length := by simpa using hg
        rw [decide_eq_true (p := ((opn.length : Int) > 0)) (by omega)]
        by_cases h2 : d.next 2 = 0
        · refine Br.yes (by simpa using h2) ?_
          conv => whnf
          repeat' ((first | refine Need.auto ?_ | refine Have.mk (fun _h => ?_)); conv => whnf)
          refine CallN.autoQ [0] next_body (next_spec d.step hd.step opn.length) ?_; conv => whnf
          conv => whnf
          repeat' ((first | refine Need.auto ?_ | refine Have.mk (fun _h => ?_)); conv => whnf)
          have hkr := DiceM.next_range d.step (n := opn.length) (by omega) (by omega)
          have hA : madeStep i ⟨d, out, opn⟩ = madeA ⟨d, out, opn⟩ := by
            unfold madeStep
            rw [if_pos hop, if_pos h2]
          have hA2 : madeA ⟨d, out, opn⟩ = ⟨d.step.step.step, out ++ [madeX d.step.step (opn.getD (d.step.next opn.length).toNat default)], opn.take (d.step.next opn.length).toNat ++ opn.drop ((d.step.next opn.length).toNat + 1)⟩ := rfl
          obtain ⟨k, hk⟩ : ∃ k : Nat, d.step.next opn.length = k := ⟨(d.step.next opn.length).toNat, by omega⟩
          rw [hk, Int.toNat_natCast] at hA2
          rw [hk] at hkr ⊢
          rw [hA, hA2] at hs
          repeat' ((first | refine Need.auto ?_ | refine Have.mk (fun _h => ?_)); conv => whnf)
          rw [Int.toNat_natCast]
          refine Frc.mk (.a (opn.getD k default).cells) ?_ ?_
          · simp [gets, evG, rowG, Evt.cell, Evt.cells]
          conv => whnf
          repeat' ((first | refine Need.auto ?_ | refine Have.mk (fun _h => ?_)); conv => whnf)
          generalize hek : opn.getD k default = e at *
          refine CallN.pureA returnedE_body (returnedE_spec e ) ?_
          conv => whnf
          repeat' ((first | refine Need.auto ?_ | refine Have.mk (fun _h => ?_)); conv => whnf)
          refine CallN.autoQ [0] next_body (next_spec d.step.step hd.step.step 8) ?_; conv => whnf
          conv => whnf
          repeat' ((first | refine Need.auto ?_ | refine Have.mk (fun _h => ?_)); conv => whnf)
          by_cases h8 : d.step.step.next 8 = 7
          · refine Br.yes (by simpa using h8) ?_
            conv => whnf
            repeat' ((first | refine Need.auto ?_ | refine Have.mk (fun _h => ?_)); conv => whnf)
            have hx : madeX d.step.step e = { retE e with err := 7 } := by unfold madeX; rw [if_pos h8]
            refine Dr.mvK [3, 4, 6, 7] [(5, .c (evC opn))] [.vr d.step.step.step.cells, .arr 41 8 (out ++ [madeX d.step.step e]).length (evG (out ++ [madeX d.step.step e])), .dead] ((Mv.fz 2 rfl (Nat.zero_le _) (fun _ _ _ _ => evCell_imm _ _)).trans (Mv.mkW ?_ ?_ (Nat.le_of_ble_eq_true rfl))) ?_
            · (repeat' (first | exact WA.nil | refine WA.cons rfl ?_ ?_ | exact WB.nil | refine WB.cons ?_ ?_ | exact WT.nil | refine WT.cons ?_ ?_ | exact WH.nil | refine WH.cons ?_ ?_ | exact WR.nil | refine WR.cons rfl ?_ ?_ | refine WO.vr ?_ | exact WO.dead | exact WO.mpS | refine WO.mpA ?_ | refine WO.arrA ?_ | exact WS.u | refine WS.c ?_ | refine WS.a ?_ | refine WS.t ?_ | exact WL.nil | refine WL.cons ?_ ?_ | exact WTL.nil | refine WTL.consC ?_ ?_ | refine WTL.consL ?_ ?_ | exact WC.nils | exact WC.nil rfl | exact WC.nilp | refine WC.fzA | exact WC.ptr rfl (Nat.le_of_ble_eq_true rfl) | exact WC.mpr rfl (Nat.le_of_ble_eq_true rfl) | refine WC.slA | refine WC.intA | refine WC.int ?_ | refine WC.boolA | refine WC.bool ?_ | refine WC.strA | refine WC.str ?_ | exact WC.imm rfl))
              intro i hi j hj
              rw [hx]
              exact WC.fzEq (ev_snoc (x := {retE e with err:=7}) rfl hi hj) (evCell_imm _ _)
            · (repeat' (first | exact WA.nil | refine WA.cons rfl ?_ ?_ | exact WB.nil | refine WB.cons ?_ ?_ | exact WT.nil | refine WT.cons ?_ ?_ | exact WH.nil | refine WH.cons ?_ ?_ | exact WR.nil | refine WR.cons rfl ?_ ?_ | refine WO.vr ?_ | exact WO.dead | exact WO.mpS | refine WO.mpA ?_ | refine WO.arrA ?_ | exact WS.u | refine WS.c ?_ | refine WS.a ?_ | refine WS.t ?_ | exact WL.nil | refine WL.cons ?_ ?_ | exact WTL.nil | refine WTL.consC ?_ ?_ | refine WTL.consL ?_ ?_ | exact WC.nils | exact WC.nil rfl | exact WC.nilp | refine WC.fzA | exact WC.ptr rfl (Nat.le_of_ble_eq_true rfl) | exact WC.mpr rfl (Nat.le_of_ble_eq_true rfl) | refine WC.slA | refine WC.intA | refine WC.int ?_ | refine WC.boolA | refine WC.bool ?_ | refine WC.strA | refine WC.str ?_ | exact WC.imm rfl))
            refine Dr.mkE hΓ hMix [] [(5, 4), (6, 4), (7, 4), (8, 4)] (by kernel_rfl) ?_; conv => whnf
            have hkw : IntKind.i64.wrap ((k : Int) + 1) = ((k + 1 : Nat) : Int) := by rw [wrap_id _ (by omega) (by omega)]; omega
            repeat' ((first | refine Need.auto ?_ | refine Have.mk (fun _h => ?_)); conv => whnf)
            rw [hkw]
            repeat' ((first | refine Need.auto ?_ | refine Have.mk (fun _h => ?_)); conv => whnf)
            have hln : (opn.take k ++ opn.drop (k + 1)).length = 0 + k + (opn.length - (k + 1)) := by simp; omega
            refine ⟨i + 1, ⟨by omega, by rw [hs]; simp; omega⟩, by omega, ?_⟩
            rw [hs]
            simp only [Int.toNat_natCast]
            refine Mv.renW [0, 1, 3] (by decide) (fun i hi => absurd hi (Nat.not_lt_zero _)) (Nat.zero_le _) ?_ ?_
            · (repeat' (first | exact WA.nil | refine WA.cons rfl ?_ ?_ | exact WB.nil | refine WB.cons ?_ ?_ | exact WT.nil | refine WT.cons ?_ ?_ | exact WH.nil | refine WH.cons ?_ ?_ | exact WR.nil | refine WR.cons rfl ?_ ?_ | refine WO.vr ?_ | exact WO.dead | exact WO.mpS | refine WO.mpA ?_ | refine WO.arrA ?_ | exact WS.u | refine WS.c ?_ | refine WS.a ?_ | refine WS.t ?_ | exact WL.nil | refine WL.cons ?_ ?_ | exact WTL.nil | refine WTL.consC ?_ ?_ | refine WTL.consL ?_ ?_ | exact WC.nils | exact WC.nil rfl | exact WC.nilp | refine WC.fzA | exact WC.ptr rfl (Nat.le_of_ble_eq_true rfl) | exact WC.mpr rfl (Nat.le_of_ble_eq_true rfl) | refine WC.slA | refine WC.intA | refine WC.int ?_ | refine WC.boolA | refine WC.bool ?_ | refine WC.strA | refine WC.str ?_ | exact WC.imm rfl))
              · intro i _ j _; exact WC.imm (evCell_imm _ _)
              · intro i hi j hj
                exact WC.eq (ev_cut (by omega) hi) (evCell_imm _ _)
            · (repeat' (first | exact WA.nil | refine WA.cons rfl ?_ ?_ | exact WB.nil | refine WB.cons ?_ ?_ | exact WT.nil | refine WT.cons ?_ ?_ | exact WH.nil | refine WH.cons ?_ ?_ | exact WR.nil | refine WR.cons rfl ?_ ?_ | refine WO.vr ?_ | exact WO.dead | exact WO.mpS | refine WO.mpA ?_ | refine WO.arrA ?_ | exact WS.u | refine WS.c ?_ | refine WS.a ?_ | refine WS.t ?_ | exact WL.nil | refine WL.cons ?_ ?_ | exact WTL.nil | refine WTL.consC ?_ ?_ | refine WTL.consL ?_ ?_ | exact WC.nils | exact WC.nil rfl | exact WC.nilp | refine WC.fzA | exact WC.ptr rfl (Nat.le_of_ble_eq_true rfl) | exact WC.mpr rfl (Nat.le_of_ble_eq_true rfl) | refine WC.slA | refine WC.intA | refine WC.int ?_ | refine WC.boolA | refine WC.bool ?_ | refine WC.strA | refine WC.str ?_ | exact WC.imm rfl))
          · refine Br.no (by simpa using h8) ?_
            conv => whnf
            repeat' ((first | refine Need.auto ?_ | refine Have.mk (fun _h => ?_)); conv => whnf)
            have hx : madeX d.step.step e = retE e := by unfold madeX; rw [if_neg h8]
            refine Dr.mvK [3, 4, 6, 7] [(5, .c (evC opn))] [.vr d.step.step.step.cells, .arr 41 8 (out ++ [madeX d.step.step e]).length (evG (out ++ [madeX d.step.step e])), .dead] ((Mv.fz 2 rfl (Nat.zero_le _) (fun _ _ _ _ => evCell_imm _ _)).trans (Mv.mkW ?_ ?_ (Nat.le_of_ble_eq_true rfl))) ?_
            · (repeat' (first | exact WA.nil | refine WA.cons rfl ?_ ?_ | exact WB.nil | refine WB.cons ?_ ?_ | exact WT.nil | refine WT.cons ?_ ?_ | exact WH.nil | refine WH.cons ?_ ?_ | exact WR.nil | refine WR.cons rfl ?_ ?_ | refine WO.vr ?_ | exact WO.dead | exact WO.mpS | refine WO.mpA ?_ | refine WO.arrA ?_ | exact WS.u | refine WS.c ?_ | refine WS.a ?_ | refine WS.t ?_ | exact WL.nil | refine WL.cons ?_ ?_ | exact WTL.nil | refine WTL.consC ?_ ?_ | refine WTL.consL ?_ ?_ | exact WC.nils | exact WC.nil rfl | exact WC.nilp | refine WC.fzA | exact WC.ptr rfl (Nat.le_of_ble_eq_true rfl) | exact WC.mpr rfl (Nat.le_of_ble_eq_true rfl) | refine WC.slA | refine WC.intA | refine WC.int ?_ | refine WC.boolA | refine WC.bool ?_ | refine WC.strA | refine WC.str ?_ | exact WC.imm rfl))
              intro i hi j hj
              rw [hx]
              exact WC.fzEq (ev_snoc (x := retE e) rfl hi hj) (evCell_imm _ _)
            · (repeat' (first | exact WA.nil | refine WA.cons rfl ?_ ?_ | exact WB.nil | refine WB.cons ?_ ?_ | exact WT.nil | refine WT.cons ?_ ?_ | exact WH.nil | refine WH.cons ?_ ?_ | exact WR.nil | refine WR.cons rfl ?_ ?_ | refine WO.vr ?_ | exact WO.dead | exact WO.mpS | refine WO.mpA ?_ | refine WO.arrA ?_ | exact WS.u | refine WS.c ?_ | refine WS.a ?_ | refine WS.t ?_ | exact WL.nil | refine WL.cons ?_ ?_ | exact WTL.nil | refine WTL.consC ?_ ?_ | refine WTL.consL ?_ ?_ | exact WC.nils | exact WC.nil rfl | exact WC.nilp | refine WC.fzA | exact WC.ptr rfl (Nat.le_of_ble_eq_true rfl) | exact WC.mpr rfl (Nat.le_of_ble_eq_true rfl) | refine WC.slA | refine WC.intA | refine WC.int ?_ | refine WC.boolA | refine WC.bool ?_ | refine WC.strA | refine WC.str ?_ | exact WC.imm rfl))
            refine Dr.mkE hΓ hMix [] [(5, 4), (6, 4), (7, 4), (8, 4)] (by kernel_rfl) ?_; conv => whnf
            have hkw : IntKind.i64.wrap ((k : Int) + 1) = ((k + 1 : Nat) : Int) := by rw [wrap_id _ (by omega) (by omega)]; omega
            repeat' ((first | refine Need.auto ?_ | refine Have.mk (fun _h => ?_)); conv => whnf)
            rw [hkw]
            repeat' ((first | refine Need.auto ?_ | refine Have.mk (fun _h => ?_)); conv => whnf)
            have hln : (opn.take k ++ opn.drop (k + 1)).length = 0 + k + (opn.length - (k + 1)) := by simp; omega
            refine ⟨i + 1, ⟨by omega, by rw [hs]; simp; omega⟩, by omega, ?_⟩
            rw [hs]
            simp only [Int.toNat_natCast]
            refine Mv.renW [0, 1, 3] (by decide) (fun i hi => absurd hi (Nat.not_lt_zero _)) (Nat.zero_le _) ?_ ?_
            · (repeat' (first | exact WA.nil | refine WA.cons rfl ?_ ?_ | exact WB.nil | refine WB.cons ?_ ?_ | exact WT.nil | refine WT.cons ?_ ?_ | exact WH.nil | refine WH.cons ?_ ?_ | exact WR.nil | refine WR.cons rfl ?_ ?_ | refine WO.vr ?_ | exact WO.dead | exact WO.mpS | refine WO.mpA ?_ | refine WO.arrA ?_ | exact WS.u | refine WS.c ?_ | refine WS.a ?_ | refine WS.t ?_ | exact WL.nil | refine WL.cons ?_ ?_ | exact WTL.nil | refine WTL.consC ?_ ?_ | refine WTL.consL ?_ ?_ | exact WC.nils | exact WC.nil rfl | exact WC.nilp | refine WC.fzA | exact WC.ptr rfl (Nat.le_of_ble_eq_true rfl) | exact WC.mpr rfl (Nat.le_of_ble_eq_true rfl) | refine WC.slA | refine WC.intA | refine WC.int ?_ | refine WC.boolA | refine WC.bool ?_ | refine WC.strA | refine WC.str ?_ | exact WC.imm rfl))
              · intro i _ j _; exact WC.imm (evCell_imm _ _)
              · intro i hi j hj
                exact WC.eq (ev_cut (by omega) hi) (evCell_imm _ _)
            · (repeat' (first | exact WA.nil | refine WA.cons rfl ?_ ?_ | exact WB.nil | refine WB.cons ?_ ?_ | exact WT.nil | refine WT.cons ?_ ?_ | exact WH.nil | refine WH.cons ?_ ?_ | exact WR.nil | refine WR.cons rfl ?_ ?_ | refine WO.vr ?_ | exact WO.dead | exact WO.mpS | refine WO.mpA ?_ | refine WO.arrA ?_ | exact WS.u | refine WS.c ?_ | refine WS.a ?_ | refine WS.t ?_ | exact WL.nil | refine WL.cons ?_ ?_ | exact WTL.nil | refine WTL.consC ?_ ?_ | refine WTL.consL ?_ ?_ | exact WC.nils | exact WC.nil rfl | exact WC.nilp | refine WC.fzA | exact WC.ptr rfl (Nat.le_of_ble_eq_true rfl) | exact WC.mpr rfl (Nat.le_of_ble_eq_true rfl) | refine WC.slA | refine WC.intA | refine WC.int ?_ | refine WC.boolA | refine WC.bool ?_ | refine WC.strA | refine WC.str ?_ | exact WC.imm rfl))
        · refine Br.no (by simpa using h2) ?_
          conv => whnf
          repeat' ((first | refine Need.auto ?_ | refine Have.mk (fun _h => ?_)); conv => whnf)
          have hB : madeStep i ⟨d, out, opn⟩ = madeB ⟨d, out, opn⟩ d.step i := by
            unfold madeStep
            rw [if_pos hop, if_neg h2]
          refine CallN.autoQ [0] next_body (next_spec d.step hd.step 3) ?_; conv => whnf
          conv => whnf
          repeat' ((first | refine Need.auto ?_ | refine Have.mk (fun _h => ?_)); conv => whnf)
          refine CallN.autoQ [0] next_body (next_spec (d.step).step (hd.step).step 3) ?_; conv => whnf
          conv => whnf
          repeat' ((first | refine Need.auto ?_ | refine Have.mk (fun _h => ?_)); conv => whnf)
          refine CallN.autoQ [0] next_body (next_spec (d.step).step.step (hd.step).step.step 3) ?_; conv => whnf
          conv => whnf
          repeat' ((first | refine Need.auto ?_ | refine Have.mk (fun _h => ?_)); conv => whnf)
          have hkr := DiceM.next_range (d.step).step (n := 3) (by omega) (by omega)
          have hw2 : IntKind.i64.wrap (2 + (d.step).step.next 3) = madeK (d.step) := by rw [wrap_id _ (by omega) (by omega)]; rfl
          rw [hw2]
          have hB2 : madeB ⟨d, out, opn⟩ (d.step) i = ⟨if madeK (d.step) = 2 then (d.step).step.step.step.step else (d.step).step.step.step, out ++ [madeN (d.step) i], opn ++ [madeN (d.step) i]⟩ := rfl
          have hN : madeN (d.step) i = ⟨false, (d.step).next 3, i, madeK (d.step), if madeK (d.step) = 4 then 0 else (d.step).step.step.next 3, if madeK (d.step) = 2 then valueS (1 + (d.step).step.step.step.next 5) else ByteArray.empty, 0, ByteArray.empty⟩ := rfl
          rw [hB, hB2, hN] at hs
          (first | refine Br.lt (fun hk2 => ?_) (fun hk2 => ?_) | refine Br.le (fun hk2 => ?_) (fun hk2 => ?_) | refine Br.gt (fun hk2 => ?_) (fun hk2 => ?_) | refine Br.ge (fun hk2 => ?_) (fun hk2 => ?_) | refine Br.eq (fun hk2 => ?_) (fun hk2 => ?_) | refine Br.ne (fun hk2 => ?_) (fun hk2 => ?_) | refine Br.not (fun hk2 => ?_) (fun hk2 => ?_) | refine Br.mk (fun hk2 => ?_) (fun hk2 => ?_)) <;> (try simp only [Int.toNat_natCast] at hk2) <;> (conv => whnf)
          · repeat' ((first | refine Need.auto ?_ | refine Have.mk (fun _h => ?_)); conv => whnf)
            refine CallN.autoQ [0] next_body (next_spec (d.step).step.step.step (hd.step).step.step.step 5) ?_; conv => whnf
            conv => whnf
            repeat' ((first | refine Need.auto ?_ | refine Have.mk (fun _h => ?_)); conv => whnf)
            have hkr5 := DiceM.next_range (d.step).step.step.step (n := 5) (by omega) (by omega)
            have hw5 : IntKind.i64.wrap (1 + (d.step).step.step.step.next 5) = 1 + (d.step).step.step.step.next 5 := wrap_id _ (by omega) (by omega)
            rw [hw5]
            refine CallN.pureA value_body (value_spec (1 + (d.step).step.step.step.next 5) ) ?_
            conv => whnf
            repeat' ((first | refine Need.auto ?_ | refine Have.mk (fun _h => ?_)); conv => whnf)
            rw [if_pos hk2, if_pos hk2, if_neg (by omega)] at hs
            refine Dr.mkE hΓ hMix [4294967296] [(4, 3), (5, 3), (6, 3)] (by kernel_rfl) ?_; conv => whnf
            repeat' ((first | refine Need.auto ?_ | refine Have.mk (fun _h => ?_)); conv => whnf)
            refine ⟨i + 1, ⟨by omega, by rw [hs]; simp; omega⟩, by omega, ?_⟩
            rw [hs]
            refine Mv.mkW ?_ ?_ (Nat.le_of_ble_eq_true rfl) <;> (repeat' (first | exact WA.nil | refine WA.cons rfl ?_ ?_ | exact WB.nil | refine WB.cons ?_ ?_ | exact WT.nil | refine WT.cons ?_ ?_ | exact WH.nil | refine WH.cons ?_ ?_ | exact WR.nil | refine WR.cons rfl ?_ ?_ | refine WO.vr ?_ | exact WO.dead | exact WO.mpS | refine WO.mpA ?_ | refine WO.arrA ?_ | exact WS.u | refine WS.c ?_ | refine WS.a ?_ | refine WS.t ?_ | exact WL.nil | refine WL.cons ?_ ?_ | exact WTL.nil | refine WTL.consC ?_ ?_ | refine WTL.consL ?_ ?_ | exact WC.nils | exact WC.nil rfl | exact WC.nilp | refine WC.fzA | exact WC.ptr rfl (Nat.le_of_ble_eq_true rfl) | exact WC.mpr rfl (Nat.le_of_ble_eq_true rfl) | refine WC.slA | refine WC.intA | refine WC.int ?_ | refine WC.boolA | refine WC.bool ?_ | refine WC.strA | refine WC.str ?_ | exact WC.imm rfl))
            all_goals (intro q hq j hj; refine WC.eq ?_ (evCell_imm _ _); exact ev_snoc (x := ⟨_, _, _, _, _, _, _, _⟩) rfl (by simpa using hq) hj)
          · repeat' ((first | refine Need.auto ?_ | refine Have.mk (fun _h => ?_)); conv => whnf)
            rw [if_neg hk2, if_neg hk2] at hs
            (first | refine Br.lt (fun hk4 => ?_) (fun hk4 => ?_) | refine Br.le (fun hk4 => ?_) (fun hk4 => ?_) | refine Br.gt (fun hk4 => ?_) (fun hk4 => ?_) | refine Br.ge (fun hk4 => ?_) (fun hk4 => ?_) | refine Br.eq (fun hk4 => ?_) (fun hk4 => ?_) | refine Br.ne (fun hk4 => ?_) (fun hk4 => ?_) | refine Br.not (fun hk4 => ?_) (fun hk4 => ?_) | refine Br.mk (fun hk4 => ?_) (fun hk4 => ?_)) <;> (try simp only [Int.toNat_natCast] at hk4) <;> (conv => whnf)
            · repeat' ((first | refine Need.auto ?_ | refine Have.mk (fun _h => ?_)); conv => whnf)
              rw [if_pos hk4] at hs
              refine Dr.mkE hΓ hMix [4294967296] [(4, 3), (5, 3), (6, 3)] (by kernel_rfl) ?_; conv => whnf
              repeat' ((first | refine Need.auto ?_ | refine Have.mk (fun _h => ?_)); conv => whnf)
              refine ⟨i + 1, ⟨by omega, by rw [hs]; simp; omega⟩, by omega, ?_⟩
              rw [hs]
              refine Mv.mkW ?_ ?_ (Nat.le_of_ble_eq_true rfl) <;> (repeat' (first | exact WA.nil | refine WA.cons rfl ?_ ?_ | exact WB.nil | refine WB.cons ?_ ?_ | exact WT.nil | refine WT.cons ?_ ?_ | exact WH.nil | refine WH.cons ?_ ?_ | exact WR.nil | refine WR.cons rfl ?_ ?_ | refine WO.vr ?_ | exact WO.dead | exact WO.mpS | refine WO.mpA ?_ | refine WO.arrA ?_ | exact WS.u | refine WS.c ?_ | refine WS.a ?_ | refine WS.t ?_ | exact WL.nil | refine WL.cons ?_ ?_ | exact WTL.nil | refine WTL.consC ?_ ?_ | refine WTL.consL ?_ ?_ | exact WC.nils | exact WC.nil rfl | exact WC.nilp | refine WC.fzA | exact WC.ptr rfl (Nat.le_of_ble_eq_true rfl) | exact WC.mpr rfl (Nat.le_of_ble_eq_true rfl) | refine WC.slA | refine WC.intA | refine WC.int ?_ | refine WC.boolA | refine WC.bool ?_ | refine WC.strA | refine WC.str ?_ | exact WC.imm rfl))
              all_goals (intro q hq j hj; refine WC.eq ?_ (evCell_imm _ _); exact ev_snoc (x := ⟨_, _, _, _, _, _, _, _⟩) rfl (by simpa using hq) hj)
            · repeat' ((first | refine Need.auto ?_ | refine Have.mk (fun _h => ?_)); conv => whnf)
              rw [if_neg hk4] at hs
              refine Dr.mkE hΓ hMix [4294967296] [(4, 3), (5, 3), (6, 3)] (by kernel_rfl) ?_; conv => whnf
              repeat' ((first | refine Need.auto ?_ | refine Have.mk (fun _h => ?_)); conv => whnf)
              refine ⟨i + 1, ⟨by omega, by rw [hs]; simp; omega⟩, by omega, ?_⟩
              rw [hs]
              refine Mv.mkW ?_ ?_ (Nat.le_of_ble_eq_true rfl) <;> (repeat' (first | exact WA.nil | refine WA.cons rfl ?_ ?_ | exact WB.nil | refine WB.cons ?_ ?_ | exact WT.nil | refine WT.cons ?_ ?_ | exact WH.nil | refine WH.cons ?_ ?_ | exact WR.nil | refine WR.cons rfl ?_ ?_ | refine WO.vr ?_ | exact WO.dead | exact WO.mpS | refine WO.mpA ?_ | refine WO.arrA ?_ | exact WS.u | refine WS.c ?_ | refine WS.a ?_ | refine WS.t ?_ | exact WL.nil | refine WL.cons ?_ ?_ | exact WTL.nil | refine WTL.consC ?_ ?_ | refine WTL.consL ?_ ?_ | exact WC.nils | exact WC.nil rfl | exact WC.nilp | refine WC.fzA | exact WC.ptr rfl (Nat.le_of_ble_eq_true rfl) | exact WC.mpr rfl (Nat.le_of_ble_eq_true rfl) | refine WC.slA | refine WC.intA | refine WC.int ?_ | refine WC.boolA | refine WC.bool ?_ | refine WC.strA | refine WC.str ?_ | exact WC.imm rfl))
              all_goals (intro q hq j hj; refine WC.eq ?_ (evCell_imm _ _); exact ev_snoc (x := ⟨_, _, _, _, _, _, _, _⟩) rfl (by simpa using hq) hj)
      · repeat' ((first | refine Need.auto ?_ | refine Have.mk (fun _h => ?_)); conv => whnf)
        have hop : opn.length = 0 := by simpa using hg
        refine Br.no (by rw [decide_eq_false (by omega)]; rfl) ?_
        conv => whnf
        repeat' ((first | refine Need.auto ?_ | refine Have.mk (fun _h => ?_)); conv => whnf)
        have hB : madeStep i ⟨d, out, opn⟩ = madeB ⟨d, out, opn⟩ d i := by
          unfold madeStep
          rw [if_neg (by show ¬ 0 < opn.length; omega)]
        refine CallN.autoQ [0] next_body (next_spec d hd 3) ?_; conv => whnf
        conv => whnf
        repeat' ((first | refine Need.auto ?_ | refine Have.mk (fun _h => ?_)); conv => whnf)
        refine CallN.autoQ [0] next_body (next_spec (d).step (hd).step 3) ?_; conv => whnf
        conv => whnf
        repeat' ((first | refine Need.auto ?_ | refine Have.mk (fun _h => ?_)); conv => whnf)
        refine CallN.autoQ [0] next_body (next_spec (d).step.step (hd).step.step 3) ?_; conv => whnf
        conv => whnf
        repeat' ((first | refine Need.auto ?_ | refine Have.mk (fun _h => ?_)); conv => whnf)
        have hkr := DiceM.next_range (d).step (n := 3) (by omega) (by omega)
        have hw2 : IntKind.i64.wrap (2 + (d).step.next 3) = madeK (d) := by rw [wrap_id _ (by omega) (by omega)]; rfl
        rw [hw2]
        have hB2 : madeB ⟨d, out, opn⟩ (d) i = ⟨if madeK (d) = 2 then (d).step.step.step.step else (d).step.step.step, out ++ [madeN (d) i], opn ++ [madeN (d) i]⟩ := rfl
        have hN : madeN (d) i = ⟨false, (d).next 3, i, madeK (d), if madeK (d) = 4 then 0 else (d).step.step.next 3, if madeK (d) = 2 then valueS (1 + (d).step.step.step.next 5) else ByteArray.empty, 0, ByteArray.empty⟩ := rfl
        rw [hB, hB2, hN] at hs
        (first | refine Br.lt (fun hk2 => ?_) (fun hk2 => ?_) | refine Br.le (fun hk2 => ?_) (fun hk2 => ?_) | refine Br.gt (fun hk2 => ?_) (fun hk2 => ?_) | refine Br.ge (fun hk2 => ?_) (fun hk2 => ?_) | refine Br.eq (fun hk2 => ?_) (fun hk2 => ?_) | refine Br.ne (fun hk2 => ?_) (fun hk2 => ?_) | refine Br.not (fun hk2 => ?_) (fun hk2 => ?_) | refine Br.mk (fun hk2 => ?_) (fun hk2 => ?_)) <;> (try simp only [Int.toNat_natCast] at hk2) <;> (conv => whnf)
        · repeat' ((first | refine Need.auto ?_ | refine Have.mk (fun _h => ?_)); conv => whnf)
          refine CallN.autoQ [0] next_body (next_spec (d).step.step.step (hd).step.step.step 5) ?_; conv => whnf
          conv => whnf
          repeat' ((first | refine Need.auto ?_ | refine Have.mk (fun _h => ?_)); conv => whnf)
          have hkr5 := DiceM.next_range (d).step.step.step (n := 5) (by omega) (by omega)
          have hw5 : IntKind.i64.wrap (1 + (d).step.step.step.next 5) = 1 + (d).step.step.step.next 5 := wrap_id _ (by omega) (by omega)
          rw [hw5]
          refine CallN.pureA value_body (value_spec (1 + (d).step.step.step.next 5) ) ?_
          conv => whnf
          repeat' ((first | refine Need.auto ?_ | refine Have.mk (fun _h => ?_)); conv => whnf)
          rw [if_pos hk2, if_pos hk2, if_neg (by omega)] at hs
          refine Dr.mkE hΓ hMix [4294967296] [(4, 3), (5, 3), (6, 3)] (by kernel_rfl) ?_; conv => whnf
          repeat' ((first | refine Need.auto ?_ | refine Have.mk (fun _h => ?_)); conv => whnf)
          refine ⟨i + 1, ⟨by omega, by rw [hs]; simp; omega⟩, by omega, ?_⟩
          rw [hs]
          refine Mv.mkW ?_ ?_ (Nat.le_of_ble_eq_true rfl) <;> (repeat' (first | exact WA.nil | refine WA.cons rfl ?_ ?_ | exact WB.nil | refine WB.cons ?_ ?_ | exact WT.nil | refine WT.cons ?_ ?_ | exact WH.nil | refine WH.cons ?_ ?_ | exact WR.nil | refine WR.cons rfl ?_ ?_ | refine WO.vr ?_ | exact WO.dead | exact WO.mpS | refine WO.mpA ?_ | refine WO.arrA ?_ | exact WS.u | refine WS.c ?_ | refine WS.a ?_ | refine WS.t ?_ | exact WL.nil | refine WL.cons ?_ ?_ | exact WTL.nil | refine WTL.consC ?_ ?_ | refine WTL.consL ?_ ?_ | exact WC.nils | exact WC.nil rfl | exact WC.nilp | refine WC.fzA | exact WC.ptr rfl (Nat.le_of_ble_eq_true rfl) | exact WC.mpr rfl (Nat.le_of_ble_eq_true rfl) | refine WC.slA | refine WC.intA | refine WC.int ?_ | refine WC.boolA | refine WC.bool ?_ | refine WC.strA | refine WC.str ?_ | exact WC.imm rfl))
          all_goals (intro q hq j hj; refine WC.eq ?_ (evCell_imm _ _); exact ev_snoc (x := ⟨_, _, _, _, _, _, _, _⟩) rfl (by simpa using hq) hj)
        · repeat' ((first | refine Need.auto ?_ | refine Have.mk (fun _h => ?_)); conv => whnf)
          rw [if_neg hk2, if_neg hk2] at hs
          (first | refine Br.lt (fun hk4 => ?_) (fun hk4 => ?_) | refine Br.le (fun hk4 => ?_) (fun hk4 => ?_) | refine Br.gt (fun hk4 => ?_) (fun hk4 => ?_) | refine Br.ge (fun hk4 => ?_) (fun hk4 => ?_) | refine Br.eq (fun hk4 => ?_) (fun hk4 => ?_) | refine Br.ne (fun hk4 => ?_) (fun hk4 => ?_) | refine Br.not (fun hk4 => ?_) (fun hk4 => ?_) | refine Br.mk (fun hk4 => ?_) (fun hk4 => ?_)) <;> (try simp only [Int.toNat_natCast] at hk4) <;> (conv => whnf)
          · repeat' ((first | refine Need.auto ?_ | refine Have.mk (fun _h => ?_)); conv => whnf)
            rw [if_pos hk4] at hs
            refine Dr.mkE hΓ hMix [4294967296] [(4, 3), (5, 3), (6, 3)] (by kernel_rfl) ?_; conv => whnf
            repeat' ((first | refine Need.auto ?_ | refine Have.mk (fun _h => ?_)); conv => whnf)
            refine ⟨i + 1, ⟨by omega, by rw [hs]; simp; omega⟩, by omega, ?_⟩
            rw [hs]
            refine Mv.mkW ?_ ?_ (Nat.le_of_ble_eq_true rfl) <;> (repeat' (first | exact WA.nil | refine WA.cons rfl ?_ ?_ | exact WB.nil | refine WB.cons ?_ ?_ | exact WT.nil | refine WT.cons ?_ ?_ | exact WH.nil | refine WH.cons ?_ ?_ | exact WR.nil | refine WR.cons rfl ?_ ?_ | refine WO.vr ?_ | exact WO.dead | exact WO.mpS | refine WO.mpA ?_ | refine WO.arrA ?_ | exact WS.u | refine WS.c ?_ | refine WS.a ?_ | refine WS.t ?_ | exact WL.nil | refine WL.cons ?_ ?_ | exact WTL.nil | refine WTL.consC ?_ ?_ | refine WTL.consL ?_ ?_ | exact WC.nils | exact WC.nil rfl | exact WC.nilp | refine WC.fzA | exact WC.ptr rfl (Nat.le_of_ble_eq_true rfl) | exact WC.mpr rfl (Nat.le_of_ble_eq_true rfl) | refine WC.slA | refine WC.intA | refine WC.int ?_ | refine WC.boolA | refine WC.bool ?_ | refine WC.strA | refine WC.str ?_ | exact WC.imm rfl))
            all_goals (intro q hq j hj; refine WC.eq ?_ (evCell_imm _ _); exact ev_snoc (x := ⟨_, _, _, _, _, _, _, _⟩) rfl (by simpa using hq) hj)
          · repeat' ((first | refine Need.auto ?_ | refine Have.mk (fun _h => ?_)); conv => whnf)
            rw [if_neg hk4] at hs
            refine Dr.mkE hΓ hMix [4294967296] [(4, 3), (5, 3), (6, 3)] (by kernel_rfl) ?_; conv => whnf
            repeat' ((first | refine Need.auto ?_ | refine Have.mk (fun _h => ?_)); conv => whnf)
            refine ⟨i + 1, ⟨by omega, by rw [hs]; simp; omega⟩, by omega, ?_⟩
            rw [hs]
            refine Mv.mkW ?_ ?_ (Nat.le_of_ble_eq_true rfl) <;> (repeat' (first | exact WA.nil | refine WA.cons rfl ?_ ?_ | exact WB.nil | refine WB.cons ?_ ?_ | exact WT.nil | refine WT.cons ?_ ?_ | exact WH.nil | refine WH.cons ?_ ?_ | exact WR.nil | refine WR.cons rfl ?_ ?_ | refine WO.vr ?_ | exact WO.dead | exact WO.mpS | refine WO.mpA ?_ | refine WO.arrA ?_ | exact WS.u | refine WS.c ?_ | refine WS.a ?_ | refine WS.t ?_ | exact WL.nil | refine WL.cons ?_ ?_ | exact WTL.nil | refine WTL.consC ?_ ?_ | refine WTL.consL ?_ ?_ | exact WC.nils | exact WC.nil rfl | exact WC.nilp | refine WC.fzA | exact WC.ptr rfl (Nat.le_of_ble_eq_true rfl) | exact WC.mpr rfl (Nat.le_of_ble_eq_true rfl) | refine WC.slA | refine WC.intA | refine WC.int ?_ | refine WC.boolA | refine WC.bool ?_ | refine WC.strA | refine WC.str ?_ | exact WC.imm rfl))
            all_goals (intro q hq j hj; refine WC.eq ?_ (evCell_imm _ _); exact ev_snoc (x := ⟨_, _, _, _, _, _, _, _⟩) rfl (by simpa using hq) hj)
    · refine Br.no ?_ ?_
      · by_cases c : 0 < d.rest
        · rw [decide_eq_false (p := ((out.length : Int) < 50)) (by omega)]; cases decide (d.rest > 0) <;> rfl
        · rw [decide_eq_false (by omega)]; rfl
      conv => whnf
      repeat' ((first | refine Need.auto ?_ | refine Have.mk (fun _h => ?_)); conv => whnf)
      have hm : madeM l = out := by
        unfold madeM
        by_cases c : 0 < d.rest
        · have : i = 50 := by omega
          subst this
          rw [hsI]
        · have := hstop c
          rw [show i + (50 - i) = 50 by omega] at this
          rw [this]
      rw [hm]
      refine RM.fz 1 rfl (Nat.zero_le _) (fun _ _ _ _ => (by first | exact rfl | exact evCell_imm _ _ | exact zoneAt_imm _ _ _ | exact zoneAtT_imm _ _ _)) ?_; refine RM.wkW ?_ ?_ (Nat.zero_le _) <;> (repeat' (first | exact WA.nil | refine WA.cons rfl ?_ ?_ | exact WB.nil | refine WB.cons ?_ ?_ | exact WT.nil | refine WT.cons ?_ ?_ | exact WH.nil | refine WH.cons ?_ ?_ | exact WR.nil | refine WR.cons rfl ?_ ?_ | refine WO.vr ?_ | exact WO.dead | exact WO.mpS | refine WO.mpA ?_ | refine WO.arrA ?_ | exact WS.u | refine WS.c ?_ | refine WS.a ?_ | refine WS.t ?_ | exact WL.nil | refine WL.cons ?_ ?_ | exact WTL.nil | refine WTL.consC ?_ ?_ | refine WTL.consL ?_ ?_ | exact WC.nils | exact WC.nil rfl | exact WC.nilp | refine WC.fzA | exact WC.ptr rfl (Nat.le_of_ble_eq_true rfl) | exact WC.mpr rfl (Nat.le_of_ble_eq_true rfl) | refine WC.slA | refine WC.intA | refine WC.int ?_ | refine WC.boolA | refine WC.bool ?_ | refine WC.strA | refine WC.str ?_ | exact WC.imm rfl))
theorem made_body : HasBody Try.prog 24 := ⟨⟨Try.f24, Try.func24, rfl, by kernel_rfl⟩⟩
end Go.Proofs
end

section
open Go Go.Am
namespace Go.Proofs
def zerosM (n : Nat) : List ByteArray := List.replicate n zeroB
theorem zeros_getD {n i : Nat} (h : i < n) : (zerosM n).getD i ByteArray.empty = zeroB := by
  simp [zerosM, List.getD, List.getElem?_replicate, h]
theorem new17_spec (n : Nat) (h1 : 1 ≤ n) (h2 : n ≤ 128) : PSpec Try.prog 15 [.c (.int .i64 n)] (.c (strsC (zerosM n))) := by
  refine PSpec.rm ?_
  refine CSpec.of_vc hΓ Try.func15 rfl 23 0 [.tmp 2] Try.ntmps15 rfl (by rw [Try.results15]) rfl ?_
  conv => whnf
  repeat' ((first | refine Need.auto ?_ | refine Have.mk (fun _h => ?_)); conv => whnf)
  refine Br.no ?_ ?_
  · rw [decide_eq_false (by omega), decide_eq_false (by omega)]; rfl
  conv => whnf
  repeat' ((first | refine Need.auto ?_ | refine Have.mk (fun _h => ?_)); conv => whnf)
  refine Lp.mkK hΓ (ι := Nat) [0] (fun i => [(4, .c (.int .i64 i)), (3, .c (.sl 0 1 n n false))]) (fun i => [.arr 9 1 n (fun k _ => .str (if k < i then zeroB else ByteArray.empty))]) (fun i => i ≤ n) (fun i => n - i) 0 (Nat.zero_le _) ?_ ?_
  · refine Mv.mkW ?_ ?_ (Nat.le_of_ble_eq_true rfl) <;> (repeat' (first | exact WA.nil | refine WA.cons rfl ?_ ?_ | exact WB.nil | refine WB.cons ?_ ?_ | exact WT.nil | refine WT.cons ?_ ?_ | exact WH.nil | refine WH.cons ?_ ?_ | exact WR.nil | refine WR.cons rfl ?_ ?_ | refine WO.vr ?_ | exact WO.dead | exact WO.mpS | refine WO.mpA ?_ | refine WO.arrA ?_ | exact WS.u | refine WS.c ?_ | refine WS.a ?_ | refine WS.t ?_ | exact WL.nil | refine WL.cons ?_ ?_ | exact WTL.nil | refine WTL.consC ?_ ?_ | refine WTL.consL ?_ ?_ | exact WC.nils | exact WC.nil rfl | exact WC.nilp | refine WC.fzA | exact WC.ptr rfl (Nat.le_of_ble_eq_true rfl) | exact WC.mpr rfl (Nat.le_of_ble_eq_true rfl) | refine WC.slA | refine WC.intA | refine WC.int ?_ | refine WC.boolA | refine WC.bool ?_ | refine WC.strA | refine WC.str ?_ | exact WC.imm rfl))
    rotate_left
    · exact WC.sl rfl (Nat.le_of_ble_eq_true rfl) (by simp) (by simp) (fun q => by cases q)
    intro i hi j hj
    have hj0 : j = 0 := by have : j < 1 := hj; omega
    subst hj0
    exact WC.eq (by simp [zeroG, zeroL, lget, getL, Z.toC]) rfl
  · intro i hi
    conv => whnf
    repeat' ((first | refine Need.auto ?_ | refine Have.mk (fun _h => ?_)); conv => whnf)
    (first | refine Br.lt (fun h3 => ?_) (fun h3 => ?_) | refine Br.le (fun h3 => ?_) (fun h3 => ?_) | refine Br.gt (fun h3 => ?_) (fun h3 => ?_) | refine Br.ge (fun h3 => ?_) (fun h3 => ?_) | refine Br.eq (fun h3 => ?_) (fun h3 => ?_) | refine Br.ne (fun h3 => ?_) (fun h3 => ?_) | refine Br.not (fun h3 => ?_) (fun h3 => ?_) | refine Br.mk (fun h3 => ?_) (fun h3 => ?_)) <;> (try simp only [Int.toNat_natCast] at h3) <;> (conv => whnf)
    · repeat' ((first | refine Need.auto ?_ | refine Have.mk (fun _h => ?_)); conv => whnf)
      refine CallN.pureA zero15_body (zero15_spec ) ?_
      conv => whnf
      repeat' ((first | refine Need.auto ?_ | refine Have.mk (fun _h => ?_)); conv => whnf)
      refine ⟨i + 1, by omega, by omega, ?_⟩
      refine Mv.mkW ?_ ?_ (Nat.le_of_ble_eq_true rfl) <;> (repeat' (first | exact WA.nil | refine WA.cons rfl ?_ ?_ | exact WB.nil | refine WB.cons ?_ ?_ | exact WT.nil | refine WT.cons ?_ ?_ | exact WH.nil | refine WH.cons ?_ ?_ | exact WR.nil | refine WR.cons rfl ?_ ?_ | refine WO.vr ?_ | exact WO.dead | exact WO.mpS | refine WO.mpA ?_ | refine WO.arrA ?_ | exact WS.u | refine WS.c ?_ | refine WS.a ?_ | refine WS.t ?_ | exact WL.nil | refine WL.cons ?_ ?_ | exact WTL.nil | refine WTL.consC ?_ ?_ | refine WTL.consL ?_ ?_ | exact WC.nils | exact WC.nil rfl | exact WC.nilp | refine WC.fzA | exact WC.ptr rfl (Nat.le_of_ble_eq_true rfl) | exact WC.mpr rfl (Nat.le_of_ble_eq_true rfl) | refine WC.slA | refine WC.intA | refine WC.int ?_ | refine WC.boolA | refine WC.bool ?_ | refine WC.strA | refine WC.str ?_ | exact WC.imm rfl))
      intro k hk j hj
      rw [updG_one, Int.toNat_natCast]
      by_cases c : k = i ∧ j = 0
      · rw [if_pos c]
        exact WC.eq (by rw [if_pos (by omega)]) rfl
      · rw [if_neg c]
        refine WC.eq ?_ rfl
        by_cases c2 : k < i
        · rw [if_pos c2, if_pos (by omega)]
        · rw [if_neg c2, if_neg (by omega)]
    · repeat' ((first | refine Need.auto ?_ | refine Have.mk (fun _h => ?_)); conv => whnf)
      have : i = n := by omega
      subst this
      refine RM.fz 0 rfl (Nat.zero_le _) (fun _ _ _ _ => (by first | exact rfl | exact evCell_imm _ _ | exact zoneAt_imm _ _ _ | exact zoneAtT_imm _ _ _)) ?_; refine RM.wkW ?_ ?_ (Nat.zero_le _) <;> (repeat' (first | exact WA.nil | refine WA.cons rfl ?_ ?_ | exact WB.nil | refine WB.cons ?_ ?_ | exact WT.nil | refine WT.cons ?_ ?_ | exact WH.nil | refine WH.cons ?_ ?_ | exact WR.nil | refine WR.cons rfl ?_ ?_ | refine WO.vr ?_ | exact WO.dead | exact WO.mpS | refine WO.mpA ?_ | refine WO.arrA ?_ | exact WS.u | refine WS.c ?_ | refine WS.a ?_ | refine WS.t ?_ | exact WL.nil | refine WL.cons ?_ ?_ | exact WTL.nil | refine WTL.consC ?_ ?_ | refine WTL.consL ?_ ?_ | exact WC.nils | exact WC.nil rfl | exact WC.nilp | refine WC.fzA | exact WC.ptr rfl (Nat.le_of_ble_eq_true rfl) | exact WC.mpr rfl (Nat.le_of_ble_eq_true rfl) | refine WC.slA | refine WC.intA | refine WC.int ?_ | refine WC.boolA | refine WC.bool ?_ | refine WC.strA | refine WC.str ?_ | exact WC.imm rfl))
      have hz : (zerosM i).length = i := by simp [zerosM]
      refine WC.fz rfl hz.symm (fun k hk j hj => leF.of_eq ?_) (fun q => by cases q)
      rw [if_pos hk, zeros_getD hk]
theorem new17_body : HasBody Try.prog 15 := ⟨⟨Try.f15, Try.func15, rfl, by kernel_rfl⟩⟩
theorem u8_range (x : Int) : 0 ≤ IntKind.u8.wrap x ∧ IntKind.u8.wrap x ≤ 255 := by
  have : IntKind.u8.wrap x = x % 256 := by
    simp [IntKind.wrap, IntKind.signed, IntKind.bits]
  rw [this]; omega
theorem bwStrs {H : List O} {id e n : Nat} {f : List ByteArray} {g : Nat → Nat → C} {x : Bool} (hid : getL H id = some (.arr e 1 n g)) (hf : f.length = n) (hg : ∀ i, i < n → ∀ j, j < 1 → g i j = strG f i j) : Bw H (.sl id 1 n n x) (strsC f) := by
  have e1 : strsC f = .isl 1 n (strG f) false := by unfold strsC; rw [hf]; rfl
  rw [e1]
  exact Bw.sl hid rfl (fun i hi j hj => by rw [hg i hi j hj]; exact Bw.same rfl) (fun q => by cases q)
theorem strs_set {f : List ByteArray} {k : Nat} {v : ByteArray} (hk : k < f.length) {i j : Nat} (hj : j < 1) : updG (strG f) (k : Int).toNat 0 [.str v] i j = strG (f.set k v) i j := by
  have hj0 : j = 0 := by omega
  subst hj0
  rw [updG_one, Int.toNat_natCast]
  unfold strG
  by_cases c : i = k
  · subst c
    rw [if_pos ⟨rfl, rfl⟩]
    simp [List.getD, hk]
  · rw [if_neg (fun q => c q.1)]
    simp only [List.getD]
    rw [List.getElem?_set_ne (Ne.symm c)]
set_option maxHeartbeats 2000000 in
theorem durableMade_spec (l : List Int) (a b c : Int) (ha : 0 ≤ a ∧ a ≤ 255) (hb : 0 ≤ b ∧ b ≤ 255) (hc : 0 ≤ c ∧ c ≤ 255) : PSpec Try.prog 6 [.c (intsC l), .c (.int .u8 a), .c (.int .u8 b), .c (.int .u8 c)] (.c (.bool true)) := by
  refine PSpec.rm ?_
  refine CSpec.of_vc hΓ Try.func6 rfl 85 0 [.tmp 8] Try.ntmps6 rfl (by rw [Try.results6]) rfl ?_
  conv => whnf
  repeat' ((first | refine Need.auto ?_ | refine Have.mk (fun _h => ?_)); conv => whnf)
  refine CallN.pureA light_body (light_spec l ) ?_
  conv => whnf
  repeat' ((first | refine Need.auto ?_ | refine Have.mk (fun _h => ?_)); conv => whnf)
  by_cases hl : l.length ≤ 300
  · refine Br.no (by rw [decide_eq_true hl]; rfl) ?_
    conv => whnf
    repeat' ((first | refine Need.auto ?_ | refine Have.mk (fun _h => ?_)); conv => whnf)
    refine CallN.pureA made_body (made_spec l (by omega) ) ?_
    conv => whnf
    repeat' ((first | refine Need.auto ?_ | refine Have.mk (fun _h => ?_)); conv => whnf)
    have hn3 : PSpec Try.prog 15 [.c (.int .i64 3)] (.c (strsC (zerosM 3))) := new17_spec 3 (by decide) (by decide)
    refine CallN.pureA new17_body hn3 ?_
    conv => whnf
    repeat' ((first | refine Need.auto ?_ | refine Have.mk (fun _h => ?_)); conv => whnf)
    refine Dr.mk hΓ hMix (by kernel_rfl) ?_; conv => whnf
    repeat' ((first | refine Need.auto ?_ | refine Have.mk (fun _h => ?_)); conv => whnf)
    refine CallP.auto value_body (value_spec _ ) ?_
    conv => whnf
    repeat' ((first | refine Need.auto ?_ | refine Have.mk (fun _h => ?_)); conv => whnf)
    refine CallP.auto value_body (value_spec _ ) ?_
    conv => whnf
    repeat' ((first | refine Need.auto ?_ | refine Have.mk (fun _h => ?_)); conv => whnf)
    have hml : (madeM l).length ≤ 50 := (madeI_len l 50).1
    (first | refine Br.lt (fun hb2 => ?_) (fun hb2 => ?_) | refine Br.le (fun hb2 => ?_) (fun hb2 => ?_) | refine Br.gt (fun hb2 => ?_) (fun hb2 => ?_) | refine Br.ge (fun hb2 => ?_) (fun hb2 => ?_) | refine Br.eq (fun hb2 => ?_) (fun hb2 => ?_) | refine Br.ne (fun hb2 => ?_) (fun hb2 => ?_) | refine Br.not (fun hb2 => ?_) (fun hb2 => ?_) | refine Br.mk (fun hb2 => ?_) (fun hb2 => ?_)) <;> (try simp only [Int.toNat_natCast] at hb2) <;> (conv => whnf)
    · repeat' ((first | refine Need.auto ?_ | refine Have.mk (fun _h => ?_)); conv => whnf)
      refine CallN.pureA value_body (value_spec _ ) ?_
      conv => whnf
      repeat' ((first | refine Need.auto ?_ | refine Have.mk (fun _h => ?_)); conv => whnf)
      refine Lp.mkK hΓ (ι := Nat × List ByteArray) [1, 2, 3, 9, 10] (fun p => [(12, .c (.int .i64 p.1)), (11, .c (.sl 0 1 3 3 false))]) (fun p => [.arr 9 1 3 (strG p.2)]) (fun p => p.1 ≤ 3 ∧ p.2.length = 3) (fun p => 3 - p.1) (0, [valueS (IntKind.i64.wrap (1 + IntKind.i64.wrap (a.tmod 6))), valueS (IntKind.i64.wrap (1 + IntKind.i64.wrap (b.tmod 6))), valueS (IntKind.i64.wrap (1 + IntKind.i64.wrap (c.tmod 6)))]) ⟨Nat.zero_le _, rfl⟩ ?_ ?_
      · refine Mv.mkW ?_ ?_ (Nat.le_of_ble_eq_true rfl) <;> (repeat' (first | exact WA.nil | refine WA.cons rfl ?_ ?_ | exact WB.nil | refine WB.cons ?_ ?_ | exact WT.nil | refine WT.cons ?_ ?_ | exact WH.nil | refine WH.cons ?_ ?_ | exact WR.nil | refine WR.cons rfl ?_ ?_ | refine WO.vr ?_ | exact WO.dead | exact WO.mpS | refine WO.mpA ?_ | refine WO.arrA ?_ | exact WS.u | refine WS.c ?_ | refine WS.a ?_ | refine WS.t ?_ | exact WL.nil | refine WL.cons ?_ ?_ | exact WTL.nil | refine WTL.consC ?_ ?_ | refine WTL.consL ?_ ?_ | exact WC.nils | exact WC.nil rfl | exact WC.nilp | refine WC.fzA | exact WC.ptr rfl (Nat.le_of_ble_eq_true rfl) | exact WC.mpr rfl (Nat.le_of_ble_eq_true rfl) | refine WC.slA | refine WC.intA | refine WC.int ?_ | refine WC.boolA | refine WC.bool ?_ | refine WC.strA | refine WC.str ?_ | exact WC.imm rfl))
        · intro i hi j hj
          have hj0 : j = 0 := by have : j < 1 := hj; omega
          subst hj0
          match i, hi with
          | 0, _ => exact WC.eq rfl rfl
          | 1, _ => exact WC.eq rfl rfl
          | 2, _ => exact WC.eq rfl rfl
        · exact WC.sl rfl (Nat.le_of_ble_eq_true rfl) rfl rfl (fun q => by cases q)
      · intro p ⟨hp1, hp2⟩
        obtain ⟨i, f⟩ := p
        dsimp only at hp1 hp2 ⊢
        conv => whnf
        repeat' ((first | refine Need.auto ?_ | refine Have.mk (fun _h => ?_)); conv => whnf)
        (first | refine Br.lt (fun h3 => ?_) (fun h3 => ?_) | refine Br.le (fun h3 => ?_) (fun h3 => ?_) | refine Br.gt (fun h3 => ?_) (fun h3 => ?_) | refine Br.ge (fun h3 => ?_) (fun h3 => ?_) | refine Br.eq (fun h3 => ?_) (fun h3 => ?_) | refine Br.ne (fun h3 => ?_) (fun h3 => ?_) | refine Br.not (fun h3 => ?_) (fun h3 => ?_) | refine Br.mk (fun h3 => ?_) (fun h3 => ?_)) <;> (try simp only [Int.toNat_natCast] at h3) <;> (conv => whnf)
        · repeat' ((first | refine Need.auto ?_ | refine Have.mk (fun _h => ?_)); conv => whnf)
          refine CallN.pureA allowed20_body (allowed20_spec (zerosM 3) (madeM l) i ) ?_
          conv => whnf
          repeat' ((first | refine Need.auto ?_ | refine Have.mk (fun _h => ?_)); conv => whnf)
          generalize allowedR (zerosM 3) (madeM l) i = u
          refine Br.mk (fun h4 => ?_) (fun h4 => ?_)
          · conv => whnf
            have hu : 0 < u.length := by
              cases hc : decide ((u.length : Int) > 0) with
              | true => simpa using hc
              | false => rw [hc] at h4; cases h4
            have hr := u8_range (a + b)
            have hw : IntKind.i64.wrap (IntKind.u8.wrap (a + b)) = IntKind.u8.wrap (a + b) := wrap_id _ (by omega) (by omega)
            repeat' ((first | refine Need.auto ?_ | refine Have.mk (fun _h => ?_)); conv => whnf)
            rw [hw]
            have h5 := Int.tmod_nonneg (u.length : Int) hr.1
            have h6 := Int.tmod_lt_of_pos (IntKind.u8.wrap (a + b)) (show 0 < (u.length : Int) by omega)
            generalize (IntKind.u8.wrap (a + b)).tmod u.length = ix at *
            repeat' ((first | refine Need.auto ?_ | refine Have.mk (fun _h => ?_)); conv => whnf)
            have hs : (f.set i (u.getD ix.toNat ByteArray.empty)).length = 3 := by rw [List.length_set]; exact hp2
            generalize u.getD ix.toNat ByteArray.empty = v at *
            refine CallN.reads agree_body (agree_spec (zerosM 3) (madeM l) i (f.set i v) (by omega)) (BwA.cons (BwS.c (Bw.same rfl)) (BwA.cons (BwS.c (Bw.same rfl)) (BwA.cons (BwS.c (Bw.same rfl)) (BwA.cons (BwS.c (bwStrs rfl hs (fun q hq j hj => strs_set (by omega) hj))) BwA.nil)))) rfl ?_
            conv => whnf
            repeat' ((first | refine Need.auto ?_ | refine Have.mk (fun _h => ?_)); conv => whnf)
            refine Br.no rfl ?_
            conv => whnf
            repeat' ((first | refine Need.auto ?_ | refine Have.mk (fun _h => ?_)); conv => whnf)
            refine ⟨(i + 1, (f.set i v)), ⟨by show i + 1 ≤ 3; omega, hs⟩, by show 3 - (i + 1) < 3 - i; omega, ?_⟩
            refine Mv.mkW ?_ ?_ (Nat.le_of_ble_eq_true rfl) <;> (repeat' (first | exact WA.nil | refine WA.cons rfl ?_ ?_ | exact WB.nil | refine WB.cons ?_ ?_ | exact WT.nil | refine WT.cons ?_ ?_ | exact WH.nil | refine WH.cons ?_ ?_ | exact WR.nil | refine WR.cons rfl ?_ ?_ | refine WO.vr ?_ | exact WO.dead | exact WO.mpS | refine WO.mpA ?_ | refine WO.arrA ?_ | exact WS.u | refine WS.c ?_ | refine WS.a ?_ | refine WS.t ?_ | exact WL.nil | refine WL.cons ?_ ?_ | exact WTL.nil | refine WTL.consC ?_ ?_ | refine WTL.consL ?_ ?_ | exact WC.nils | exact WC.nil rfl | exact WC.nilp | refine WC.fzA | exact WC.ptr rfl (Nat.le_of_ble_eq_true rfl) | exact WC.mpr rfl (Nat.le_of_ble_eq_true rfl) | refine WC.slA | refine WC.intA | refine WC.int ?_ | refine WC.boolA | refine WC.bool ?_ | refine WC.strA | refine WC.str ?_ | exact WC.imm rfl))
            intro q hq j hj
            exact WC.eq (strs_set (by omega) hj) rfl
          · conv => whnf
            repeat' ((first | refine Need.auto ?_ | refine Have.mk (fun _h => ?_)); conv => whnf)
            refine CallN.reads agree_body (agree_spec (zerosM 3) (madeM l) i f (by omega)) (BwA.cons (BwS.c (Bw.same rfl)) (BwA.cons (BwS.c (Bw.same rfl)) (BwA.cons (BwS.c (Bw.same rfl)) (BwA.cons (BwS.c (bwStrs rfl hp2 (fun q hq j hj => rfl))) BwA.nil)))) rfl ?_
            conv => whnf
            repeat' ((first | refine Need.auto ?_ | refine Have.mk (fun _h => ?_)); conv => whnf)
            refine Br.no rfl ?_
            conv => whnf
            repeat' ((first | refine Need.auto ?_ | refine Have.mk (fun _h => ?_)); conv => whnf)
            refine ⟨(i + 1, f), ⟨by show i + 1 ≤ 3; omega, hp2⟩, by show 3 - (i + 1) < 3 - i; omega, ?_⟩
            refine Mv.mkW ?_ ?_ (Nat.le_of_ble_eq_true rfl) <;> (repeat' (first | exact WA.nil | refine WA.cons rfl ?_ ?_ | exact WB.nil | refine WB.cons ?_ ?_ | exact WT.nil | refine WT.cons ?_ ?_ | exact WH.nil | refine WH.cons ?_ ?_ | exact WR.nil | refine WR.cons rfl ?_ ?_ | refine WO.vr ?_ | exact WO.dead | exact WO.mpS | refine WO.mpA ?_ | refine WO.arrA ?_ | exact WS.u | refine WS.c ?_ | refine WS.a ?_ | refine WS.t ?_ | exact WL.nil | refine WL.cons ?_ ?_ | exact WTL.nil | refine WTL.consC ?_ ?_ | refine WTL.consL ?_ ?_ | exact WC.nils | exact WC.nil rfl | exact WC.nilp | refine WC.fzA | exact WC.ptr rfl (Nat.le_of_ble_eq_true rfl) | exact WC.mpr rfl (Nat.le_of_ble_eq_true rfl) | refine WC.slA | refine WC.intA | refine WC.int ?_ | refine WC.boolA | refine WC.bool ?_ | refine WC.strA | refine WC.str ?_ | exact WC.imm rfl))
            intro q hq j hj
            exact WC.eq rfl rfl
        · repeat' ((first | refine Need.auto ?_ | refine Have.mk (fun _h => ?_)); conv => whnf)
          refine CallN.pureA awake20_body (awake20_spec ) ?_
          conv => whnf
          repeat' ((first | refine Need.auto ?_ | refine Have.mk (fun _h => ?_)); conv => whnf)
          refine RM.immW rfl ?_; (repeat' (first | exact WA.nil | refine WA.cons rfl ?_ ?_ | exact WB.nil | refine WB.cons ?_ ?_ | exact WT.nil | refine WT.cons ?_ ?_ | exact WH.nil | refine WH.cons ?_ ?_ | exact WR.nil | refine WR.cons rfl ?_ ?_ | refine WO.vr ?_ | exact WO.dead | exact WO.mpS | refine WO.mpA ?_ | refine WO.arrA ?_ | exact WS.u | refine WS.c ?_ | refine WS.a ?_ | refine WS.t ?_ | exact WL.nil | refine WL.cons ?_ ?_ | exact WTL.nil | refine WTL.consC ?_ ?_ | refine WTL.consL ?_ ?_ | exact WC.nils | exact WC.nil rfl | exact WC.nilp | refine WC.fzA | exact WC.ptr rfl (Nat.le_of_ble_eq_true rfl) | exact WC.mpr rfl (Nat.le_of_ble_eq_true rfl) | refine WC.slA | refine WC.intA | refine WC.int ?_ | refine WC.boolA | refine WC.bool ?_ | refine WC.strA | refine WC.str ?_ | exact WC.imm rfl))
    · repeat' ((first | refine Need.auto ?_ | refine Have.mk (fun _h => ?_)); conv => whnf)
      refine Lp.mkK hΓ (ι := Nat × List ByteArray) [1, 2, 3, 9, 10] (fun p => [(12, .c (.int .i64 p.1)), (11, .c (.sl 0 1 3 3 false))]) (fun p => [.arr 9 1 3 (strG p.2)]) (fun p => p.1 ≤ 3 ∧ p.2.length = 3) (fun p => 3 - p.1) (0, [valueS (IntKind.i64.wrap (1 + IntKind.i64.wrap (a.tmod 6))), (zerosM 3).getD (Int.toNat 0) ByteArray.empty, valueS (IntKind.i64.wrap (1 + IntKind.i64.wrap (c.tmod 6)))]) ⟨Nat.zero_le _, rfl⟩ ?_ ?_
      · refine Mv.mkW ?_ ?_ (Nat.le_of_ble_eq_true rfl) <;> (repeat' (first | exact WA.nil | refine WA.cons rfl ?_ ?_ | exact WB.nil | refine WB.cons ?_ ?_ | exact WT.nil | refine WT.cons ?_ ?_ | exact WH.nil | refine WH.cons ?_ ?_ | exact WR.nil | refine WR.cons rfl ?_ ?_ | refine WO.vr ?_ | exact WO.dead | exact WO.mpS | refine WO.mpA ?_ | refine WO.arrA ?_ | exact WS.u | refine WS.c ?_ | refine WS.a ?_ | refine WS.t ?_ | exact WL.nil | refine WL.cons ?_ ?_ | exact WTL.nil | refine WTL.consC ?_ ?_ | refine WTL.consL ?_ ?_ | exact WC.nils | exact WC.nil rfl | exact WC.nilp | refine WC.fzA | exact WC.ptr rfl (Nat.le_of_ble_eq_true rfl) | exact WC.mpr rfl (Nat.le_of_ble_eq_true rfl) | refine WC.slA | refine WC.intA | refine WC.int ?_ | refine WC.boolA | refine WC.bool ?_ | refine WC.strA | refine WC.str ?_ | exact WC.imm rfl))
        · intro i hi j hj
          have hj0 : j = 0 := by have : j < 1 := hj; omega
          subst hj0
          match i, hi with
          | 0, _ => exact WC.eq rfl rfl
          | 1, _ => exact WC.eq rfl rfl
          | 2, _ => exact WC.eq rfl rfl
        · exact WC.sl rfl (Nat.le_of_ble_eq_true rfl) rfl rfl (fun q => by cases q)
      · intro p ⟨hp1, hp2⟩
        obtain ⟨i, f⟩ := p
        dsimp only at hp1 hp2 ⊢
        conv => whnf
        repeat' ((first | refine Need.auto ?_ | refine Have.mk (fun _h => ?_)); conv => whnf)
        (first | refine Br.lt (fun h3 => ?_) (fun h3 => ?_) | refine Br.le (fun h3 => ?_) (fun h3 => ?_) | refine Br.gt (fun h3 => ?_) (fun h3 => ?_) | refine Br.ge (fun h3 => ?_) (fun h3 => ?_) | refine Br.eq (fun h3 => ?_) (fun h3 => ?_) | refine Br.ne (fun h3 => ?_) (fun h3 => ?_) | refine Br.not (fun h3 => ?_) (fun h3 => ?_) | refine Br.mk (fun h3 => ?_) (fun h3 => ?_)) <;> (try simp only [Int.toNat_natCast] at h3) <;> (conv => whnf)
        · repeat' ((first | refine Need.auto ?_ | refine Have.mk (fun _h => ?_)); conv => whnf)
          refine CallN.pureA allowed20_body (allowed20_spec (zerosM 3) (madeM l) i ) ?_
          conv => whnf
          repeat' ((first | refine Need.auto ?_ | refine Have.mk (fun _h => ?_)); conv => whnf)
          generalize allowedR (zerosM 3) (madeM l) i = u
          refine Br.mk (fun h4 => ?_) (fun h4 => ?_)
          · conv => whnf
            have hu : 0 < u.length := by
              cases hc : decide ((u.length : Int) > 0) with
              | true => simpa using hc
              | false => rw [hc] at h4; cases h4
            have hr := u8_range (a + b)
            have hw : IntKind.i64.wrap (IntKind.u8.wrap (a + b)) = IntKind.u8.wrap (a + b) := wrap_id _ (by omega) (by omega)
            repeat' ((first | refine Need.auto ?_ | refine Have.mk (fun _h => ?_)); conv => whnf)
            rw [hw]
            have h5 := Int.tmod_nonneg (u.length : Int) hr.1
            have h6 := Int.tmod_lt_of_pos (IntKind.u8.wrap (a + b)) (show 0 < (u.length : Int) by omega)
            generalize (IntKind.u8.wrap (a + b)).tmod u.length = ix at *
            repeat' ((first | refine Need.auto ?_ | refine Have.mk (fun _h => ?_)); conv => whnf)
            have hs : (f.set i (u.getD ix.toNat ByteArray.empty)).length = 3 := by rw [List.length_set]; exact hp2
            generalize u.getD ix.toNat ByteArray.empty = v at *
            refine CallN.reads agree_body (agree_spec (zerosM 3) (madeM l) i (f.set i v) (by omega)) (BwA.cons (BwS.c (Bw.same rfl)) (BwA.cons (BwS.c (Bw.same rfl)) (BwA.cons (BwS.c (Bw.same rfl)) (BwA.cons (BwS.c (bwStrs rfl hs (fun q hq j hj => strs_set (by omega) hj))) BwA.nil)))) rfl ?_
            conv => whnf
            repeat' ((first | refine Need.auto ?_ | refine Have.mk (fun _h => ?_)); conv => whnf)
            refine Br.no rfl ?_
            conv => whnf
            repeat' ((first | refine Need.auto ?_ | refine Have.mk (fun _h => ?_)); conv => whnf)
            refine ⟨(i + 1, (f.set i v)), ⟨by show i + 1 ≤ 3; omega, hs⟩, by show 3 - (i + 1) < 3 - i; omega, ?_⟩
            refine Mv.mkW ?_ ?_ (Nat.le_of_ble_eq_true rfl) <;> (repeat' (first | exact WA.nil | refine WA.cons rfl ?_ ?_ | exact WB.nil | refine WB.cons ?_ ?_ | exact WT.nil | refine WT.cons ?_ ?_ | exact WH.nil | refine WH.cons ?_ ?_ | exact WR.nil | refine WR.cons rfl ?_ ?_ | refine WO.vr ?_ | exact WO.dead | exact WO.mpS | refine WO.mpA ?_ | refine WO.arrA ?_ | exact WS.u | refine WS.c ?_ | refine WS.a ?_ | refine WS.t ?_ | exact WL.nil | refine WL.cons ?_ ?_ | exact WTL.nil | refine WTL.consC ?_ ?_ | refine WTL.consL ?_ ?_ | exact WC.nils | exact WC.nil rfl | exact WC.nilp | refine WC.fzA | exact WC.ptr rfl (Nat.le_of_ble_eq_true rfl) | exact WC.mpr rfl (Nat.le_of_ble_eq_true rfl) | refine WC.slA | refine WC.intA | refine WC.int ?_ | refine WC.boolA | refine WC.bool ?_ | refine WC.strA | refine WC.str ?_ | exact WC.imm rfl))
            intro q hq j hj
            exact WC.eq (strs_set (by omega) hj) rfl
          · conv => whnf
            repeat' ((first | refine Need.auto ?_ | refine Have.mk (fun _h => ?_)); conv => whnf)
            refine CallN.reads agree_body (agree_spec (zerosM 3) (madeM l) i f (by omega)) (BwA.cons (BwS.c (Bw.same rfl)) (BwA.cons (BwS.c (Bw.same rfl)) (BwA.cons (BwS.c (Bw.same rfl)) (BwA.cons (BwS.c (bwStrs rfl hp2 (fun q hq j hj => rfl))) BwA.nil)))) rfl ?_
            conv => whnf
            repeat' ((first | refine Need.auto ?_ | refine Have.mk (fun _h => ?_)); conv => whnf)
            refine Br.no rfl ?_
            conv => whnf
            repeat' ((first | refine Need.auto ?_ | refine Have.mk (fun _h => ?_)); conv => whnf)
            refine ⟨(i + 1, f), ⟨by show i + 1 ≤ 3; omega, hp2⟩, by show 3 - (i + 1) < 3 - i; omega, ?_⟩
            refine Mv.mkW ?_ ?_ (Nat.le_of_ble_eq_true rfl) <;> (repeat' (first | exact WA.nil | refine WA.cons rfl ?_ ?_ | exact WB.nil | refine WB.cons ?_ ?_ | exact WT.nil | refine WT.cons ?_ ?_ | exact WH.nil | refine WH.cons ?_ ?_ | exact WR.nil | refine WR.cons rfl ?_ ?_ | refine WO.vr ?_ | exact WO.dead | exact WO.mpS | refine WO.mpA ?_ | refine WO.arrA ?_ | exact WS.u | refine WS.c ?_ | refine WS.a ?_ | refine WS.t ?_ | exact WL.nil | refine WL.cons ?_ ?_ | exact WTL.nil | refine WTL.consC ?_ ?_ | refine WTL.consL ?_ ?_ | exact WC.nils | exact WC.nil rfl | exact WC.nilp | refine WC.fzA | exact WC.ptr rfl (Nat.le_of_ble_eq_true rfl) | exact WC.mpr rfl (Nat.le_of_ble_eq_true rfl) | refine WC.slA | refine WC.intA | refine WC.int ?_ | refine WC.boolA | refine WC.bool ?_ | refine WC.strA | refine WC.str ?_ | exact WC.imm rfl))
            intro q hq j hj
            exact WC.eq rfl rfl
        · repeat' ((first | refine Need.auto ?_ | refine Have.mk (fun _h => ?_)); conv => whnf)
          refine CallN.pureA awake20_body (awake20_spec ) ?_
          conv => whnf
          repeat' ((first | refine Need.auto ?_ | refine Have.mk (fun _h => ?_)); conv => whnf)
          refine RM.immW rfl ?_; (repeat' (first | exact WA.nil | refine WA.cons rfl ?_ ?_ | exact WB.nil | refine WB.cons ?_ ?_ | exact WT.nil | refine WT.cons ?_ ?_ | exact WH.nil | refine WH.cons ?_ ?_ | exact WR.nil | refine WR.cons rfl ?_ ?_ | refine WO.vr ?_ | exact WO.dead | exact WO.mpS | refine WO.mpA ?_ | refine WO.arrA ?_ | exact WS.u | refine WS.c ?_ | refine WS.a ?_ | refine WS.t ?_ | exact WL.nil | refine WL.cons ?_ ?_ | exact WTL.nil | refine WTL.consC ?_ ?_ | refine WTL.consL ?_ ?_ | exact WC.nils | exact WC.nil rfl | exact WC.nilp | refine WC.fzA | exact WC.ptr rfl (Nat.le_of_ble_eq_true rfl) | exact WC.mpr rfl (Nat.le_of_ble_eq_true rfl) | refine WC.slA | refine WC.intA | refine WC.int ?_ | refine WC.boolA | refine WC.bool ?_ | refine WC.strA | refine WC.str ?_ | exact WC.imm rfl))
  · refine Br.yes (by rw [decide_eq_false hl]; rfl) ?_
    conv => whnf
    repeat' ((first | refine Need.auto ?_ | refine Have.mk (fun _h => ?_)); conv => whnf)
    refine CallN.pureA awake20_body (awake20_spec ) ?_
    conv => whnf
    repeat' ((first | refine Need.auto ?_ | refine Have.mk (fun _h => ?_)); conv => whnf)
    refine RM.immW rfl ?_; (repeat' (first | exact WA.nil | refine WA.cons rfl ?_ ?_ | exact WB.nil | refine WB.cons ?_ ?_ | exact WT.nil | refine WT.cons ?_ ?_ | exact WH.nil | refine WH.cons ?_ ?_ | exact WR.nil | refine WR.cons rfl ?_ ?_ | refine WO.vr ?_ | exact WO.dead | exact WO.mpS | refine WO.mpA ?_ | refine WO.arrA ?_ | exact WS.u | refine WS.c ?_ | refine WS.a ?_ | refine WS.t ?_ | exact WL.nil | refine WL.cons ?_ ?_ | exact WTL.nil | refine WTL.consC ?_ ?_ | refine WTL.consL ?_ ?_ | exact WC.nils | exact WC.nil rfl | exact WC.nilp | refine WC.fzA | exact WC.ptr rfl (Nat.le_of_ble_eq_true rfl) | exact WC.mpr rfl (Nat.le_of_ble_eq_true rfl) | refine WC.slA | refine WC.intA | refine WC.int ?_ | refine WC.boolA | refine WC.bool ?_ | refine WC.strA | refine WC.str ?_ | exact WC.imm rfl))
theorem durableMade_body : HasBody Try.prog 6 := ⟨⟨Try.f6, Try.func6, rfl, by kernel_rfl⟩⟩
end Go.Proofs
end
