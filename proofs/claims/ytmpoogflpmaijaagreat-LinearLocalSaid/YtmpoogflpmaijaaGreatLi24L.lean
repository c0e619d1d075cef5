/- Part of the proofs of laws of this seat: contracts and plain lemmas; no condition is added to a statement. -/
import Derived.Test.YtmpoogflpmaijaaGreatAmG
import Derived.Test.YtmpoogflpmaijaaGreatLinKL
import Derived.Test.YtmpoogflpmaijaaGreatLinJL
set_option linter.unusedSimpArgs false
set_option linter.unusedVariables false
open Go Go.Am
namespace Go.Proofs
set_option maxRecDepth 20000
set_option maxHeartbeats 8000000
theorem WC.fzEq {ρ : Nat → Nat} {n id m : Nat} {g : Nat → Nat → C} {c c' : C} (h : c = c') (hi : c'.imm = true) : WC ρ n (fzC id m g c) c' := by subst h; exact WC.fzImm hi
theorem ev_cut {l : List Evt} {k : Nat} (hk : k < l.length) {g0 : Nat → Nat → C} {i j : Nat} (hi : i < 0 + k + (l.length - (k + 1))) : appG (appG g0 0 (evG l)) (0 + k) (fun i j => evG l (k + 1 + i) j) i j = evG (l.take k ++ l.drop (k + 1)) i j := by
  simp only [appG, Nat.zero_add]
  by_cases c : i < k
  · rw [if_pos c, if_neg (by omega)]
    unfold evG rowG
    congr 1
    simp [List.getD, List.getElem?_append, List.getElem?_take, c, (by omega : i < l.length), Nat.min_eq_left (Nat.le_of_lt hk)]
  · rw [if_neg c]
    unfold evG rowG
    congr 1
    simp only [List.getD]
    rw [List.getElem?_append_right (by rw [List.length_take]; omega), List.length_take, Nat.min_eq_left (by omega), List.getElem?_drop]
theorem updG_lt {g : Nat → Nat → C} {k j i l : Nat} {ys : List C} (h : l < j) : updG g k j ys i l = g i l := by unfold updG; rw [if_neg (by omega)]
theorem ev_res {d : List Evt} {b : List ByteArray} {k : Nat} {e : Evt} (hk : k < d.length) (he : d.getD k default = e) (i j : Nat) (hj : j < 8) : updG (evG d) k 6 [.int .i64 (appE b.length e.kind e.block e.data), .str (appD b e.kind e.block e.data)] i j = evG (d.set k (evD b e)) i j := by
  refine rowG_set hk (es := 8) (fun j hj => ?_) i j hj
  rw [he]
  match j, hj with
  | 0, _ => rfl
  | 1, _ => rfl
  | 2, _ => rfl
  | 3, _ => rfl
  | 4, _ => rfl
  | 5, _ => rfl
  | 6, _ => rfl
  | 7, _ => rfl
theorem events_spec (l : List Int) (n m : Nat) (wrong : Bool) (hl : l.length ≤ 10000000) (hn : 1 ≤ n ∧ n ≤ 20) (hm : m ≤ 100) : PSpec Tryz.prog 9 [.c (intsC l), .c (.int .i64 n), .c (.int .i64 m), .c (.bool wrong)] (.c (evC (eventsM n m wrong l))) := by
  refine PSpec.rm ?_
  refine ov hΓ Tryz.func9 178 0 [.tmp 8] Tryz.ntmps9 Tryz.results9 ?_
  ((conv=>whnf);(repeat' ((first|refine Nd ?_|refine Hv fun _h=>?_);conv=>whnf)))
  refine CallN.autoQ [] roll_body (roll_spec l hl) ?_; conv=>whnf
  ((conv=>whnf);(repeat' ((first|refine Nd ?_|refine Hv fun _h=>?_);conv=>whnf)))
  refine CallN.pureA new17_body (new17_spec n hn.1 (by omega) ) ?_
  ((conv=>whnf);(repeat' ((first|refine Nd ?_|refine Hv fun _h=>?_);conv=>whnf)))
  refine Lp.reserve 52 8 (evG []) 11 rfl ?_
  refine Lp.reserve 52 8 (evG []) 12 rfl ?_
  refine Lp.mkK hΓ (ι := Nat) [1, 2, 3, 9, 13] (fun i => [(14, .c (.int .i64 i)), (10, .c (strsC (evI n m wrong l i).b)), (11, .c (.sl 2 8 (evI n m wrong l i).out.length (evI n m wrong l i).out.length false)), (12, .c (.sl 3 8 (evI n m wrong l i).opn.length (evI n m wrong l i).opn.length false))]) (fun i => [.vr (evI n m wrong l i).d.cells, apO (evI n m wrong l i).ap, .arr 52 8 (evI n m wrong l i).out.length (evG (evI n m wrong l i).out), .arr 52 8 (evI n m wrong l i).opn.length (evG (evI n m wrong l i).opn)]) (fun i => i ≤ 3 * m) (fun i => 3 * m - i) 0 (Nat.zero_le _) ?_ ?_
  · refine Mv.k2 ?_ ?_
    · intro k j _ hj
      have hj0 : j = 0 := by simpa using hj
      subst hj0
      exact leF.of_eq (show C.bool false = C.bool (decide (keyI k ∈ [])) by simp)
    · exact fun i hi => absurd hi (Nat.not_lt_zero i)
  · intro i hi
    have hd := evI_ok (n := n) (m := m) (wrong := wrong) hl i
    have hlen := evI_len (n := n) (m := m) (wrong := wrong) (l := l) i
    have hs : evI n m wrong l (i + 1) = if 0 < (evI n m wrong l i).d.rest then evStep n m wrong i (evI n m wrong l i) else evI n m wrong l i := rfl
    have hstop := fun h => evI_stop (n := n) (m := m) (wrong := wrong) (l := l) (i := i) h (3 * m - i)
    generalize hsI : evI n m wrong l i = s at *
    obtain ⟨d, out, opn, ap, b⟩ := s
    obtain ⟨hl1, hl2, hl3⟩ := hlen
    dsimp only at hl1 hl2 hl3 hd
    ((conv=>whnf);(repeat' ((first|refine Nd ?_|refine Hv fun _h=>?_);conv=>whnf)))
    refine CallN.autoQ [0] rest_body (rest_spec d hd) ?_; conv=>whnf
    ((conv=>whnf);(repeat' ((first|refine Nd ?_|refine Hv fun _h=>?_);conv=>whnf)))
    dsimp only at *
    have hw3 : IntKind.i64.wrap (3 * (m : Int)) = ((3 * m : Nat) : Int) := by rw [wrap_id _ (by omega) (by omega)]; omega
    rw [hw3]
    by_cases hr : 0 < d.rest ∧ i < 3 * m
    · rw [if_pos hr.1] at hs
      refine Br.yes (by rw [decide_eq_true (by omega), decide_eq_true (by omega)]; rfl) ?_
      ((conv=>whnf);(repeat' ((first|refine Nd ?_|refine Hv fun _h=>?_);conv=>whnf)))
      have hmx : (max 1 (opn.length : Int)) = ((max 1 opn.length : Nat) : Int) := by omega
      rw [hmx]
      refine CallN.autoQ [0] next_body (next_spec d hd (max 1 opn.length : Nat)) ?_; conv=>whnf
      have hkr := DiceM.next_range d (n := ((max 1 opn.length : Nat) : Int)) (by omega) (by omega)
      obtain ⟨k, hk⟩ : ∃ k : Nat, d.next ((max 1 opn.length : Nat) : Int) = k := ⟨(d.next ((max 1 opn.length : Nat) : Int)).toNat, by omega⟩
      have hk0 : evK0 ⟨d, out, opn, ap, b⟩ = k := by unfold evK0; dsimp only; rw [hk]; simp
      have hst : evStep n m wrong i ⟨d, out, opn, ap, b⟩ = (if d.step.next 3 = 0 ∧ 0 < opn.length ∧ (opn.getD k default).serial ∈ ap then evA ⟨d, out, opn, ap, b⟩ d.step.step k wrong
        else if d.step.next 3 = 1 ∧ 0 < opn.length ∧ (opn.getD k default).serial ∉ ap then evP ⟨d, out, opn, ap, b⟩ d.step.step k
        else if opn.length < 5 ∧ out.length < 2 * m then evB ⟨d, out, opn, ap, b⟩ d.step.step n i
        else ⟨d.step.step, out, opn, ap, b⟩) := by unfold evStep; rw [hk0]
      rw [hst] at hs
      clear hst
      rw [hk] at hkr ⊢
      ((conv=>whnf);(repeat' ((first|refine Nd ?_|refine Hv fun _h=>?_);conv=>whnf)))
      refine CallN.autoQ [0] next_body (next_spec d.step hd.step 3) ?_; conv=>whnf
      generalize hact : d.step.next 3 = act at *
      ((conv=>whnf);(repeat' ((first|refine Nd ?_|refine Hv fun _h=>?_);conv=>whnf)))
      rw [Int.toNat_natCast]
      refine Frc.mk (.c (.int .i64 (opn.getD k default).serial)) rfl ?_
      conv=>whnf
      generalize hek : opn.getD k default = e at *
      ((conv=>whnf);(repeat' ((first|refine Nd ?_|refine Hv fun _h=>?_);conv=>whnf)))
      have hb1 : (bif bif act == 0 then decide ((opn.length : Int) > 0) else false then decide (e.serial ∈ ap) else false) = decide (act = 0 ∧ 0 < opn.length ∧ e.serial ∈ ap) := by
        rw [Bool.eq_iff_iff, decide_eq_true_eq]
        by_cases c1 : act = 0 <;> by_cases c2 : 0 < opn.length <;> by_cases c3 : e.serial ∈ ap <;> simp [c1, c2, c3]
      by_cases hA : act = 0 ∧ 0 < opn.length ∧ e.serial ∈ ap
      · have hko : k < opn.length := by omega
        rw [if_pos hA] at hs
        refine Br.yes (hb1.trans (decide_eq_true hA)) ?_
        ((conv=>whnf);(repeat' ((first|refine Nd ?_|refine Hv fun _h=>?_);conv=>whnf)))
        rw [Int.toNat_natCast]
        refine Frc.mk (.a e.cells) (by rw [← hek]; rfl) ?_
        ((conv=>whnf);(repeat' ((first|refine Nd ?_|refine Hv fun _h=>?_);conv=>whnf)))
        refine CallG.autoQ [0] next_body (next_spec d.step.step hd.step.step 4) (fun hg => ?_) (fun hg => ?_) <;> (conv=>whnf)
        · ((conv=>whnf);(repeat' ((first|refine Nd ?_|refine Hv fun _h=>?_);conv=>whnf)))
          subst hg
          by_cases h8 : d.step.step.next 4 = 3 ∧ e.kind = 1
          · have hxx : evX d.step.step true e = ({ e with ret := true, rdata := valueS (d.step.step.step.next 4) }, d.step.step.step.step) := by
              unfold evX
              rw [if_pos rfl, if_pos h8]
            refine Br.yes (by rw [h8.1, h8.2]; rfl) ?_
            ((conv=>whnf);(repeat' ((first|refine Nd ?_|refine Hv fun _h=>?_);conv=>whnf)))
            refine CallN.autoQ [0] next_body (next_spec d.step.step.step hd.step.step.step 4) ?_; conv=>whnf
            ((conv=>whnf);(repeat' ((first|refine Nd ?_|refine Hv fun _h=>?_);conv=>whnf)))
            refine CallN.pureA value_body (value_spec (d.step.step.step.next 4) ) ?_
            ((conv=>whnf);(repeat' ((first|refine Nd ?_|refine Hv fun _h=>?_);conv=>whnf)))
            have hA2 : evA ⟨d, out, opn, ap, b⟩ d.step.step k true = ⟨d.step.step.step.step, out ++ [{e with ret:=true, rdata:=valueS (d.step.step.step.next 4)}], opn.take k ++ opn.drop (k + 1), ap, b⟩ := by unfold evA; dsimp only; rw [hek, hxx]
            rw [hA2] at hs
            refine Dr.mvK [1, 2, 3, 9, 10, 11, 13, 14, 15] [(12, .c (evC opn))] [.vr (d.step.step.step.step).cells, apO ap, .arr 52 8 (out ++ [{e with ret:=true, rdata:=valueS (d.step.step.step.next 4)}]).length (evG (out ++ [{e with ret:=true, rdata:=valueS (d.step.step.step.next 4)}])), .dead] ((Mv.fz 3 rfl (Nat.zero_le _) (fun _ _ _ _ => evCell_imm _ _)).trans (Mv.mkW ?_ ?_ leN)) ?_
            · refine wb1 ?_
              · intro i hi j hj
                exact WC.fzEq (ev_snoc (x := {e with ret:=true, rdata:=valueS (d.step.step.step.next 4)}) rfl hi hj) (evCell_imm _ _)
            · exact wb0
            refine Dr.mkE hΓ hMix [] [(5, 4), (6, 4), (7, 4), (8, 4)] (by kernel_rfl) ?_; conv=>whnf
            have hkw : IntKind.i64.wrap ((k : Int) + 1) = ((k + 1 : Nat) : Int) := by rw [wrap_id _ (by omega) (by omega)]; omega
            ((conv=>whnf);(repeat' ((first|refine Nd ?_|refine Hv fun _h=>?_);conv=>whnf)))
            rw [hkw]
            ((conv=>whnf);(repeat' ((first|refine Nd ?_|refine Hv fun _h=>?_);conv=>whnf)))
            have hln : (opn.take k ++ opn.drop (k + 1)).length = 0 + k + (opn.length - (k + 1)) := by simp; omega
            refine ⟨i + 1, by omega, by omega, ?_⟩
            rw [hs]
            simp only [Int.toNat_natCast]
            refine Mv.renW [0, 1, 2, 4] (by decide) (fun i hi => absurd hi (Nat.not_lt_zero _)) (Nat.zero_le _) ?_ ?_
            · refine wb2 ?_ ?_
              · intro i _ j _; exact WC.imm (evCell_imm _ _)
              · intro i hi j hj
                exact WC.eq (ev_cut (by omega) hi) (evCell_imm _ _)
            · exact wb0
          · have hxx : evX d.step.step true e = ({ e with ret := true }, d.step.step.step) := by
              unfold evX
              rw [if_pos rfl, if_neg h8]
            refine Br.no ?_ ?_
            · by_cases c : d.step.step.next 4 = 3
              · have : e.kind ≠ 1 := fun q => h8 ⟨c, q⟩
                rw [c]; simpa using this
              · rw [show (bif true then d.step.step.next 4 == 3 else false) = false by simpa using c]; rfl
            ((conv=>whnf);(repeat' ((first|refine Nd ?_|refine Hv fun _h=>?_);conv=>whnf)))
            have hA2 : evA ⟨d, out, opn, ap, b⟩ d.step.step k true = ⟨d.step.step.step, out ++ [{e with ret:=true}], opn.take k ++ opn.drop (k + 1), ap, b⟩ := by unfold evA; dsimp only; rw [hek, hxx]
            rw [hA2] at hs
            refine Dr.mvK [1, 2, 3, 9, 10, 11, 13, 14, 15] [(12, .c (evC opn))] [.vr (d.step.step.step).cells, apO ap, .arr 52 8 (out ++ [{e with ret:=true}]).length (evG (out ++ [{e with ret:=true}])), .dead] ((Mv.fz 3 rfl (Nat.zero_le _) (fun _ _ _ _ => evCell_imm _ _)).trans (Mv.mkW ?_ ?_ leN)) ?_
            · refine wb1 ?_
              · intro i hi j hj
                exact WC.fzEq (ev_snoc (x := {e with ret:=true}) rfl hi hj) (evCell_imm _ _)
            · exact wb0
            refine Dr.mkE hΓ hMix [] [(5, 4), (6, 4), (7, 4), (8, 4)] (by kernel_rfl) ?_; conv=>whnf
            have hkw : IntKind.i64.wrap ((k : Int) + 1) = ((k + 1 : Nat) : Int) := by rw [wrap_id _ (by omega) (by omega)]; omega
            ((conv=>whnf);(repeat' ((first|refine Nd ?_|refine Hv fun _h=>?_);conv=>whnf)))
            rw [hkw]
            ((conv=>whnf);(repeat' ((first|refine Nd ?_|refine Hv fun _h=>?_);conv=>whnf)))
            have hln : (opn.take k ++ opn.drop (k + 1)).length = 0 + k + (opn.length - (k + 1)) := by simp; omega
            refine ⟨i + 1, by omega, by omega, ?_⟩
            rw [hs]
            simp only [Int.toNat_natCast]
            refine Mv.renW [0, 1, 2, 4] (by decide) (fun i hi => absurd hi (Nat.not_lt_zero _)) (Nat.zero_le _) ?_ ?_
            · refine wb2 ?_ ?_
              · intro i _ j _; exact WC.imm (evCell_imm _ _)
              · intro i hi j hj
                exact WC.eq (ev_cut (by omega) hi) (evCell_imm _ _)
            · exact wb0
        · ((conv=>whnf);(repeat' ((first|refine Nd ?_|refine Hv fun _h=>?_);conv=>whnf)))
          subst hg
          have hxx : evX d.step.step false e = ({ e with ret := true }, d.step.step) := by
            unfold evX
            rw [if_neg (by simp)]
          refine Br.no rfl ?_
          ((conv=>whnf);(repeat' ((first|refine Nd ?_|refine Hv fun _h=>?_);conv=>whnf)))
          have hA2 : evA ⟨d, out, opn, ap, b⟩ d.step.step k false = ⟨d.step.step, out ++ [{e with ret:=true}], opn.take k ++ opn.drop (k + 1), ap, b⟩ := by unfold evA; dsimp only; rw [hek, hxx]
          rw [hA2] at hs
          refine Dr.mvK [1, 2, 3, 9, 10, 11, 13, 14, 15] [(12, .c (evC opn))] [.vr (d.step.step).cells, apO ap, .arr 52 8 (out ++ [{e with ret:=true}]).length (evG (out ++ [{e with ret:=true}])), .dead] ((Mv.fz 3 rfl (Nat.zero_le _) (fun _ _ _ _ => evCell_imm _ _)).trans (Mv.mkW ?_ ?_ leN)) ?_
          · refine wb1 ?_
            · intro i hi j hj
              exact WC.fzEq (ev_snoc (x := {e with ret:=true}) rfl hi hj) (evCell_imm _ _)
          · exact wb0
          refine Dr.mkE hΓ hMix [] [(5, 4), (6, 4), (7, 4), (8, 4)] (by kernel_rfl) ?_; conv=>whnf
          have hkw : IntKind.i64.wrap ((k : Int) + 1) = ((k + 1 : Nat) : Int) := by rw [wrap_id _ (by omega) (by omega)]; omega
          ((conv=>whnf);(repeat' ((first|refine Nd ?_|refine Hv fun _h=>?_);conv=>whnf)))
          rw [hkw]
          ((conv=>whnf);(repeat' ((first|refine Nd ?_|refine Hv fun _h=>?_);conv=>whnf)))
          have hln : (opn.take k ++ opn.drop (k + 1)).length = 0 + k + (opn.length - (k + 1)) := by simp; omega
          refine ⟨i + 1, by omega, by omega, ?_⟩
          rw [hs]
          simp only [Int.toNat_natCast]
          refine Mv.renW [0, 1, 2, 4] (by decide) (fun i hi => absurd hi (Nat.not_lt_zero _)) (Nat.zero_le _) ?_ ?_
          · refine wb2 ?_ ?_
            · intro i _ j _; exact WC.imm (evCell_imm _ _)
            · intro i hi j hj
              exact WC.eq (ev_cut (by omega) hi) (evCell_imm _ _)
          · exact wb0
      · rw [if_neg hA] at hs
        refine Br.no (hb1.trans (decide_eq_false hA)) ?_
        ((conv=>whnf);(repeat' ((first|refine Nd ?_|refine Hv fun _h=>?_);conv=>whnf)))
        rw [Int.toNat_natCast]
        refine Frc.mk (.c (.int .i64 e.serial)) (by rw [← hek]; rfl) ?_
        ((conv=>whnf);(repeat' ((first|refine Nd ?_|refine Hv fun _h=>?_);conv=>whnf)))
        have hb2 : (bif bif act == 1 then decide ((opn.length : Int) > 0) else false then !decide (e.serial ∈ ap) else false) = decide (act = 1 ∧ 0 < opn.length ∧ e.serial ∉ ap) := by
          rw [Bool.eq_iff_iff, decide_eq_true_eq]
          by_cases c1 : act = 1 <;> by_cases c2 : 0 < opn.length <;> by_cases c3 : e.serial ∈ ap <;> simp [c1, c2, c3]
        by_cases hP : act = 1 ∧ 0 < opn.length ∧ e.serial ∉ ap
        · have hko : k < opn.length := by omega
          rw [if_pos hP] at hs
          refine Br.yes (hb2.trans (decide_eq_true hP)) ?_
          ((conv=>whnf);(repeat' ((first|refine Nd ?_|refine Hv fun _h=>?_);conv=>whnf)))
          rw [Int.toNat_natCast]
          refine Frc.mk (.a [.int .i64 e.kind, .int .i64 e.block, .str e.data]) (by rw [← hek]; rfl) ?_
          ((conv=>whnf);(repeat' ((first|refine Nd ?_|refine Hv fun _h=>?_);conv=>whnf)))
          refine CallN.pureA apply17_body (apply17_spec b e.kind e.block e.data (by omega) ) ?_
          ((conv=>whnf);(repeat' ((first|refine Nd ?_|refine Hv fun _h=>?_);conv=>whnf)))
          rw [Int.toNat_natCast]
          refine Frc.mk (.c (.int .i64 e.serial)) (by rw [updG_lt (by decide), ← hek]; rfl) ?_
          ((conv=>whnf);(repeat' ((first|refine Nd ?_|refine Hv fun _h=>?_);conv=>whnf)))
          have hP2 : evP ⟨d, out, opn, ap, b⟩ d.step.step k = ⟨d.step.step, out, opn.set k (evD b e), ap ++ [e.serial], appB b e.kind e.block e.data⟩ := by unfold evP; dsimp only; rw [hek]
          rw [hP2] at hs
          refine ⟨i + 1, by omega, by omega, ?_⟩
          rw [hs]
          dsimp only
          rw [List.length_set]
          refine Mv.k3 ?_ ?_ ?_
          · exact WO.ap_new hP.2.2
          · exact fun i _ j _ => WC.imm (evCell_imm _ _)
          · exact fun i hi j hj => WC.eq (ev_res hko hek i j hj) (evCell_imm _ _)
        · rw [if_neg hP] at hs
          refine Br.no (hb2.trans (decide_eq_false hP)) ?_
          ((conv=>whnf);(repeat' ((first|refine Nd ?_|refine Hv fun _h=>?_);conv=>whnf)))
          have hw2 : IntKind.i64.wrap (2 * (m : Int)) = ((2 * m : Nat) : Int) := by rw [wrap_id _ (by omega) (by omega)]; omega
          rw [hw2]
          have hb3 : (bif decide ((opn.length : Int) < 5) then decide ((out.length : Int) < ((2 * m : Nat) : Int)) else false) = decide (opn.length < 5 ∧ out.length < 2 * m) := by
            rw [Bool.eq_iff_iff, decide_eq_true_eq]
            by_cases c1 : opn.length < 5 <;> by_cases c2 : out.length < 2 * m
            · rw [decide_eq_true (by omega : (opn.length : Int) < 5), decide_eq_true (by omega : (out.length : Int) < ((2 * m : Nat) : Int))]; simp [c1, c2]
            · rw [decide_eq_true (by omega : (opn.length : Int) < 5), decide_eq_false (by omega : ¬ (out.length : Int) < ((2 * m : Nat) : Int))]; simp [c2]
            · rw [decide_eq_false (by omega : ¬ (opn.length : Int) < 5)]; simp [c1]
            · rw [decide_eq_false (by omega : ¬ (opn.length : Int) < 5)]; simp [c1]
          by_cases hB : opn.length < 5 ∧ out.length < 2 * m
          · rw [if_pos hB] at hs
            refine Br.yes (hb3.trans (decide_eq_true hB)) ?_
            ((conv=>whnf);(repeat' ((first|refine Nd ?_|refine Hv fun _h=>?_);conv=>whnf)))
            refine CallN.autoQ [0] next_body (next_spec d.step.step hd.step.step 4) ?_; conv=>whnf
            ((conv=>whnf);(repeat' ((first|refine Nd ?_|refine Hv fun _h=>?_);conv=>whnf)))
            refine CallN.autoQ [0] next_body (next_spec d.step.step.step hd.step.step.step 3) ?_; conv=>whnf
            ((conv=>whnf);(repeat' ((first|refine Nd ?_|refine Hv fun _h=>?_);conv=>whnf)))
            refine CallN.autoQ [0] next_body (next_spec d.step.step.step.step hd.step.step.step.step n) ?_; conv=>whnf
            ((conv=>whnf);(repeat' ((first|refine Nd ?_|refine Hv fun _h=>?_);conv=>whnf)))
            have hkr3 := DiceM.next_range d.step.step.step (n := 3) (by omega) (by omega)
            have hw1 : IntKind.i64.wrap (1 + d.step.step.step.next 3) = 1 + d.step.step.step.next 3 := wrap_id _ (by omega) (by omega)
            rw [hw1]
            have hB2 : evB ⟨d, out, opn, ap, b⟩ d.step.step n i = ⟨if 1 + d.step.step.step.next 3 = 2 then d.step.step.step.step.step.step else d.step.step.step.step.step, out ++ [evN d.step.step n i], opn ++ [evN d.step.step n i], ap, b⟩ := rfl
            have hN : evN d.step.step n i = ⟨false, d.step.step.next 4, i, 1 + d.step.step.step.next 3, d.step.step.step.step.next n, if 1 + d.step.step.step.next 3 = 2 then valueS (1 + d.step.step.step.step.step.next 4) else ByteArray.empty, 0, ByteArray.empty⟩ := rfl
            rw [hB2, hN] at hs
            refine Br.of (fun hk2=>?_) (fun hk2=>?_)<;>(try simp only [Int.toNat_natCast] at hk2)<;>(conv=>whnf)
            · ((conv=>whnf);(repeat' ((first|refine Nd ?_|refine Hv fun _h=>?_);conv=>whnf)))
              refine CallN.autoQ [0] next_body (next_spec d.step.step.step.step.step hd.step.step.step.step.step 4) ?_; conv=>whnf
              ((conv=>whnf);(repeat' ((first|refine Nd ?_|refine Hv fun _h=>?_);conv=>whnf)))
              have hkr4 := DiceM.next_range d.step.step.step.step.step (n := 4) (by omega) (by omega)
              have hw5 : IntKind.i64.wrap (1 + d.step.step.step.step.step.next 4) = 1 + d.step.step.step.step.step.next 4 := wrap_id _ (by omega) (by omega)
              rw [hw5]
              refine CallN.pureA value_body (value_spec (1 + d.step.step.step.step.step.next 4) ) ?_
              ((conv=>whnf);(repeat' ((first|refine Nd ?_|refine Hv fun _h=>?_);conv=>whnf)))
              rw [if_pos hk2, if_pos hk2] at hs
              refine Dr.mvK [1, 2, 3, 9, 10, 11, 12, 13, 14, 20] [] [.vr (d.step.step.step.step.step.step).cells, apO ap, .arr 52 8 out.length (evG out), .arr 52 8 opn.length (evG opn), .vr ((Evt.mk false (d.step.step.next 4) i (1 + d.step.step.step.next 3) (d.step.step.step.step.next n) (valueS (1 + d.step.step.step.step.step.next 4)) 0 ByteArray.empty)).cells] (Mv.mkW ?_ ?_ leN) ?_
              · (repeat' (first | exact WA.nil | refine WA.cons rfl ?_ ?_ | exact WB.nil | refine WB.cons ?_ ?_ | exact WT.nil | refine WT.cons ?_ ?_ | exact WH.nil | refine WH.cons ?_ ?_ | exact WR.nil | refine WR.cons rfl ?_ ?_ | refine WO.vr ?_ | exact WO.dead | exact WO.mpS | refine WO.mpA ?_ | exact WO.arrPA (fun i j => plainRow _ _ _) | refine WO.arrA ?_ | exact WS.u | refine WS.c ?_ | refine WS.a ?_ | refine WS.t ?_ | exact WL.nil | refine WL.cons ?_ ?_ | exact WTL.nil | refine WTL.consC ?_ ?_ | refine WTL.consL ?_ ?_ | exact WC.nils | exact WC.nil rfl | exact WC.nilp | refine WC.fzA | exact WC.ptr rfl leN | exact WC.mpr rfl leN | refine WC.slA | refine WC.intA | refine WC.int ?_ | refine WC.boolA | refine WC.bool ?_ | refine WC.strA | refine WC.str ?_ | exact WC.imm rfl))
                all_goals exact fun i _ j _ => WC.imm (evCell_imm _ _)
              · exact wb0
              clear hB2 hN
              generalize (Evt.mk false (d.step.step.next 4) i (1 + d.step.step.step.next 3) (d.step.step.step.step.next n) (valueS (1 + d.step.step.step.step.step.next 4)) 0 ByteArray.empty) = X at *
              refine Dr.mkE hΓ hMix [4294967296] [(4, 3), (5, 3), (6, 3)] (by kernel_rfl) ?_; conv=>whnf
              ((conv=>whnf);(repeat' ((first|refine Nd ?_|refine Hv fun _h=>?_);conv=>whnf)))
              refine ⟨i + 1, by omega, by omega, ?_⟩
              rw [hs]
              dsimp only
              rw [show (out ++ [X]).length = out.length + 1 by simp, show (opn ++ [X]).length = opn.length + 1 by simp]
              refine Mv.k2 ?_ ?_
              · exact fun i hi j hj => WC.eq (ev_snoc rfl hi hj) (evCell_imm _ _)
              · exact fun i hi j hj => WC.eq (ev_snoc rfl hi hj) (evCell_imm _ _)
            · ((conv=>whnf);(repeat' ((first|refine Nd ?_|refine Hv fun _h=>?_);conv=>whnf)))
              rw [if_neg hk2, if_neg hk2] at hs
              refine Dr.mvK [1, 2, 3, 9, 10, 11, 12, 13, 14, 20] [] [.vr (d.step.step.step.step.step).cells, apO ap, .arr 52 8 out.length (evG out), .arr 52 8 opn.length (evG opn), .vr ((Evt.mk false (d.step.step.next 4) i (1 + d.step.step.step.next 3) (d.step.step.step.step.next n) ByteArray.empty 0 ByteArray.empty)).cells] (Mv.mkW ?_ ?_ leN) ?_
              · (repeat' (first | exact WA.nil | refine WA.cons rfl ?_ ?_ | exact WB.nil | refine WB.cons ?_ ?_ | exact WT.nil | refine WT.cons ?_ ?_ | exact WH.nil | refine WH.cons ?_ ?_ | exact WR.nil | refine WR.cons rfl ?_ ?_ | refine WO.vr ?_ | exact WO.dead | exact WO.mpS | refine WO.mpA ?_ | exact WO.arrPA (fun i j => plainRow _ _ _) | refine WO.arrA ?_ | exact WS.u | refine WS.c ?_ | refine WS.a ?_ | refine WS.t ?_ | exact WL.nil | refine WL.cons ?_ ?_ | exact WTL.nil | refine WTL.consC ?_ ?_ | refine WTL.consL ?_ ?_ | exact WC.nils | exact WC.nil rfl | exact WC.nilp | refine WC.fzA | exact WC.ptr rfl leN | exact WC.mpr rfl leN | refine WC.slA | refine WC.intA | refine WC.int ?_ | refine WC.boolA | refine WC.bool ?_ | refine WC.strA | refine WC.str ?_ | exact WC.imm rfl))
                all_goals exact fun i _ j _ => WC.imm (evCell_imm _ _)
              · exact wb0
              clear hB2 hN
              generalize (Evt.mk false (d.step.step.next 4) i (1 + d.step.step.step.next 3) (d.step.step.step.step.next n) ByteArray.empty 0 ByteArray.empty) = X at *
              refine Dr.mkE hΓ hMix [4294967296] [(4, 3), (5, 3), (6, 3)] (by kernel_rfl) ?_; conv=>whnf
              ((conv=>whnf);(repeat' ((first|refine Nd ?_|refine Hv fun _h=>?_);conv=>whnf)))
              refine ⟨i + 1, by omega, by omega, ?_⟩
              rw [hs]
              dsimp only
              rw [show (out ++ [X]).length = out.length + 1 by simp, show (opn ++ [X]).length = opn.length + 1 by simp]
              refine Mv.k2 ?_ ?_
              · exact fun i hi j hj => WC.eq (ev_snoc rfl hi hj) (evCell_imm _ _)
              · exact fun i hi j hj => WC.eq (ev_snoc rfl hi hj) (evCell_imm _ _)
          · rw [if_neg hB] at hs
            refine Br.no (hb3.trans (decide_eq_false hB)) ?_
            ((conv=>whnf);(repeat' ((first|refine Nd ?_|refine Hv fun _h=>?_);conv=>whnf)))
            refine ⟨i + 1, by omega, by omega, ?_⟩
            rw [hs]
            refine Mv.k2 ?_ ?_
            · exact fun i _ j _ => WC.imm (evCell_imm _ _)
            · exact fun i _ j _ => WC.imm (evCell_imm _ _)
    · refine Br.no ?_ ?_
      · by_cases c : 0 < d.rest
        · rw [decide_eq_false (p := ((i : Int) < ((3 * m : Nat) : Int))) (by omega)]; cases decide (d.rest > 0) <;> rfl
        · rw [decide_eq_false (by omega)]; rfl
      ((conv=>whnf);(repeat' ((first|refine Nd ?_|refine Hv fun _h=>?_);conv=>whnf)))
      have hm : eventsM n m wrong l = out := by
        unfold eventsM
        by_cases c : 0 < d.rest
        · have : i = 3 * m := by omega
          subst this
          rw [hsI]
        · have := hstop c
          rw [show i + (3 * m - i) = 3 * m by omega] at this
          rw [this]
      rw [hm]
      refine RM.fz 2 rfl (Nat.zero_le _) (fun _ _ _ _ => (by first | exact rfl | exact evCell_imm _ _ | exact zoneAt_imm _ _ _ | exact zoneAtT_imm _ _ _)) ?_; refine RM.wkW ?_ ?_ (Nat.zero_le _) <;> (first|exact wb0|refine wb1 ?_|refine wb2 ?_ ?_|refine wb3 ?_ ?_ ?_|refine wb4 ?_ ?_ ?_ ?_)
theorem events_body : HasBody Tryz.prog 9 := hB Tryz.func9
end Go.Proofs
