/- Part of the proofs of laws of this seat: contracts and plain lemmas; no condition is added to a statement. -/
import Derived.Test.YtmpoogflpmaijaaGreatAmF
import Derived.Test.YtmpoogflpmaijaaGreatAmG
import Derived.Test.YtmpoogflpmaijaaGreatLi5
set_option linter.unusedSimpArgs false
set_option linter.unusedVariables false
open Go Go.Am
namespace Go.Proofs
set_option maxRecDepth 20000
set_option maxHeartbeats 2000000
theorem fzC_plain {id n : Nat} {g : Nat → Nat → C} {c : C} (h : c.plain = true) : fzC id n g c = c := by cases c <;> first | rfl | cases h
def orderO (T : Nat) (o : List Int) : O := .arr 3 1 T (tightG o.length (intsG .i64 o))
def WalkP (pr : Prob) (one : Bool) (f d : Nat) (v : ByteArray) (o : List Int) (σ : Sg) (T : Nat) : Prop :=
  CSpec Tryz.prog 48 [.c (.ptr 0 0), .a [.int .i64 d, .str v], .c (.sl 3 1 o.length T true)] [probO pr one, seenO σ.1, endsO σ.2, orderO T o]
    fun s H => s = .u ∧ H = [probO pr one, seenO (walkM pr one f d v o σ).1, endsO (walkM pr one f d v o σ).2, orderO T o]
theorem tight_plain (n : Nat) (l : List Int) (i j : Nat) : (tightG n (intsG .i64 l) i j).plain = true := by
  unfold tightG
  split <;> rfl
theorem tight_imm (n : Nat) (l : List Int) (i j : Nat) : (tightG n (intsG .i64 l) i j).imm = true := plain_imm (tight_plain n l i j)
theorem cloneT_spec (T : Nat) (o : List Int) (hT : o.length ≤ T) (ho : o.length ≤ 1000000) : CSpec Tryz.prog 74 [.c (.sl 0 1 o.length T true)] [orderO T o] fun s H => s = .c (intsC o) ∧ H = [orderO T o] := by
  refine CSpec.rm ?_
  refine ov hΓ Tryz.func74 8 1 [.tmp 2] Tryz.ntmps74 Tryz.results74 ?_
  ((conv=>whnf);(repeat' ((first|refine Nd ?_|refine Hv fun _h=>?_);conv=>whnf)))
  intro b hb
  ((conv=>whnf);(repeat' ((first|refine Nd ?_|refine Hv fun _h=>?_);conv=>whnf)))
  refine Br.of (fun h=>?_) (fun h=>?_)<;>(try simp only [Int.toNat_natCast] at h)<;>(conv=>whnf)
  · ((conv=>whnf);(repeat' ((first|refine Nd ?_|refine Hv fun _h=>?_);conv=>whnf)))
    have h0 : o = [] := by
      rcases Nat.eq_zero_or_pos o.length with c | c
      · exact List.length_eq_zero_iff.1 c
      · exact absurd h (by rw [hb c]; simp)
    subst h0
    refine ⟨_, _, ?_, rfl, rfl⟩
    refine RM.w1 ?_
    exact fun i _ j _ => WC.imm (tight_imm _ _ _ _)
  · ((conv=>whnf);(repeat' ((first|refine Nd ?_|refine Hv fun _h=>?_);conv=>whnf)))
    refine ⟨_, _, ?_, rfl, rfl⟩
    rw [Nat.zero_add]
    refine RM.rg 1 rfl (fun i hi j hj => (show _ = intsG .i64 o i j from ?_)) rfl ?_
    · simp only [appG]
      rw [if_neg (Nat.not_lt_zero i), Nat.sub_zero]
      unfold tightG
      rw [if_pos hi]
    refine RM.fz 1 rfl (Nat.le_refl _) (fun _ _ _ _ => rfl) ?_
    refine RM.w1 ?_
    · intro i hi j hj
      have : fzC 1 o.length (intsG .i64 o) (tightG o.length (intsG .i64 o) i j) = tightG o.length (intsG .i64 o) i j := by unfold tightG; split <;> rfl
      rw [this]
      exact WC.imm (tight_imm _ _ _ _)
theorem cloneT_body : HasBody Tryz.prog 74 := hB Tryz.func74
theorem cut_tight {o : List Int} {s : Int} {t : List C} (i j : Nat) (hj : j < 1) : cutG (tightG o.length (intsG .i64 o)) o.length 1 (flatG 1 (C.int .i64 s :: t)) i j = tightG (o ++ [s]).length (intsG .i64 (o ++ [s])) i j := by
  have hj0 : j = 0 := by omega
  subst hj0
  simp only [cutG, tightG, List.length_append, List.length_singleton]
  by_cases c1 : i < o.length
  · rw [if_pos c1, if_pos c1, if_pos (by omega)]
    simp [intsG, rowG, intC, List.getD, List.getElem?_append_left c1]
  · rw [if_neg c1]
    by_cases c2 : i < o.length + 1
    · have : i = o.length := by omega
      subst this
      rw [if_pos c2, if_pos c2]
      simp [flatG, lget, getL, intsG, rowG, intC, List.getD]
    · rw [if_neg c2, if_neg c1, if_neg c2]
theorem walk_plain {pr : Prob} {one : Bool} {a : List (Nat × ByteArray)} {b : List (ByteArray × List Int)} {T : Nat} {o : List Int} : PlainH [probO pr one, seenO a, endsO b, orderO T o] := PlainH.vr (PlainH.mp (PlainH.mp (PlainH.arr (fun i j => tight_plain _ _ i j) PlainH.nil)))
theorem walk_body : HasBody Tryz.prog 48 := hB Tryz.func48
theorem app_tight {n : Nat} {g g2 : Nat → Nat → C} {i j : Nat} : appG (tightG n g) n g2 i j = appG g n g2 i j := by
  unfold appG tightG
  by_cases c : i < n
  · rw [if_pos c, if_pos c, if_pos c]
  · rw [if_neg c, if_neg c]
theorem tight_less {ρ : Nat → Nat} {n : Nat} {o : List Int} {s : Int} (i j : Nat) : WC ρ n (tightG (o ++ [s]).length (intsG .i64 (o ++ [s])) i j) (tightG o.length (intsG .i64 o) i j) := by
  by_cases c : i < o.length
  · refine WC.eq ?_ (tight_imm _ _ _ _)
    unfold tightG
    rw [if_pos c, if_pos (by simp; omega)]
    simp [intsG, rowG, intC, List.getD, List.getElem?_append_left c]
  · have : tightG o.length (intsG .i64 o) i j = .junk := by unfold tightG; rw [if_neg c]
    rw [this]
    exact WC.junk
theorem walk_plain2 {pr : Prob} {one : Bool} {a : List (Nat × ByteArray)} {b : List (ByteArray × List Int)} {T : Nat} {o : List Int} : PlainH [probO pr one, seenO a, endsO b, .arr 3 1 T (tightG o.length (intsG .i64 o))] := PlainH.vr (PlainH.mp (PlainH.mp (PlainH.arr (fun i j => tight_plain _ _ i j) PlainH.nil)))
theorem walk_fresh {pr : Prob} {one : Bool} {f d : Nat} {v : ByteArray} {o : List Int} {σ : Sg} (h : ∀ T, o.length ≤ T → T ≤ maxLen → WalkP pr one f d v o σ T) :
    CSpec Tryz.prog 48 [.c (.ptr 0 0), .a [.int .i64 d, .str v], .c (.sl 3 1 o.length o.length false)] [probO pr one, seenO σ.1, endsO σ.2, .arr 3 1 o.length (intsG .i64 o)]
      fun s H => s = .u ∧ H = [probO pr one, seenO (walkM pr one f d v o σ).1, endsO (walkM pr one f d v o σ).2, .arr 3 1 o.length (tightG o.length (intsG .i64 o))] :=
  CSpec.fresh (B := [probO pr one, seenO σ.1, endsO σ.2]) (B' := [probO pr one, seenO (walkM pr one f d v o σ).1, endsO (walkM pr one f d v o σ).2]) 2 rfl (fun _ _ => rfl) rfl
    (fun T g => (WH.cons (WO.vr (WL.cons (WC.imm rfl) (WL.cons (WC.imm rfl) (WL.cons (WC.imm rfl) (WL.cons (WC.mpr rfl leN) (WL.cons (WC.mpr rfl leN) (WL.cons (WC.imm rfl) WL.nil))))))) (WH.cons WO.mpS (WH.cons WO.mpS WH.nil)) : WH idN 3 _ _).out)
    fun T h1 h2 => ⟨_, rfl, h T h1 h2⟩
theorem walk_step (pr : Prob) (one : Bool) (hn : pr.ops.length ≤ 20) (hf : pr.first.length = pr.ops.length) (hfs : ∀ i, pr.first.getD i default < 2 ^ 62) (hm : pr.must < 2 ^ 62) (f : Nat)
    (ih : ∀ (d : Nat) (v : ByteArray) (o : List Int) (σ : Sg) (T : Nat), rankN d pr.ops.length < f → d < 2 ^ 62 → o.length + rankN d pr.ops.length ≤ 20 → o.length ≤ T → T ≤ maxLen → WalkP pr one f d v o σ T)
    (d : Nat) (v : ByteArray) (o : List Int) (σ : Sg) (T : Nat) (h1 : rankN d pr.ops.length < f + 1) (hd : d < 2 ^ 62) (ho : o.length + rankN d pr.ops.length ≤ 20) (hT : o.length ≤ T) (hT2 : T ≤ maxLen) : WalkP pr one (f + 1) d v o σ T := by
  unfold WalkP
  rw [walkM_succ]
  refine CSpec.rm ?_
  refine ov hΓ Tryz.func48 134 4 [] Tryz.ntmps48 Tryz.results48 ?_
  ((conv=>whnf);(repeat' ((first|refine Nd ?_|refine Hv fun _h=>?_);conv=>whnf)))
  refine Dr.mk hΓ hMix (by kernel_rfl) ?_; conv=>whnf
  ((conv=>whnf);(repeat' ((first|refine Nd ?_|refine Hv fun _h=>?_);conv=>whnf)))
  have hcond : (bif memK (σ.1.map keyD) (Key.a [KC.i IntKind.i64 d, KC.s v]) then true else bif one then decide (((σ.2.map keyN).length : Int) > 0) else false) = (decide ((d, v) ∈ σ.1) || (one && decide (0 < σ.2.length))) := by
    have e1 : memK (σ.1.map keyD) (Key.a [KC.i IntKind.i64 d, KC.s v]) = decide ((d, v) ∈ σ.1) := mem_keyD (p := (d, v))
    rw [e1, List.length_map]
    cases decide ((d, v) ∈ σ.1) <;> cases one <;> simp
  cases hc : (decide ((d, v) ∈ σ.1) || (one && decide (0 < σ.2.length))) with
  | true =>
    refine Br.yes (hcond.trans hc) ?_
    ((conv=>whnf);(repeat' ((first|refine Nd ?_|refine Hv fun _h=>?_);conv=>whnf)))
    refine ⟨.u, _, ?_, rfl, rfl⟩
    rw [if_pos rfl]
    refine RM.w1 ?_
    exact fun i _ j _ => WC.imm (tight_imm _ _ _ _)
  | false =>
    have hnm : (d, v) ∉ σ.1 := by
      intro q
      rw [decide_eq_true q] at hc; cases hc
    refine Br.no (hcond.trans hc) ?_
    ((conv=>whnf);(repeat' ((first|refine Nd ?_|refine Hv fun _h=>?_);conv=>whnf)))
    refine Dr.mk hΓ hMix (by kernel_rfl) ?_; conv=>whnf
    ((conv=>whnf);(repeat' ((first|refine Nd ?_|refine Hv fun _h=>?_);conv=>whnf)))
    refine Dr.mk hΓ hMix (by kernel_rfl) ?_; conv=>whnf
    ((conv=>whnf);(repeat' ((first|refine Nd ?_|refine Hv fun _h=>?_);conv=>whnf)))
    refine Dr.mk hΓ hMix (by kernel_rfl) ?_; conv=>whnf
    ((conv=>whnf);(repeat' ((first|refine Nd ?_|refine Hv fun _h=>?_);conv=>whnf)))
    have hcond2 : (bif !memK (σ.2.map keyN) (Key.c (KC.s v)) then IntKind.i64.wrap (BitVec.ofInt IntKind.i64.bits (d : Int) &&& BitVec.ofInt IntKind.i64.bits (pr.must : Int)).toNat == (pr.must : Int) else false) = (!decide (v ∈ σ.2.map Prod.fst) && decide (d &&& pr.must = pr.must)) := by
      rw [mem_keyN, bits_and (by omega) (by omega)]
      cases decide (v ∈ σ.2.map Prod.fst) with
      | true => rfl
      | false =>
        show (((d &&& pr.must : Nat) : Int) == (pr.must : Int)) = (true && decide (d &&& pr.must = pr.must))
        rw [Bool.true_and, Bool.eq_iff_iff, decide_eq_true_eq, beq_iff_eq]
        omega
    have hent : enterW pr d v o σ = (σ.1 ++ [(d, v)], if (!decide (v ∈ σ.2.map Prod.fst) && decide (d &&& pr.must = pr.must)) = true then σ.2 ++ [(v, o)] else σ.2) := rfl
    -- the loop, from what the entry has made
    cases hc2 : (!decide (v ∈ σ.2.map Prod.fst) && decide (d &&& pr.must = pr.must)) with
    | true =>
      refine Br.yes (hcond2.trans hc2) ?_
      ((conv=>whnf);(repeat' ((first|refine Nd ?_|refine Hv fun _h=>?_);conv=>whnf)))
      refine Dr.mkE hΓ hMix [74] [(0, 7), (1, 7), (2, 7), (3, 7), (4, 7), (5, 7)] (by kernel_rfl) ?_; conv=>whnf
      ((conv=>whnf);(repeat' ((first|refine Nd ?_|refine Hv fun _h=>?_);conv=>whnf)))
      refine CallE.autoQ [3] cloneT_body (cloneT_spec T o hT (by omega)) ?_ (h := WR.cons rfl (WO.arr rfl fun i _ j _ => WC.imm (tight_imm _ _ _ _)) WR.nil)
      ((conv=>whnf);(repeat' ((first|refine Nd ?_|refine Hv fun _h=>?_);conv=>whnf)))
      rw [hc2, if_pos rfl] at hent
      generalize hσ : enterW pr d v o σ = σ0 at *
      refine Lp.mkK hΓ (ι := Nat) [0, 2, 4, 74, 75] (fun k => [(76, .c (.int .i64 k))]) (fun k => [probO pr one, seenO (loopW (tryW pr one f d v o) σ0 k).1, endsO (loopW (tryW pr one f d v o) σ0 k).2, orderO T o, .vr [.int .i64 d, .str v]]) (fun k => k ≤ pr.ops.length) (fun k => pr.ops.length - k) 0 (Nat.zero_le _) ?_ ?_
      · rw [show loopW (tryW pr one f d v o) σ0 0 = σ0 from rfl, hent]
        refine Mv.k3 ?_ ?_ ?_
        · exact WO.seen_new hnm
        · exact WO.ends_new (fun q => by rw [decide_eq_true q] at hc2; cases hc2)
        · first | exact fun i _ j _ => WC.imm (tight_imm _ _ _ _) | exact fun i _ j _ => WC.eq (reC_plain (tight_plain _ _ _ _)) (tight_imm _ _ _ _)
      · intro k hk
        ((conv=>whnf);(repeat' ((first|refine Nd ?_|refine Hv fun _h=>?_);conv=>whnf)))
        refine Br.of (fun h3=>?_) (fun h3=>?_)<;>(try simp only [Int.toNat_natCast] at h3)<;>(conv=>whnf)
        · ((conv=>whnf);(repeat' ((first|refine Nd ?_|refine Hv fun _h=>?_);conv=>whnf)))
          have e0 : (k : Int).toNat = k := by simp
          rw [e0]
          have hk' : k < pr.ops.length := by omega
          have hfl : (firstL pr.first).length = pr.ops.length := firstL_len.trans hf
          refine Dr.mk hΓ hMix (by kernel_rfl) ?_; conv=>whnf
          ((conv=>whnf);(repeat' ((first|refine Nd ?_|refine Hv fun _h=>?_);conv=>whnf)))
          rw [testC (by omega) hd, e0, firstL_get (by omega), diffC (hfs k) hd]
          have htb : stepI pr d v k = (!d.testBit k && decide (mdiff (pr.first.getD k default) d = 0) && stepOk [v] (pr.ops.getD k default)) := rfl
          have hlw : loopW (tryW pr one f d v o) σ0 (k + 1) = tryW pr one f d v o k (loopW (tryW pr one f d v o) σ0 k) := rfl
          generalize hx : pr.ops.getD k default = x at *
          generalize hS : loopW (tryW pr one f d v o) σ0 k = W at *
          cases hA : (!d.testBit k && decide (mdiff (pr.first.getD k default) d = 0)) with
          | false =>
            refine Br.yes ?_ ?_
            · revert hA
              cases d.testBit k <;> cases decide (mdiff (pr.first.getD k default) d = 0) <;> simp
            ((conv=>whnf);(repeat' ((first|refine Nd ?_|refine Hv fun _h=>?_);conv=>whnf)))
            have hsk : loopW (tryW pr one f d v o) σ0 (k + 1) = W := by
              rw [hlw]; unfold tryW; rw [htb, hA, if_neg (by simp)]
            refine ⟨k + 1, by omega, by omega, ?_⟩
            rw [hsk]
            refine Mv.k1 ?_
            · exact fun i _ j _ => WC.imm (tight_imm _ _ _ _)
          | true =>
            rw [Bool.and_eq_true, Bool.not_eq_true', decide_eq_true_eq] at hA
            refine Br.no ?_ ?_
            · rw [hA.1, decide_eq_true hA.2]; rfl
            ((conv=>whnf);(repeat' ((first|refine Nd ?_|refine Hv fun _h=>?_);conv=>whnf)))
            refine CallN.fzK 6 [0, 2, 4, 8, 9, 74, 75, 76] [] [probO pr one, seenO W.1, endsO W.2, orderO T o, .vr [.int .i64 d, .str v], .vr x.cells, .dead] [.c (strsC [v]), .a [.int .i64 x.kind, .int .i64 x.block, .str x.data]] rfl leN ?_ ?_ ?_ ?_ leN ?_
            · intro i hi j hj
              have hi0 : i = 0 := by omega
              have hj0 : j = 0 := by have : j < 1 := hj; omega
              subst hi0 hj0
              rfl
            · refine wb1 ?_
              exact fun i _ j _ => WC.eq (fzC_plain (tight_plain _ _ _ _)) (tight_imm _ _ _ _)
            · exact wb0
            · refine wb1 ?_
              refine fzStrs (f := [v]) rfl fun i hi j hj => ?_
              have hi0 : i = 0 := by omega
              have hj0 : j = 0 := by omega
              subst hi0 hj0
              rfl
            · refine CallN.pureA apply_body (apply_spec [v] x.kind x.block x.data (by simp) ) ?_
              ((conv=>whnf);(repeat' ((first|refine Nd ?_|refine Hv fun _h=>?_);conv=>whnf)))
              have hso : stepOk [v] x = !(bif x.ret then (decide (appE ([v] : List ByteArray).length x.kind x.block x.data = x.err) && (decide (appD [v] x.kind x.block x.data = x.rdata) && true)) == false else false) := by
                unfold stepOk
                rw [Bool.and_true]
                cases x.ret <;> simp
              cases hB : (bif x.ret then (decide (appE ([v] : List ByteArray).length x.kind x.block x.data = x.err) && (decide (appD [v] x.kind x.block x.data = x.rdata) && true)) == false else false) with
              | true =>
                refine Br.yes rfl ?_
                ((conv=>whnf);(repeat' ((first|refine Nd ?_|refine Hv fun _h=>?_);conv=>whnf)))
                have hsk : loopW (tryW pr one f d v o) σ0 (k + 1) = W := by
                  rw [hlw]; unfold tryW; rw [htb, hso, hB, hx, if_neg (by simp)]
                refine ⟨k + 1, by omega, by omega, ?_⟩
                rw [hsk]
                refine Mv.k1 ?_
                · exact fun i _ j _ => WC.imm (tight_imm _ _ _ _)
              | false =>
                refine Br.no rfl ?_
                ((conv=>whnf);(repeat' ((first|refine Nd ?_|refine Hv fun _h=>?_);conv=>whnf)))
                have hsk : loopW (tryW pr one f d v o) σ0 (k + 1) = walkM pr one f (d ||| 2 ^ k) (nextV v x) (o ++ [x.serial]) W := by
                  rw [hlw]; unfold tryW; rw [htb, hso, hB, hx, hA.1, decide_eq_true hA.2, if_pos (by rfl)]
                have hrk := rankN_or hA.1 pr.ops.length hk'
                have hal : (appB [v] x.kind x.block x.data).length = 1 := by rw [appB_len]; rfl
                have hor := orC (d := d) (k := k) (by omega) hd
                have hdo : d ||| 2 ^ k < 2 ^ 62 := Nat.or_lt_two_pow hd (Nat.pow_lt_pow_right (by omega) (by omega))
                have hih := fun T' h1 h2 => ih (d ||| 2 ^ k) (nextV v x) (o ++ [x.serial]) W T' (by omega) hdo (by simp; omega) h1 h2
                by_cases hTT : o.length < T
                · refine Dr.mkE hΓ hMix [48, 8589934640, 4294967297] [(0, 14), (1, 14), (2, 14), (3, 14), (4, 14), (5, 14), (6, 14), (7, 14), (8, 14), (9, 14)] (by kernel_rfl) ?_; conv=>whnf
                  ((conv=>whnf);(repeat' ((first|refine Nd ?_|refine Hv fun _h=>?_);conv=>whnf)))
                  refine CallF.autoI [0, 1, 2, 3] walk_body (hih T (by simp; omega) hT2) walk_plain ?_ (h := ?_) (ha := ?_)
                  rotate_left
                  · refine wb1 ?_
                    · exact fun i _ j hj => WC.eq (cut_tight i j hj) (tight_imm _ _ _ _)
                  · exact WB.cons (WS.c (WC.ptr rfl leN)) (WB.cons (WS.a (WL.cons (WC.int hor) (WL.cons (WC.str rfl) WL.nil))) (WB.cons (WS.c (WC.sl rfl leN (by simp) (by omega) (fun q => q))) WB.nil))
                  ((conv=>whnf);(repeat' ((first|refine Nd ?_|refine Hv fun _h=>?_);conv=>whnf)))
                  refine ⟨k + 1, by omega, by omega, ?_⟩
                  rw [hsk]
                  refine Mv.k1 ?_
                  · exact fun i _ j _ => tight_less i j
                · have hTe : T = o.length := by omega
                  subst hTe
                  refine Dr.mkE hΓ hMix [48, 8589934640, 4294967297, 4294967298] [(0, 14), (1, 14), (2, 14), (3, 14), (4, 14), (5, 14), (6, 14), (7, 14), (8, 14), (9, 14)] (by kernel_rfl) ?_; conv=>whnf
                  ((conv=>whnf);(repeat' ((first|refine Nd ?_|refine Hv fun _h=>?_);conv=>whnf)))
                  refine CallF.autoI [0, 1, 2, 9] walk_body (walk_fresh fun T' h1 h2 => hih T' h1 h2) walk_plain2 ?_ (h := ?_) (ha := ?_)
                  rotate_left
                  · refine wb1 ?_
                    · exact fun i hi j hj => WC.eq (app_tight.trans (intsG_snoc rfl (by simpa using hi) hj)) rfl
                  · exact WB.cons (WS.c (WC.ptr rfl leN)) (WB.cons (WS.a (WL.cons (WC.int hor) (WL.cons (WC.str rfl) WL.nil))) (WB.cons (WS.c (WC.sl rfl leN (by simp) (by simp) (fun q => q))) WB.nil))
                  ((conv=>whnf);(repeat' ((first|refine Nd ?_|refine Hv fun _h=>?_);conv=>whnf)))
                  refine ⟨k + 1, by omega, by omega, ?_⟩
                  rw [hsk]
                  refine Mv.k1 ?_
                  · exact fun i _ j _ => WC.imm (tight_imm _ _ _ _)
        · ((conv=>whnf);(repeat' ((first|refine Nd ?_|refine Hv fun _h=>?_);conv=>whnf)))
          have hkk : k = pr.ops.length := by omega
          subst hkk
          rw [if_neg (by simp)]
          refine ⟨.u, _, ?_, rfl, rfl⟩
          refine RM.w1 ?_
          exact fun i _ j _ => WC.imm (tight_imm _ _ _ _)
    | false =>
      refine Br.no (hcond2.trans hc2) ?_
      ((conv=>whnf);(repeat' ((first|refine Nd ?_|refine Hv fun _h=>?_);conv=>whnf)))
      rw [hc2, if_neg (by simp)] at hent
      generalize hσ : enterW pr d v o σ = σ0 at *
      refine Lp.mkK hΓ (ι := Nat) [0, 2, 4, 74, 75] (fun k => [(76, .c (.int .i64 k))]) (fun k => [probO pr one, seenO (loopW (tryW pr one f d v o) σ0 k).1, endsO (loopW (tryW pr one f d v o) σ0 k).2, orderO T o, .vr [.int .i64 d, .str v]]) (fun k => k ≤ pr.ops.length) (fun k => pr.ops.length - k) 0 (Nat.zero_le _) ?_ ?_
      · rw [show loopW (tryW pr one f d v o) σ0 0 = σ0 from rfl, hent]
        refine Mv.k2 ?_ ?_
        · exact WO.seen_new hnm
        · first | exact fun i _ j _ => WC.imm (tight_imm _ _ _ _) | exact fun i _ j _ => WC.eq (reC_plain (tight_plain _ _ _ _)) (tight_imm _ _ _ _)
      · intro k hk
        ((conv=>whnf);(repeat' ((first|refine Nd ?_|refine Hv fun _h=>?_);conv=>whnf)))
        refine Br.of (fun h3=>?_) (fun h3=>?_)<;>(try simp only [Int.toNat_natCast] at h3)<;>(conv=>whnf)
        · ((conv=>whnf);(repeat' ((first|refine Nd ?_|refine Hv fun _h=>?_);conv=>whnf)))
          have e0 : (k : Int).toNat = k := by simp
          rw [e0]
          have hk' : k < pr.ops.length := by omega
          have hfl : (firstL pr.first).length = pr.ops.length := firstL_len.trans hf
          refine Dr.mk hΓ hMix (by kernel_rfl) ?_; conv=>whnf
          ((conv=>whnf);(repeat' ((first|refine Nd ?_|refine Hv fun _h=>?_);conv=>whnf)))
          rw [testC (by omega) hd, e0, firstL_get (by omega), diffC (hfs k) hd]
          have htb : stepI pr d v k = (!d.testBit k && decide (mdiff (pr.first.getD k default) d = 0) && stepOk [v] (pr.ops.getD k default)) := rfl
          have hlw : loopW (tryW pr one f d v o) σ0 (k + 1) = tryW pr one f d v o k (loopW (tryW pr one f d v o) σ0 k) := rfl
          generalize hx : pr.ops.getD k default = x at *
          generalize hS : loopW (tryW pr one f d v o) σ0 k = W at *
          cases hA : (!d.testBit k && decide (mdiff (pr.first.getD k default) d = 0)) with
          | false =>
            refine Br.yes ?_ ?_
            · revert hA
              cases d.testBit k <;> cases decide (mdiff (pr.first.getD k default) d = 0) <;> simp
            ((conv=>whnf);(repeat' ((first|refine Nd ?_|refine Hv fun _h=>?_);conv=>whnf)))
            have hsk : loopW (tryW pr one f d v o) σ0 (k + 1) = W := by
              rw [hlw]; unfold tryW; rw [htb, hA, if_neg (by simp)]
            refine ⟨k + 1, by omega, by omega, ?_⟩
            rw [hsk]
            refine Mv.k1 ?_
            · exact fun i _ j _ => WC.imm (tight_imm _ _ _ _)
          | true =>
            rw [Bool.and_eq_true, Bool.not_eq_true', decide_eq_true_eq] at hA
            refine Br.no ?_ ?_
            · rw [hA.1, decide_eq_true hA.2]; rfl
            ((conv=>whnf);(repeat' ((first|refine Nd ?_|refine Hv fun _h=>?_);conv=>whnf)))
            refine CallN.fzK 6 [0, 2, 4, 8, 9, 74, 75, 76] [] [probO pr one, seenO W.1, endsO W.2, orderO T o, .vr [.int .i64 d, .str v], .vr x.cells, .dead] [.c (strsC [v]), .a [.int .i64 x.kind, .int .i64 x.block, .str x.data]] rfl leN ?_ ?_ ?_ ?_ leN ?_
            · intro i hi j hj
              have hi0 : i = 0 := by omega
              have hj0 : j = 0 := by have : j < 1 := hj; omega
              subst hi0 hj0
              rfl
            · refine wb1 ?_
              exact fun i _ j _ => WC.eq (fzC_plain (tight_plain _ _ _ _)) (tight_imm _ _ _ _)
            · exact wb0
            · refine wb1 ?_
              refine fzStrs (f := [v]) rfl fun i hi j hj => ?_
              have hi0 : i = 0 := by omega
              have hj0 : j = 0 := by omega
              subst hi0 hj0
              rfl
            · refine CallN.pureA apply_body (apply_spec [v] x.kind x.block x.data (by simp) ) ?_
              ((conv=>whnf);(repeat' ((first|refine Nd ?_|refine Hv fun _h=>?_);conv=>whnf)))
              have hso : stepOk [v] x = !(bif x.ret then (decide (appE ([v] : List ByteArray).length x.kind x.block x.data = x.err) && (decide (appD [v] x.kind x.block x.data = x.rdata) && true)) == false else false) := by
                unfold stepOk
                rw [Bool.and_true]
                cases x.ret <;> simp
              cases hB : (bif x.ret then (decide (appE ([v] : List ByteArray).length x.kind x.block x.data = x.err) && (decide (appD [v] x.kind x.block x.data = x.rdata) && true)) == false else false) with
              | true =>
                refine Br.yes rfl ?_
                ((conv=>whnf);(repeat' ((first|refine Nd ?_|refine Hv fun _h=>?_);conv=>whnf)))
                have hsk : loopW (tryW pr one f d v o) σ0 (k + 1) = W := by
                  rw [hlw]; unfold tryW; rw [htb, hso, hB, hx, if_neg (by simp)]
                refine ⟨k + 1, by omega, by omega, ?_⟩
                rw [hsk]
                refine Mv.k1 ?_
                · exact fun i _ j _ => WC.imm (tight_imm _ _ _ _)
              | false =>
                refine Br.no rfl ?_
                ((conv=>whnf);(repeat' ((first|refine Nd ?_|refine Hv fun _h=>?_);conv=>whnf)))
                have hsk : loopW (tryW pr one f d v o) σ0 (k + 1) = walkM pr one f (d ||| 2 ^ k) (nextV v x) (o ++ [x.serial]) W := by
                  rw [hlw]; unfold tryW; rw [htb, hso, hB, hx, hA.1, decide_eq_true hA.2, if_pos (by rfl)]
                have hrk := rankN_or hA.1 pr.ops.length hk'
                have hal : (appB [v] x.kind x.block x.data).length = 1 := by rw [appB_len]; rfl
                have hor := orC (d := d) (k := k) (by omega) hd
                have hdo : d ||| 2 ^ k < 2 ^ 62 := Nat.or_lt_two_pow hd (Nat.pow_lt_pow_right (by omega) (by omega))
                have hih := fun T' h1 h2 => ih (d ||| 2 ^ k) (nextV v x) (o ++ [x.serial]) W T' (by omega) hdo (by simp; omega) h1 h2
                by_cases hTT : o.length < T
                · refine Dr.mkE hΓ hMix [48, 8589934640, 4294967297] [(0, 14), (1, 14), (2, 14), (3, 14), (4, 14), (5, 14), (6, 14), (7, 14), (8, 14), (9, 14)] (by kernel_rfl) ?_; conv=>whnf
                  ((conv=>whnf);(repeat' ((first|refine Nd ?_|refine Hv fun _h=>?_);conv=>whnf)))
                  refine CallF.autoI [0, 1, 2, 3] walk_body (hih T (by simp; omega) hT2) walk_plain ?_ (h := ?_) (ha := ?_)
                  rotate_left
                  · refine wb1 ?_
                    · exact fun i _ j hj => WC.eq (cut_tight i j hj) (tight_imm _ _ _ _)
                  · exact WB.cons (WS.c (WC.ptr rfl leN)) (WB.cons (WS.a (WL.cons (WC.int hor) (WL.cons (WC.str rfl) WL.nil))) (WB.cons (WS.c (WC.sl rfl leN (by simp) (by omega) (fun q => q))) WB.nil))
                  ((conv=>whnf);(repeat' ((first|refine Nd ?_|refine Hv fun _h=>?_);conv=>whnf)))
                  refine ⟨k + 1, by omega, by omega, ?_⟩
                  rw [hsk]
                  refine Mv.k1 ?_
                  · exact fun i _ j _ => tight_less i j
                · have hTe : T = o.length := by omega
                  subst hTe
                  refine Dr.mkE hΓ hMix [48, 8589934640, 4294967297, 4294967298] [(0, 14), (1, 14), (2, 14), (3, 14), (4, 14), (5, 14), (6, 14), (7, 14), (8, 14), (9, 14)] (by kernel_rfl) ?_; conv=>whnf
                  ((conv=>whnf);(repeat' ((first|refine Nd ?_|refine Hv fun _h=>?_);conv=>whnf)))
                  refine CallF.autoI [0, 1, 2, 9] walk_body (walk_fresh fun T' h1 h2 => hih T' h1 h2) walk_plain2 ?_ (h := ?_) (ha := ?_)
                  rotate_left
                  · refine wb1 ?_
                    · exact fun i hi j hj => WC.eq (app_tight.trans (intsG_snoc rfl (by simpa using hi) hj)) rfl
                  · exact WB.cons (WS.c (WC.ptr rfl leN)) (WB.cons (WS.a (WL.cons (WC.int hor) (WL.cons (WC.str rfl) WL.nil))) (WB.cons (WS.c (WC.sl rfl leN (by simp) (by simp) (fun q => q))) WB.nil))
                  ((conv=>whnf);(repeat' ((first|refine Nd ?_|refine Hv fun _h=>?_);conv=>whnf)))
                  refine ⟨k + 1, by omega, by omega, ?_⟩
                  rw [hsk]
                  refine Mv.k1 ?_
                  · exact fun i _ j _ => WC.imm (tight_imm _ _ _ _)
        · ((conv=>whnf);(repeat' ((first|refine Nd ?_|refine Hv fun _h=>?_);conv=>whnf)))
          have hkk : k = pr.ops.length := by omega
          subst hkk
          rw [if_neg (by simp)]
          refine ⟨.u, _, ?_, rfl, rfl⟩
          refine RM.w1 ?_
          exact fun i _ j _ => WC.imm (tight_imm _ _ _ _)
theorem walk_spec (pr : Prob) (one : Bool) (hn : pr.ops.length ≤ 20) (hf : pr.first.length = pr.ops.length) (hfs : ∀ i, pr.first.getD i default < 2 ^ 62) (hm : pr.must < 2 ^ 62) : ∀ (f d : Nat) (v : ByteArray) (o : List Int) (σ : Sg) (T : Nat),
    rankN d pr.ops.length < f → d < 2 ^ 62 → o.length + rankN d pr.ops.length ≤ 20 → o.length ≤ T → T ≤ maxLen → WalkP pr one f d v o σ T
  | 0, d, v, o, σ, T, h, _, _, _, _ => absurd h (Nat.not_lt_zero _)
  | f + 1, d, v, o, σ, T, h1, h2, h3, h4, h5 => walk_step pr one hn hf hfs hm f (walk_spec pr one hn hf hfs hm f) d v o σ T h1 h2 h3 h4 h5
/-- The search, from its beginning. -/
theorem walk_nil_spec (pr : Prob) (one : Bool) (v : ByteArray) (hn : pr.ops.length ≤ 20) (hf : pr.first.length = pr.ops.length) (hfs : ∀ i, pr.first.getD i default < 2 ^ 62) (hm : pr.must < 2 ^ 62) :
    CSpec Tryz.prog 48 [.c (.ptr 0 0), .a [.int .i64 0, .str v], .c .nils] [probO pr one, seenO [], endsO []]
      fun s H => s = .u ∧ H = [probO pr one, seenO (walkM pr one 21 0 v [] ([], [])).1, endsO (walkM pr one 21 0 v [] ([], [])).2, orderO 0 []] :=
  CSpec.nilArr 2 3 (tightG 0 (intsG .i64 [])) rfl rfl (walk_spec pr one hn hf hfs hm 21 0 v [] ([], []) 0 (by have := rankN_le 0 pr.ops.length; omega) (by omega) (by have := rankN_le 0 pr.ops.length; simp; omega) (Nat.zero_le _) (Nat.zero_le _))
end Go.Proofs
