/- Part of the proofs of laws of this seat: contracts and plain lemmas; no condition is added to a statement. -/
import Derived.Test.YtmpoogflpmaijaaGreatAmF
import Derived.Test.YtmpoogflpmaijaaGreatLinC
import Derived.Test.YtmpoogflpmaijaaGreatLinB
set_option linter.unusedSimpArgs false
set_option linter.unusedVariables false
open Go Go.Am
namespace Go.Am
theorem CallE.reads {P : Program} {f : FuncId} {args args' : List S} {r : S} {H : List O} {k : S → List O → Prop} (hb : HasBody P f) (hp : PSpec P f args' r) (ha : BwA H args args') (hr : r.flat = true) (hk : k r H) : CallE P f args H k :=
  ⟨r, H, hb, CSpec.reads hp ha hr ⟨rfl, rfl⟩, fun _ _ _ h => h, hk⟩
end Go.Am
namespace Go.Proofs
theorem fzC_self {id n es : Nat} {g : Nat → Nat → C} {x : Bool} : fzC id n g (.sl id es n n x) = .isl es n g x := by simp [fzC]
set_option maxRecDepth 20000
set_option maxHeartbeats 1000000
theorem cloneIntO_spec (n : Nat) (g : Nat → Nat → C) (t : Bool) (hn : n ≤ 10000000) (him : ∀ i, i < n → ∀ j, j < 1 → (g i j).imm = true) : CSpec Tryz.prog 74 [.c (.isl 1 n g t)] [] fun s H => s = .c (.sl 0 1 n n false) ∧ H = [.arr 3 1 n g] := by
  refine CSpec.rm ?_
  refine ov hΓ Tryz.func74 8 0 [.tmp 2] Tryz.ntmps74 Tryz.results74 ?_
  ((conv=>whnf);(repeat' ((first|refine Nd ?_|refine Hv fun _h=>?_);conv=>whnf)))
  intro b hb
  ((conv=>whnf);(repeat' ((first|refine Nd ?_|refine Hv fun _h=>?_);conv=>whnf)))
  refine Br.of (fun h=>?_) (fun h=>?_)<;>(try simp only [Int.toNat_natCast] at h)<;>(conv=>whnf)
  · ((conv=>whnf);(repeat' ((first|refine Nd ?_|refine Hv fun _h=>?_);conv=>whnf)))
    have : n = 0 := by
      rcases Nat.eq_zero_or_pos n with c | c
      · exact c
      · exact absurd h (by rw [hb c]; simp)
    subst this
    exact ⟨_, _, RM.nilO 3 1 g, rfl, rfl⟩
  · ((conv=>whnf);(repeat' ((first|refine Nd ?_|refine Hv fun _h=>?_);conv=>whnf)))
    refine ⟨_, _, ?_, rfl, rfl⟩
    refine RM.w1 ?_
    intro i hi j hj
    exact WC.eq (by simp [appG]) (him i (by omega) j hj)
theorem cloneIntO_body : HasBody Tryz.prog 74 := hB Tryz.func74
theorem cloneInt_body : HasBody Tryz.prog 74 := hB Tryz.func74
theorem cloneEvO_spec (n : Nat) (g : Nat → Nat → C) (t : Bool) (hn : n ≤ 10000000) (him : ∀ i, i < n → ∀ j, j < 8 → (g i j).imm = true) : CSpec Tryz.prog 54 [.c (.isl 8 n g t)] [] fun s H => s = .c (.sl 0 8 n n false) ∧ H = [.arr 52 8 n g] := by
  refine CSpec.rm ?_
  refine ov hΓ Tryz.func54 8 0 [.tmp 2] Tryz.ntmps54 Tryz.results54 ?_
  ((conv=>whnf);(repeat' ((first|refine Nd ?_|refine Hv fun _h=>?_);conv=>whnf)))
  intro b hb
  ((conv=>whnf);(repeat' ((first|refine Nd ?_|refine Hv fun _h=>?_);conv=>whnf)))
  refine Br.of (fun h=>?_) (fun h=>?_)<;>(try simp only [Int.toNat_natCast] at h)<;>(conv=>whnf)
  · ((conv=>whnf);(repeat' ((first|refine Nd ?_|refine Hv fun _h=>?_);conv=>whnf)))
    have : n = 0 := by
      rcases Nat.eq_zero_or_pos n with c | c
      · exact c
      · exact absurd h (by rw [hb c]; simp)
    subst this
    exact ⟨_, _, RM.nilO 52 8 g, rfl, rfl⟩
  · ((conv=>whnf);(repeat' ((first|refine Nd ?_|refine Hv fun _h=>?_);conv=>whnf)))
    refine ⟨_, _, ?_, rfl, rfl⟩
    refine RM.w1 ?_
    intro i hi j hj
    exact WC.eq (by simp [appG]) (him i (by omega) j hj)
theorem cloneEvO_body : HasBody Tryz.prog 54 := hB Tryz.func54
theorem cloneEv_body : HasBody Tryz.prog 54 := hB Tryz.func54
theorem cloneInt_spec (l : List Int) (hn : l.length ≤ 10000000) : PSpec Tryz.prog 74 [.c (intsC l)] (.c (intsC l)) := PSpec.ofO (cloneIntO_spec _ _ _ hn fun _ _ _ _ => rfl) fun _ _ _ _ => rfl
theorem cloneEv_spec (l : List Evt) (hn : l.length ≤ 10000000) : PSpec Tryz.prog 54 [.c (evC l)] (.c (evC l)) := PSpec.ofO (cloneEvO_spec _ _ _ hn fun _ _ _ _ => evCell_imm _ _) fun _ _ _ _ => evCell_imm _ _
/-! ### the beginning of a search -/
def canOps (l : List Evt) : List Evt := (operationsM l).filter canE
def rowOf (l : List Evt) (ops : List Evt) (b : Evt) : Nat := maskB (fun i => beforeM l (ops.getD i default).serial b.serial) ops.length
def firstOf (l : List Evt) (ops : List Evt) : List Nat := ops.map (rowOf l ops)
def mustOf (ops : List Evt) : Nat := maskB (fun i => mustE (ops.getD i default)) ops.length
def probOf (l : List Evt) : Prob := ⟨canOps l, firstOf l (canOps l), mustOf (canOps l)⟩
def evAlone (e : Evt) : Bool := decide (e.block = 0) && decide (1 ≤ e.kind ∧ e.kind ≤ 3)
def singleM (v : ByteArray) (l : List Evt) : Bool := decide (sizesM [v] l = 0) && allK (fun i => evAlone (l.getD i default)) l.length && decide ((operationsM l).length ≤ 20)
theorem bwStrs {H : List O} {id e n : Nat} {f : List ByteArray} {g : Nat → Nat → C} {x : Bool} (hid : getL H id = some (.arr e 1 n g)) (hf : f.length = n) (hg : ∀ i, i < n → ∀ j, j < 1 → g i j = strG f i j) : Bw H (.sl id 1 n n x) (strsC f) := by
  have e1 : strsC f = .isl 1 n (strG f) false := by unfold strsC; rw [hf]; rfl
  rw [e1]
  exact Bw.sl hid rfl (fun i hi j hj => by rw [hg i hi j hj]; exact Bw.same rfl) (fun q => by cases q)
def startR (v : ByteArray) (l : List Evt) : S × List O := if singleM v l = true then (.t [.inl (.ptr 0 0), .inl (.bool true)], [probO (probOf l) false, seenO [], endsO []]) else (.t [.inl .nilp, .inl (.bool false)], [])
def endsN : O := .mp (.c none) [Z.sl] false [] (fun _ _ => .nils)
/-- The search's objects, the arrays not yet frozen. -/
def startH (pr : Prob) : List O := [.vr [.sl 3 8 pr.ops.length pr.ops.length false, .sl 4 1 pr.first.length pr.first.length false, .int .i64 pr.must, .mpr 1, .mpr 2, .bool false], seenO [], endsN, .arr 52 8 pr.ops.length (evG pr.ops), .arr 3 1 pr.first.length (intsG .i64 (firstL pr.first))]
def startO (v : ByteArray) (l : List Evt) : S × List O := if singleM v l = true then (.t [.inl (.ptr 0 0), .inl (.bool true)], startH (probOf l)) else (.t [.inl .nilp, .inl (.bool false)], [])
theorem startO_spec (v : ByteArray) (l : List Evt) (hl : l.length ≤ 10000000) : CSpec Tryz.prog 47 [.c (.str v), .c (evC l)] [] fun s H => s = (startO v l).1 ∧ H = (startO v l).2 := by
  have no : ∀ {s : S} {H : List O}, singleM v l = false → RM 0 s H (.t [.inl .nilp, .inl (.bool false)]) [] → ∃ s' H'', RM ([] : List O).length s H s' H'' ∧ s' = (startO v l).1 ∧ H'' = (startO v l).2 := fun h r => by
    unfold startO
    rw [if_neg (by rw [h]; simp)]
    exact ⟨_, _, r, rfl, rfl⟩
  refine CSpec.rm ?_
  refine ov hΓ Tryz.func47 135 0 [.tmp 4, .tmp 5] Tryz.ntmps47 Tryz.results47 ?_
  ((conv=>whnf);(repeat' ((first|refine Nd ?_|refine Hv fun _h=>?_);conv=>whnf)))
  refine CallN.reads (r := .c (.int .i64 (sizesM [v] l))) lbase_body (lbase_spec [v] l) ?_ rfl ?_
  · refine BwA.cons (BwS.c (bwStrs (f := [v]) rfl rfl fun i hi j hj => ?_)) (BwA.cons (BwS.c (Bw.same rfl)) BwA.nil)
    have hi0 : i = 0 := by omega
    have hj0 : j = 0 := by omega
    subst hi0 hj0
    rfl
  ((conv=>whnf);(repeat' ((first|refine Nd ?_|refine Hv fun _h=>?_);conv=>whnf)))
  refine Br.of (fun h0=>?_) (fun h0=>?_)<;>(try simp only [Int.toNat_natCast] at h0)<;>(conv=>whnf)
  · ((conv=>whnf);(repeat' ((first|refine Nd ?_|refine Hv fun _h=>?_);conv=>whnf)))
    refine no (by unfold singleM; rw [decide_eq_false h0]; rfl) ?_
    exact RM.i0
  · ((conv=>whnf);(repeat' ((first|refine Nd ?_|refine Hv fun _h=>?_);conv=>whnf)))
    refine Lp.mkK hΓ (ι := Nat) [0, 1, 24, 25] (fun i => [(26, .c (.int .i64 i))]) (fun i => []) (fun i => i ≤ l.length ∧ allK (fun i => evAlone (l.getD i default)) i = true) (fun i => l.length - i) 0 ⟨Nat.zero_le _, rfl⟩ ?_ ?_
    · exact Mv.k0
    · rintro k ⟨hk, hg⟩
      ((conv=>whnf);(repeat' ((first|refine Nd ?_|refine Hv fun _h=>?_);conv=>whnf)))
      refine Br.of (fun h1=>?_) (fun h1=>?_)<;>(try simp only [Int.toNat_natCast] at h1)<;>(conv=>whnf)
      · ((conv=>whnf);(repeat' ((first|refine Nd ?_|refine Hv fun _h=>?_);conv=>whnf)))
        have e0 : (k : Int).toNat = k := by simp
        rw [e0]
        have hk' : k < l.length := by omega
        have hev : evAlone (l.getD k default) = !(bif bif (l.getD k default).block != 0 then true else decide ((l.getD k default).kind < 1) then true else decide ((l.getD k default).kind > 3)) := by
          unfold evAlone
          generalize l.getD k default = x
          by_cases c1 : x.block = 0 <;> by_cases c2 : x.kind < 1 <;> by_cases c3 : x.kind > 3 <;> simp [c1, c2, c3] <;> omega
        cases hc : (bif bif (l.getD k default).block != 0 then true else decide ((l.getD k default).kind < 1) then true else decide ((l.getD k default).kind > 3)) with
        | true =>
          refine Br.yes rfl ?_
          ((conv=>whnf);(repeat' ((first|refine Nd ?_|refine Hv fun _h=>?_);conv=>whnf)))
          refine no (by unfold singleM; rw [allK_false (p := fun i => evAlone (l.getD i default)) (by show evAlone (l.getD k default) = false; rw [hev, hc]; rfl) hk']; simp) ?_
          exact RM.i0
        | false =>
          refine Br.no rfl ?_
          ((conv=>whnf);(repeat' ((first|refine Nd ?_|refine Hv fun _h=>?_);conv=>whnf)))
          refine ⟨k + 1, ⟨by omega, by rw [allK, hg]; show (true && evAlone (l.getD k default)) = true; rw [hev, hc]; rfl⟩, by omega, ?_⟩
          exact Mv.k0
      · ((conv=>whnf);(repeat' ((first|refine Nd ?_|refine Hv fun _h=>?_);conv=>whnf)))
        have hkk : k = l.length := by omega
        subst hkk
        refine CallN.autoQ [] operations_body (operations_spec l hl) ?_; conv=>whnf
        ((conv=>whnf);(repeat' ((first|refine Nd ?_|refine Hv fun _h=>?_);conv=>whnf)))
        rw [← operations_len l]
        refine Br.of (fun h2=>?_) (fun h2=>?_)<;>(try simp only [Int.toNat_natCast] at h2)<;>(conv=>whnf)
        · ((conv=>whnf);(repeat' ((first|refine Nd ?_|refine Hv fun _h=>?_);conv=>whnf)))
          refine no (by unfold singleM; rw [decide_eq_false (by omega : ¬ (operationsM l).length ≤ 20)]; simp) ?_
          exact RM.i0
        · ((conv=>whnf);(repeat' ((first|refine Nd ?_|refine Hv fun _h=>?_);conv=>whnf)))
          have yes : singleM v l = true := by
            unfold singleM
            rw [decide_eq_true h0, hg, decide_eq_true (by omega)]; rfl
          generalize hops : operationsM l = ops at *
          refine Lp.mkK hΓ (ι := Nat) [1, 9, 56, 57] (fun k => [(58, .c (.int .i64 k))]) (fun k => [.arr 52 8 ops.length (evG ops), seenO [], endsN, .vr [.sl 4 8 ((ops.take k).filter canE).length ((ops.take k).filter canE).length false, .nils, .int .i64 (maskB (fun i => mustE (((ops.take k).filter canE).getD i default)) ((ops.take k).filter canE).length), .mpr 1, .mpr 2, .bool false], .arr 52 8 ((ops.take k).filter canE).length (evG ((ops.take k).filter canE))]) (fun k => k ≤ ops.length) (fun k => ops.length - k) 0 (Nat.zero_le _) ?_ ?_
          · refine (Mv.reserveO 3 0 52 8 (evG []) rfl rfl rfl rfl).trans ?_
            simp only [List.take_zero, List.filter_nil, List.length_nil, maskB]
            refine Mv.k4 ?_ ?_ ?_ ?_
            · intro i _ j _; exact WC.eq (ev_re _ _ _) (evCell_imm _ _)
            · intro k j _ hj
              have hj0 : j = 0 := by have : j < 1 := hj; omega
              subst hj0
              exact leF.of_eq (by simp [memK, lget, zeroL, getL, Z.toC])
            · intro k j _ hj
              have hj0 : j = 0 := by have : j < 1 := hj; omega
              subst hj0
              exact leF.of_eq rfl
            · exact fun i hi => absurd hi (Nat.not_lt_zero i)
          · intro k hk
            ((conv=>whnf);(repeat' ((first|refine Nd ?_|refine Hv fun _h=>?_);conv=>whnf)))
            refine Br.of (fun h3=>?_) (fun h3=>?_)<;>(try simp only [Int.toNat_natCast] at h3)<;>(conv=>whnf)
            · ((conv=>whnf);(repeat' ((first|refine Nd ?_|refine Hv fun _h=>?_);conv=>whnf)))
              have e0 : (k : Int).toNat = k := by simp
              rw [e0]
              refine Frc.mk (.a (ops.getD k default).cells) ?_ ?_
              · simp [gets, evG, rowG, Evt.cell, Evt.cells]
              ((conv=>whnf);(repeat' ((first|refine Nd ?_|refine Hv fun _h=>?_);conv=>whnf)))
              have hk' : k < ops.length := by omega
              have hsn : (ops.take (k + 1)).filter canE = if canE (ops.getD k default) = true then (ops.take k).filter canE ++ [ops.getD k default] else (ops.take k).filter canE := take_filter_succ hk'
              have hcl : ((ops.take k).filter canE).length ≤ 20 := Nat.le_trans (List.length_filter_le _ _) (by rw [List.length_take]; omega)
              generalize hx : ops.getD k default = x at *
              generalize hc : (ops.take k).filter canE = c at *
              refine CallN.pureA counts_body (counts_spec x ) ?_
              ((conv=>whnf);(repeat' ((first|refine Nd ?_|refine Hv fun _h=>?_);conv=>whnf)))
              cases hcan : canE x with
              | false =>
                refine Br.no hcan ?_
                ((conv=>whnf);(repeat' ((first|refine Nd ?_|refine Hv fun _h=>?_);conv=>whnf)))
                refine ⟨k + 1, by omega, by omega, ?_⟩
                rw [hsn, if_neg (by rw [hcan]; simp)]
                refine Mv.k2 ?_ ?_
                · exact fun i _ j _ => WC.imm (evCell_imm _ _)
                · exact fun i _ j _ => WC.imm (evCell_imm _ _)
              | true =>
                rw [if_pos hcan] at hsn
                have hm := maskB_snoc (f := mustE) (l := c) (x := x)
                have hms := maskB_small (p := fun i => mustE (c.getD i default)) (k := c.length) (by omega)
                refine Br.yes hcan ?_
                ((conv=>whnf);(repeat' ((first|refine Nd ?_|refine Hv fun _h=>?_);conv=>whnf)))
                cases hmu : mustE x with
                | true =>
                  rw [if_pos hmu] at hm
                  refine Br.yes hmu ?_
                  ((conv=>whnf);(repeat' ((first|refine Nd ?_|refine Hv fun _h=>?_);conv=>whnf)))
                  refine Dr.mk hΓ hMix (by kernel_rfl) ?_; conv=>whnf
                  ((conv=>whnf);(repeat' ((first|refine Nd ?_|refine Hv fun _h=>?_);conv=>whnf)))
                  rw [bits_shl (by omega), bits_or (by omega) (Nat.pow_lt_pow_right (by omega) (by omega)), ← hm]
                  refine Dr.mkE hΓ hMix [] [(0, 7)] (by kernel_rfl) ?_; conv=>whnf
                  ((conv=>whnf);(repeat' ((first|refine Nd ?_|refine Hv fun _h=>?_);conv=>whnf)))
                  refine ⟨k + 1, by omega, by omega, ?_⟩
                  rw [hsn]
                  refine Mv.k2 ?_ ?_
                  · exact fun i _ j _ => WC.imm (evCell_imm _ _)
                  · exact fun i hi j hj => WC.eq (ev_snoc rfl (by simpa using hi) hj) (evCell_imm _ _)
                | false =>
                  rw [if_neg (by rw [hmu]; simp)] at hm
                  refine Br.no hmu ?_
                  ((conv=>whnf);(repeat' ((first|refine Nd ?_|refine Hv fun _h=>?_);conv=>whnf)))
                  refine Dr.mkE hΓ hMix [] [(0, 7)] (by kernel_rfl) ?_; conv=>whnf
                  ((conv=>whnf);(repeat' ((first|refine Nd ?_|refine Hv fun _h=>?_);conv=>whnf)))
                  refine ⟨k + 1, by omega, by omega, ?_⟩
                  rw [hsn]
                  refine Mv.k2 ?_ ?_
                  · exact fun i _ j _ => WC.imm (evCell_imm _ _)
                  · exact fun i hi j hj => WC.eq (ev_snoc rfl (by simpa using hi) hj) (evCell_imm _ _)
            · ((conv=>whnf);(repeat' ((first|refine Nd ?_|refine Hv fun _h=>?_);conv=>whnf)))
              have hkk : k = ops.length := by omega
              subst hkk
              rw [List.take_length]
              have hcl : (ops.filter canE).length ≤ 20 := Nat.le_trans (List.length_filter_le _ _) (by omega)
              have hpr : probOf l = ⟨ops.filter canE, firstOf l (ops.filter canE), mustOf (ops.filter canE)⟩ := by unfold probOf canOps; rw [hops]
              generalize hc : ops.filter canE = c at *
              refine Lp.mkK hΓ (ι := Nat) [1, 9, 96, 97] (fun j => [(98, .c (.int .i64 j))]) (fun j => [.arr 52 8 ops.length (evG ops), seenO [], endsN, .vr [.sl 4 8 c.length c.length false, .sl 5 1 j j false, .int .i64 (mustOf c), .mpr 1, .mpr 2, .bool false], .arr 52 8 c.length (evG c), .arr 3 1 j (intsG .i64 (firstL ((c.take j).map (rowOf l c))))]) (fun j => j ≤ c.length) (fun j => c.length - j) 0 (Nat.zero_le _) ?_ ?_
              · refine (Mv.reserveO 3 1 3 1 (intsG .i64 []) rfl rfl rfl rfl).trans ?_
                refine Mv.k3 ?_ ?_ ?_
                · exact fun i _ j _ => WC.imm (evCell_imm _ _)
                · exact fun i _ j _ => WC.imm (evCell_imm _ _)
                · exact fun i hi => absurd hi (Nat.not_lt_zero i)
              · intro j hj
                ((conv=>whnf);(repeat' ((first|refine Nd ?_|refine Hv fun _h=>?_);conv=>whnf)))
                refine Br.of (fun h4=>?_) (fun h4=>?_)<;>(try simp only [Int.toNat_natCast] at h4)<;>(conv=>whnf)
                · ((conv=>whnf);(repeat' ((first|refine Nd ?_|refine Hv fun _h=>?_);conv=>whnf)))
                  have e0 : (j : Int).toNat = j := by simp
                  rw [e0]
                  have hj' : j < c.length := by omega
                  refine Frc.mk (.a (c.getD j default).cells) ?_ ?_
                  · simp [gets, evG, rowG, Evt.cell, Evt.cells]
                  ((conv=>whnf);(repeat' ((first|refine Nd ?_|refine Hv fun _h=>?_);conv=>whnf)))
                  generalize hb : c.getD j default = b at *
                  refine Lp.mkK hΓ (ι := Nat) [1, 9, 15, 96, 97, 98, 105, 106] (fun i => [(107, .c (.int .i64 i)), (16, .c (.int .i64 (maskB (fun i => beforeM l (c.getD i default).serial b.serial) i)))]) (fun _ => [.arr 52 8 ops.length (evG ops), seenO [], endsN, .vr [.sl 4 8 c.length c.length false, .sl 5 1 j j false, .int .i64 (mustOf c), .mpr 1, .mpr 2, .bool false], .arr 52 8 c.length (evG c), .arr 3 1 j (intsG .i64 (firstL ((c.take j).map (rowOf l c)))), .vr b.cells]) (fun i => i ≤ c.length) (fun i => c.length - i) 0 (Nat.zero_le _) ?_ ?_
                  · refine Mv.mkW ?_ ?_ leN <;> (first|exact wb0|refine wb1 ?_|refine wb2 ?_ ?_|refine wb3 ?_ ?_ ?_|refine wb4 ?_ ?_ ?_ ?_)
                    all_goals first | exact fun i _ j _ => WC.imm (evCell_imm _ _) | exact fun i _ j _ => WC.imm rfl | exact fun i hi => absurd hi (Nat.not_lt_zero i)
                  · intro i hi
                    ((conv=>whnf);(repeat' ((first|refine Nd ?_|refine Hv fun _h=>?_);conv=>whnf)))
                    refine Br.of (fun h5=>?_) (fun h5=>?_)<;>(try simp only [Int.toNat_natCast] at h5)<;>(conv=>whnf)
                    · ((conv=>whnf);(repeat' ((first|refine Nd ?_|refine Hv fun _h=>?_);conv=>whnf)))
                      have e1 : (i : Int).toNat = i := by simp
                      rw [e1]
                      refine Frc.mk (.a (c.getD i default).cells) ?_ ?_
                      · simp [gets, evG, rowG, Evt.cell, Evt.cells]
                      ((conv=>whnf);(repeat' ((first|refine Nd ?_|refine Hv fun _h=>?_);conv=>whnf)))
                      refine CallN.pureA before_body (before_spec l (c.getD i default).serial b.serial ) ?_
                      ((conv=>whnf);(repeat' ((first|refine Nd ?_|refine Hv fun _h=>?_);conv=>whnf)))
                      have hmk : maskB (fun i => beforeM l (c.getD i default).serial b.serial) (i + 1) = if beforeM l (c.getD i default).serial b.serial = true then maskB (fun i => beforeM l (c.getD i default).serial b.serial) i ||| 2 ^ i else maskB (fun i => beforeM l (c.getD i default).serial b.serial) i := rfl
                      have hms := maskB_small (p := fun i => beforeM l (c.getD i default).serial b.serial) (k := i) (by omega)
                      cases hbf : beforeM l (c.getD i default).serial b.serial with
                      | true =>
                        rw [if_pos hbf] at hmk
                        refine Br.yes rfl ?_
                        ((conv=>whnf);(repeat' ((first|refine Nd ?_|refine Hv fun _h=>?_);conv=>whnf)))
                        rw [bits_shl (by omega), bits_or (by omega) (Nat.pow_lt_pow_right (by omega) (by omega)), ← hmk]
                        refine ⟨i + 1, by omega, by omega, ?_⟩
                        refine Mv.mkW ?_ ?_ leN <;> (first|exact wb0|refine wb1 ?_|refine wb2 ?_ ?_|refine wb3 ?_ ?_ ?_|refine wb4 ?_ ?_ ?_ ?_)
                        all_goals first | exact fun i _ j _ => WC.imm (evCell_imm _ _) | exact fun i _ j _ => WC.imm rfl | exact fun i hi => absurd hi (Nat.not_lt_zero i)
                      | false =>
                        rw [if_neg (by rw [hbf]; simp)] at hmk
                        refine Br.no rfl ?_
                        ((conv=>whnf);(repeat' ((first|refine Nd ?_|refine Hv fun _h=>?_);conv=>whnf)))
                        refine ⟨i + 1, by omega, by omega, ?_⟩
                        rw [hmk]
                        refine Mv.mkW ?_ ?_ leN <;> (first|exact wb0|refine wb1 ?_|refine wb2 ?_ ?_|refine wb3 ?_ ?_ ?_|refine wb4 ?_ ?_ ?_ ?_)
                        all_goals first | exact fun i _ j _ => WC.imm (evCell_imm _ _) | exact fun i _ j _ => WC.imm rfl | exact fun i hi => absurd hi (Nat.not_lt_zero i)
                    · ((conv=>whnf);(repeat' ((first|refine Nd ?_|refine Hv fun _h=>?_);conv=>whnf)))
                      have hii : i = c.length := by omega
                      subst hii
                      refine ⟨j + 1, by omega, by omega, ?_⟩
                      have hrow : (c.take (j + 1)).map (rowOf l c) = (c.take j).map (rowOf l c) ++ [rowOf l c b] := by
                        rw [getD_snoc_take hj', hb, List.map_append]; rfl
                      rw [hrow]
                      refine Mv.k3 ?_ ?_ ?_
                      · exact fun i _ j _ => WC.imm (evCell_imm _ _)
                      · exact fun i _ j _ => WC.imm (evCell_imm _ _)
                      · intro i hi k hk
                        have hlj : (firstL ((c.take j).map (rowOf l c))).length = j := by simp [firstL]; omega
                        rw [firstL_snoc]
                        exact WC.eq (intsG_snoc hlj.symm (by omega) hk) rfl
                · ((conv=>whnf);(repeat' ((first|refine Nd ?_|refine Hv fun _h=>?_);conv=>whnf)))
                  have hjj : j = c.length := by omega
                  subst hjj
                  rw [List.take_length]
                  have hst : startO v l = (.t [.inl (.ptr 0 0), .inl (.bool true)], startH ⟨c, firstOf l c, mustOf c⟩) := by
                    unfold startO; rw [if_pos yes, hpr]
                  rw [hst]
                  refine ⟨_, _, ?_, rfl, rfl⟩
                  have hfl : (firstOf l c).length = c.length := by simp [firstOf]
                  simp only [startH, hfl]
                  refine RM.renW [3, 1, 2, 4, 5] (by decide) ?_ ?_ <;> (first|exact wb0|refine wb1 ?_|refine wb2 ?_ ?_|refine wb3 ?_ ?_ ?_|refine wb4 ?_ ?_ ?_ ?_)
                  · exact fun i _ j _ => WC.imm (evCell_imm _ _)
                  · exact fun i _ j _ => WC.imm rfl
theorem start_spec (v : ByteArray) (l : List Evt) (hl : l.length ≤ 10000000) : CSpec Tryz.prog 47 [.c (.str v), .c (evC l)] [] fun s H => s = (startR v l).1 ∧ H = (startR v l).2 := by
  refine CSpec.rm ((startO_spec v l hl).mono ?_)
  rintro s H ⟨rfl, rfl⟩
  unfold startO startR
  cases hs : singleM v l with
  | false => exact ⟨_, _, RM.renW [] (by decide) wb0 wb0, rfl, rfl⟩
  | true =>
    rw [if_pos (rfl : true = true), if_pos (rfl : true = true)]
    refine ⟨_, _, ?_, rfl, rfl⟩
    refine RM.fz 3 rfl (Nat.zero_le _) (fun _ _ _ _ => evCell_imm _ _) ?_
    refine RM.fz 4 rfl (Nat.zero_le _) (fun _ _ _ _ => rfl) ?_
    refine RM.renW [0, 1, 2] (by decide) ?_ ?_ <;> (first|exact wb0|refine wb1 ?_|refine wb2 ?_ ?_|refine wb3 ?_ ?_ ?_|refine wb4 ?_ ?_ ?_ ?_)
    · exact WC.fz2a rfl rfl fun i hi j hj => leF.of_eq rfl
    · exact WC.fz2b rfl rfl (by simp [firstL]) fun i hi j hj => leF.of_eq rfl
    · exact fun k j _ hj => leF.nil rfl
theorem start_body : HasBody Tryz.prog 47 := hB Tryz.func47
end Go.Proofs
