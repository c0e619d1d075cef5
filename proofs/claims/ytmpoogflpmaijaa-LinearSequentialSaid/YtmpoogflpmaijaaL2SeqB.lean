/- Part of the proofs of laws of this seat: contracts and plain lemmas; no condition is added to a statement. -/
import Derived.Test.YtmpoogflpmaijaaAmGB
import Derived.Test.YtmpoogflpmaijaaLi8B
import Derived.Test.YtmpoogflpmaijaaLi9B
import Derived.Test.YtmpoogflpmaijaaLinDB
set_option linter.unusedSimpArgs false
set_option linter.unusedVariables false
open Go Go.Am
namespace Go.Proofs
set_option maxRecDepth 20000
theorem ev_snoc2 {l : List Evt} {x y : Evt} {t : List C} {i j : Nat} (hi : i < l.length + 2) (hj : j < 8) : appG (evG l) l.length (flatG 8 (flatE t [x, y])) i j = evG (l ++ [x, y]) i j := by
  have h1 : appG (evG l) l.length (evG [x, y]) i j = evG (l ++ [x, y]) i j := rowG_app rfl j
  rw [← h1]
  simp only [appG]
  split
  · rfl
  · exact flat_ev [x, y] (by simp; omega) hj
theorem evCell_plain (e : Evt) (j : Nat) : (e.cell j).plain = true := by
  match j with
  | 0 => rfl
  | 1 => rfl
  | 2 => rfl
  | 3 => rfl
  | 4 => rfl
  | 5 => rfl
  | 6 => rfl
  | 7 => rfl
  | j + 8 => rfl
theorem evPlain {e n : Nat} {l : List Evt} : PlainH [.arr e 8 n (evG l)] := PlainH.arr (fun i j => evCell_plain _ _) PlainH.nil
theorem bwEvs2 {H : List O} {id e n m : Nat} {f : List Evt} {x : Bool} (hid : getL H id = some (.arr e 8 n (evG f))) (hf : f.length = n) (hm : m = n) : Bw H (.sl id 8 m m x) (evC f) := by
  subst hm
  exact bwEvs hid hf fun _ _ _ _ => rfl
theorem bwInts {H : List O} {id e n m : Nat} {f : List Int} {x : Bool} (hid : getL H id = some (.arr e 1 n (intsG .i64 f))) (hf : f.length = n) (hm : m = n) : Bw H (.sl id 1 m m x) (intsC f) := by
  subst hm
  have e1 : intsC f = .isl 1 m (intsG .i64 f) false := by unfold intsC; rw [hf]
  rw [e1]
  exact Bw.sl hid rfl (fun i hi j hj => Bw.same rfl) (fun q => by cases q)
theorem spoil_rows {ys : List Evt} {r : Nat} (hr : r < ys.length) {i j : Nat} (hi : i < 2 * ys.length) (hj : j < 8) : updG (evG (seqL ys)) (2 * r + 1) 7 [.str (valueS 99)] i j = evG (seqL (spoil ys r)) i j := by
  rw [updG_one]
  show _ = Evt.cell ((seqL (spoil ys r)).getD i default) j
  have e0 : evG (seqL ys) i j = Evt.cell ((seqL ys).getD i default) j := rfl
  rw [e0]
  have ha : i / 2 < ys.length := by omega
  have h1 := seqL_at ys (i / 2) ha
  have h2 := seqL_at (spoil ys r) (i / 2) (by rw [spoil_len]; exact ha)
  rcases Nat.mod_two_eq_zero_or_one i with c | c
  · have e : 2 * (i / 2) = i := by omega
    rw [e] at h1 h2
    rw [if_neg (by omega), h1.1, h2.1, spoil_at hr]
    split
    · rename_i q; rw [q]; rfl
    · rfl
  · have e : 2 * (i / 2) + 1 = i := by omega
    rw [e] at h1 h2
    rw [h1.2, h2.2, spoil_at hr]
    by_cases q : i / 2 = r
    · rw [if_pos q, q]
      match j, hj with
      | 0, _ => rw [if_neg (by omega)]; rfl
      | 1, _ => rw [if_neg (by omega)]; rfl
      | 2, _ => rw [if_neg (by omega)]; rfl
      | 3, _ => rw [if_neg (by omega)]; rfl
      | 4, _ => rw [if_neg (by omega)]; rfl
      | 5, _ => rw [if_neg (by omega)]; rfl
      | 6, _ => rw [if_neg (by omega)]; rfl
      | 7, _ => rw [if_pos (by omega)]; rfl
    · rw [if_neg q, if_neg (by omega)]
structure SeqL where
  d : DiceM
  ys : List Evt
  rd : Int
structure SeqS.ok (s : SeqL) : Prop where
  d : s.d.ok
  inv : SInv s.ys s.rd
def seqTs (s : SeqL) : Ts := [(7, .c (strsC [vAt s.ys zeroB s.ys.length])), (8, .c (.sl 1 8 (2 * s.ys.length) (2 * s.ys.length) false)), (9, .c (.sl 2 1 s.ys.length s.ys.length false)), (10, .c (.int .i64 s.rd)), (11, .c (.int .i64 s.ys.length)), (5, .c (.ptr 0 0))]
def seqHs (s : SeqL) : List O := [.vr s.d.cells, .arr 41 8 (2 * s.ys.length) (evG (seqL s.ys)), .arr 3 1 s.ys.length (intsG .i64 (iota s.ys.length))]
set_option maxHeartbeats 20000000 in
theorem sequential_spec (l : List Int) (wr : Int) (hw : 0 ≤ wr ∧ wr < 256) : PSpec Try.prog 4 [.c (intsC l), .c (.int .u8 wr)] (.c (.bool true)) := by
  refine PSpec.rm ?_
  refine ov hΓ Try.func4 170 0 [.tmp 4] Try.ntmps4 Try.results4 ?_
  ((conv=>whnf);(repeat' ((first|refine Nd ?_|refine Hv fun _h=>?_);conv=>whnf)))
  refine CallN.pureA light_body (light_spec l ) ?_
  ((conv=>whnf);(repeat' ((first|refine Nd ?_|refine Hv fun _h=>?_);conv=>whnf)))
  by_cases hl : l.length ≤ 300
  · refine Br.no (by rw [decide_eq_true hl]; rfl) ?_
    ((conv=>whnf);(repeat' ((first|refine Nd ?_|refine Hv fun _h=>?_);conv=>whnf)))
    refine CallN.autoQ [] roll_body (roll_spec l (by omega)) ?_; conv=>whnf
    ((conv=>whnf);(repeat' ((first|refine Nd ?_|refine Hv fun _h=>?_);conv=>whnf)))
    have hn1 : PSpec Try.prog 11 [.c (.int .i64 1)] (.c (strsC [zeroB])) := new17_spec 1 (by decide) (by decide)
    refine CallN.pureA new17_body hn1 ?_
    ((conv=>whnf);(repeat' ((first|refine Nd ?_|refine Hv fun _h=>?_);conv=>whnf)))
    refine Lp.reserve 41 8 (evG []) 8 rfl ?_
    refine Lp.reserve 3 1 (intsG .i64 []) 9 rfl ?_
    refine Lp.mkK hΓ (ι := SeqL) [1, 4, 6] seqTs seqHs (fun s => SeqS.ok s) (fun s => 15 - s.ys.length) ⟨⟨l, 0⟩, [], -1⟩ ⟨⟨Nat.zero_le _, by show l.length ≤ _; omega⟩, SInv.nil⟩ ?_ ?_
    · dsimp only [seqTs, seqHs]
      refine Mv.k2 ?_ ?_
      · exact fun i hi => absurd hi (Nat.not_lt_zero i)
      · exact fun i hi => absurd hi (Nat.not_lt_zero i)
    · rintro ⟨d, ys, rd⟩ ⟨hd, hi⟩
      have hn := hi.ok.len
      dsimp only [seqTs, seqHs]
      dsimp only at hd hi hn
      ((conv=>whnf);(repeat' ((first|refine Nd ?_|refine Hv fun _h=>?_);conv=>whnf)))
      refine CallG.keepQ [0] rest_body (rest_spec d hd) wb0 wb0 ?_
      ((conv=>whnf);(repeat' ((first|refine Nd ?_|refine Hv fun _h=>?_);conv=>whnf)))
      refine Br.of (fun h1=>?_) (fun h1=>?_)<;>(try simp only [Int.toNat_natCast] at h1)<;>(conv=>whnf)
      · ((conv=>whnf);(repeat' ((first|refine Nd ?_|refine Hv fun _h=>?_);conv=>whnf)))
        have hl15 : ys.length < 15 := by
          cases c : decide ((ys.length : Int) < 15) with
          | true => have := of_decide_eq_true c; omega
          | false => rw [c] at h1; cases h1
        refine CallN.autoQ [0] next_body (next_spec d hd 3) ?_; conv=>whnf
        ((conv=>whnf);(repeat' ((first|refine Nd ?_|refine Hv fun _h=>?_);conv=>whnf)))
        have hd1 := hd.step
        have hk1 := d.next_range (n := 3) (by omega) (by omega)
        have ek : IntKind.i64.wrap (1 + d.next 3) = 1 + d.next 3 := wrap_id _ (by omega) (by omega)
        rw [ek]
        generalize hk : 1 + d.next 3 = k at *
        have hk2 : 1 ≤ k ∧ k ≤ 3 := by omega
        refine Br.of (fun h2=>?_) (fun h2=>?_)<;>(try simp only [Int.toNat_natCast] at h2)<;>(conv=>whnf)
        · ((conv=>whnf);(repeat' ((first|refine Nd ?_|refine Hv fun _h=>?_);conv=>whnf)))
          have hkk : k = 2 := by simpa using h2
          refine CallN.autoQ [0] next_body (next_spec d.step hd1 5) ?_; conv=>whnf
          ((conv=>whnf);(repeat' ((first|refine Nd ?_|refine Hv fun _h=>?_);conv=>whnf)))
          have hd2 := hd1.step
          have hm1 := d.step.next_range (n := 5) (by omega) (by omega)
          have em : IntKind.i64.wrap (1 + d.step.next 5) = 1 + d.step.next 5 := wrap_id _ (by omega) (by omega)
          rw [em]
          generalize hm : 1 + d.step.next 5 = m at *
          refine CallN.pureA value_body (value_spec m ) ?_
          ((conv=>whnf);(repeat' ((first|refine Nd ?_|refine Hv fun _h=>?_);conv=>whnf)))
          refine CallN.pureA apply17_body (apply17_spec [vAt ys zeroB ys.length] k 0 (valueS m) (by simp) ) ?_
          ((conv=>whnf);(repeat' ((first|refine Nd ?_|refine Hv fun _h=>?_);conv=>whnf)))
          refine Dr.mkE hΓ hMix [] [(0, 2)] (by kernel_rfl) ?_; conv=>whnf
          ((conv=>whnf);(repeat' ((first|refine Nd ?_|refine Hv fun _h=>?_);conv=>whnf)))
          have eL : (ys ++ [mkY ys.length k (valueS m) (vAt ys zeroB ys.length)]).length = ys.length + 1 := by simp
          have eB : appB [vAt ys zeroB ys.length] k 0 (valueS m) = [vAt (ys ++ [mkY ys.length k (valueS m) (vAt ys zeroB ys.length)]) zeroB (ys ++ [mkY ys.length k (valueS m) (vAt ys zeroB ys.length)]).length] := by
            rw [eL, vAt, vAt_app (Nat.le_refl _), getD_snoc_eq]
            exact stepB_one (vAt ys zeroB ys.length) (mkY ys.length k (valueS m) (vAt ys zeroB ys.length))
          rw [eB]
          have eM : 15 - (ys ++ [mkY ys.length k (valueS m) (vAt ys zeroB ys.length)]).length < 15 - ys.length := by omega
          have hst : ∀ rd', rd' = rd ∨ (k = 1 ∧ rd' = ((2 * ys.length + 1 : Nat) : Int)) → SInv (ys ++ [mkY ys.length k (valueS m) (vAt ys zeroB ys.length)]) rd' := fun rd' hr => hi.step hl15 hk2.1 hk2.2 (fun e => ⟨m, by omega, by omega, rfl⟩) (fun e => absurd hkk e) hr
          have gE : ∀ i j, i < 2 * ys.length + 2 → j < 8 → appG (evG (seqL ys)) (2 * ys.length) (flatG 8 (flatE [] [mkX ys.length k (valueS m), mkY ys.length k (valueS m) (vAt ys zeroB ys.length)])) i j = evG (seqL (ys ++ [mkY ys.length k (valueS m) (vAt ys zeroB ys.length)])) i j := by
            intro i j h1 h2
            have hl := seqL_len ys
            rw [seqL_snoc, ← hl]
            exact ev_snoc2 (by omega) h2
          refine Br.of (fun h3=>?_) (fun h3=>?_)<;>(try simp only [Int.toNat_natCast] at h3)<;>(conv=>whnf)
          · ((conv=>whnf);(repeat' ((first|refine Nd ?_|refine Hv fun _h=>?_);conv=>whnf)))
            have h3k : k = 1 := by
              cases c : k == 1 with
              | true => simpa using c
              | false => rw [c] at h3; cases h3
            refine ⟨⟨d.step.step, _, ((2 * ys.length + 1 : Nat) : Int)⟩, ⟨hd2, hst _ (.inr ⟨h3k, rfl⟩)⟩, eM, ?_⟩
            dsimp only [seqTs, seqHs]
            refine Mv.k2 ?_ ?_
            · exact fun i hi j hj => WC.eq (gE i j hi hj) (evCell_imm _ _)
            · intro i hi j hj
              rw [eL]
              exact WC.eq (intsG_snoc (iota_len _).symm (by rw [iota_len]; exact hi) hj) rfl
          · ((conv=>whnf);(repeat' ((first|refine Nd ?_|refine Hv fun _h=>?_);conv=>whnf)))
            refine ⟨⟨d.step.step, _, rd⟩, ⟨hd2, hst _ (.inl rfl)⟩, eM, ?_⟩
            dsimp only [seqTs, seqHs]
            refine Mv.k2 ?_ ?_
            · exact fun i hi j hj => WC.eq (gE i j hi hj) (evCell_imm _ _)
            · intro i hi j hj
              rw [eL]
              exact WC.eq (intsG_snoc (iota_len _).symm (by rw [iota_len]; exact hi) hj) rfl
        · ((conv=>whnf);(repeat' ((first|refine Nd ?_|refine Hv fun _h=>?_);conv=>whnf)))
          have hkk : k ≠ 2 := by simpa using h2
          refine CallN.pureA apply17_body (apply17_spec [vAt ys zeroB ys.length] k 0 ByteArray.empty (by simp) ) ?_
          ((conv=>whnf);(repeat' ((first|refine Nd ?_|refine Hv fun _h=>?_);conv=>whnf)))
          refine Dr.mkE hΓ hMix [] [(0, 2)] (by kernel_rfl) ?_; conv=>whnf
          ((conv=>whnf);(repeat' ((first|refine Nd ?_|refine Hv fun _h=>?_);conv=>whnf)))
          have eL : (ys ++ [mkY ys.length k ByteArray.empty (vAt ys zeroB ys.length)]).length = ys.length + 1 := by simp
          have eB : appB [vAt ys zeroB ys.length] k 0 ByteArray.empty = [vAt (ys ++ [mkY ys.length k ByteArray.empty (vAt ys zeroB ys.length)]) zeroB (ys ++ [mkY ys.length k ByteArray.empty (vAt ys zeroB ys.length)]).length] := by
            rw [eL, vAt, vAt_app (Nat.le_refl _), getD_snoc_eq]
            exact stepB_one (vAt ys zeroB ys.length) (mkY ys.length k ByteArray.empty (vAt ys zeroB ys.length))
          rw [eB]
          have eM : 15 - (ys ++ [mkY ys.length k ByteArray.empty (vAt ys zeroB ys.length)]).length < 15 - ys.length := by omega
          have hst : ∀ rd', rd' = rd ∨ (k = 1 ∧ rd' = ((2 * ys.length + 1 : Nat) : Int)) → SInv (ys ++ [mkY ys.length k ByteArray.empty (vAt ys zeroB ys.length)]) rd' := fun rd' hr => hi.step hl15 hk2.1 hk2.2 (fun e => absurd e hkk) (fun e => rfl) hr
          have gE : ∀ i j, i < 2 * ys.length + 2 → j < 8 → appG (evG (seqL ys)) (2 * ys.length) (flatG 8 (flatE [] [mkX ys.length k ByteArray.empty, mkY ys.length k ByteArray.empty (vAt ys zeroB ys.length)])) i j = evG (seqL (ys ++ [mkY ys.length k ByteArray.empty (vAt ys zeroB ys.length)])) i j := by
            intro i j h1 h2
            have hl := seqL_len ys
            rw [seqL_snoc, ← hl]
            exact ev_snoc2 (by omega) h2
          refine Br.of (fun h3=>?_) (fun h3=>?_)<;>(try simp only [Int.toNat_natCast] at h3)<;>(conv=>whnf)
          · ((conv=>whnf);(repeat' ((first|refine Nd ?_|refine Hv fun _h=>?_);conv=>whnf)))
            have h3k : k = 1 := by
              cases c : k == 1 with
              | true => simpa using c
              | false => rw [c] at h3; cases h3
            refine ⟨⟨d.step, _, ((2 * ys.length + 1 : Nat) : Int)⟩, ⟨hd1, hst _ (.inr ⟨h3k, rfl⟩)⟩, eM, ?_⟩
            dsimp only [seqTs, seqHs]
            refine Mv.k2 ?_ ?_
            · exact fun i hi j hj => WC.eq (gE i j hi hj) (evCell_imm _ _)
            · intro i hi j hj
              rw [eL]
              exact WC.eq (intsG_snoc (iota_len _).symm (by rw [iota_len]; exact hi) hj) rfl
          · ((conv=>whnf);(repeat' ((first|refine Nd ?_|refine Hv fun _h=>?_);conv=>whnf)))
            refine ⟨⟨d.step, _, rd⟩, ⟨hd1, hst _ (.inl rfl)⟩, eM, ?_⟩
            dsimp only [seqTs, seqHs]
            refine Mv.k2 ?_ ?_
            · exact fun i hi j hj => WC.eq (gE i j hi hj) (evCell_imm _ _)
            · intro i hi j hj
              rw [eL]
              exact WC.eq (intsG_snoc (iota_len _).symm (by rw [iota_len]; exact hi) hj) rfl
      · ((conv=>whnf);(repeat' ((first|refine Nd ?_|refine Hv fun _h=>?_);conv=>whnf)))
        have hlL := seqL_len ys
        have hb := blockO_spec zeroB (seqL ys) (by omega)
        rw [seq_block hi.ok rfl, if_pos hi.okt] at hb
        have hv := valuesO_spec zeroB (seqL ys) (by omega)
        rw [seq_values hi.ok rfl hi.okt] at hv
        refine CallN.autoI [1] block_body hb evPlain ?_ (h := ?_)
        rotate_left
        · exact WR.cons rfl (WO.arr (by omega) fun i _ j _ => WC.imm (evCell_imm _ _)) WR.nil
        ((conv=>whnf);(repeat' ((first|refine Nd ?_|refine Hv fun _h=>?_);conv=>whnf)))
        refine CallN.autoI [1] values_body hv evPlain ?_ (h := ?_)
        rotate_left
        · exact WR.cons rfl (WO.arr (by omega) fun i _ j _ => WC.imm (evCell_imm _ _)) WR.nil
        ((conv=>whnf);(repeat' ((first|refine Nd ?_|refine Hv fun _h=>?_);conv=>whnf)))
        have hc := lcheck_spec [zeroB] (seqL ys) (iota ys.length) (by omega) (by simp) (by rw [iota_len]; omega)
        rw [seq_check hi.ok rfl, if_pos hi.okt] at hc
        refine Dr.thaw hΓ hMix [1, 4, 6, 8, 9, 10, 16] [(6, .c (strsC [zeroB])), (7, .c (strsC [vAt ys zeroB ys.length])), (8, .c (evC (seqL ys))), (9, .c (intsC (iota ys.length))), (16, .c (intsC (iota ys.length))), (17, .c (.bool true)), (18, .c (strsC [vAt ys zeroB ys.length]))] ?_ (by rfl) (by kernel_rfl) ?_
        · refine .cons (BwS.c (Bw.same rfl)) (.cons (BwS.c (Bw.same rfl)) (.cons (BwS.c (bwEvs2 rfl rfl hlL.symm)) (.cons (BwS.c (bwInts rfl (iota_len _) rfl)) (.cons (BwS.c (Bw.same rfl)) (.cons (BwS.c (Bw.same rfl)) (.cons (BwS.c (Bw.same rfl)) .nil))))))
        · ((conv=>whnf);(repeat' ((first|refine Nd ?_|refine Hv fun _h=>?_);conv=>whnf)))
          refine CallP.autoG lcheck_body (fun _ => hc) ?_
          ((conv=>whnf);(repeat' ((first|refine Nd ?_|refine Hv fun _h=>?_);conv=>whnf)))
          refine ⟨[(132, .c (.bool false))], ?_, rfl, ?_⟩
          · exact wb0
          ((conv=>whnf);(repeat' ((first|refine Nd ?_|refine Hv fun _h=>?_);conv=>whnf)))
          refine Br.no rfl ?_
          ((conv=>whnf);(repeat' ((first|refine Nd ?_|refine Hv fun _h=>?_);conv=>whnf)))
          refine Lp.mkK hΓ (ι := Nat) [1, 4, 6, 8, 9, 10, 16] (fun k => [(19, .c (.int .i64 k))]) (fun k => [.vr d.cells, .arr 41 8 (2 * ys.length) (evG (seqL ys)), .arr 3 1 ys.length (intsG .i64 (iota ys.length))]) (fun k => k ≤ ys.length) (fun k => ys.length - k) 0 (Nat.zero_le _) ?_ ?_
          · refine Mv.k2 ?_ ?_
            · exact fun i _ j _ => WC.imm (evCell_imm _ _)
            · exact fun i _ j _ => WC.imm rfl
          · intro k hk
            ((conv=>whnf);(repeat' ((first|refine Nd ?_|refine Hv fun _h=>?_);conv=>whnf)))
            refine Br.of (fun h2=>?_) (fun h2=>?_)<;>(try simp only [Int.toNat_natCast] at h2)<;>(conv=>whnf)
            · ((conv=>whnf);(repeat' ((first|refine Nd ?_|refine Hv fun _h=>?_);conv=>whnf)))
              have hk' : k < ys.length := by rw [iota_len] at h2; omega
              have e0 : (k : Int).toNat = k := by simp
              rw [e0, iota_get hk']
              refine Br.no (by simp) ?_
              ((conv=>whnf);(repeat' ((first|refine Nd ?_|refine Hv fun _h=>?_);conv=>whnf)))
              refine ⟨k + 1, hk', by omega, ?_⟩
              refine Mv.k2 ?_ ?_
              · exact fun i _ j _ => WC.imm (evCell_imm _ _)
              · exact fun i _ j _ => WC.imm rfl
            · ((conv=>whnf);(repeat' ((first|refine Nd ?_|refine Hv fun _h=>?_);conv=>whnf)))
              rcases hi.rd with rfl | ⟨r, r1, r2, rfl⟩
              · refine Br.no (by decide) ?_
                ((conv=>whnf);(repeat' ((first|refine Nd ?_|refine Hv fun _h=>?_);conv=>whnf)))
                refine CallN.pureA awake_body (awake_spec ) ?_
                ((conv=>whnf);(repeat' ((first|refine Nd ?_|refine Hv fun _h=>?_);conv=>whnf)))
                exact RM.i0
              · refine Br.yes (by simp; omega) ?_
                ((conv=>whnf);(repeat' ((first|refine Nd ?_|refine Hv fun _h=>?_);conv=>whnf)))
                refine CallN.pureA value_body (value_spec 99 ) ?_
                ((conv=>whnf);(repeat' ((first|refine Nd ?_|refine Hv fun _h=>?_);conv=>whnf)))
                obtain ⟨p1, p2⟩ := spoil_ok hi r1 r2
                have hl2 : (seqL (spoil ys r)).length = 2 * ys.length := by rw [seqL_len, spoil_len]
                have hb2 := blockO_spec zeroB (seqL (spoil ys r)) (by omega)
                rw [seq_block p1 rfl, if_neg (by rw [p2]; simp)] at hb2
                have hc2 := lcheck_spec [zeroB] (seqL (spoil ys r)) (iota ys.length) (by omega) (by simp) (by rw [iota_len]; omega)
                rw [show iota ys.length = iota (spoil ys r).length by rw [spoil_len], seq_check p1 rfl, if_neg (by rw [p2]; simp), spoil_len] at hc2
                refine CallN.autoI [1] block_body hb2 evPlain ?_ (h := ?_)
                rotate_left
                · refine WR.cons rfl (WO.arr (by omega) fun i hi j hj => WC.eq ?_ (evCell_imm _ _)) WR.nil
                  rw [Int.toNat_natCast]
                  exact spoil_rows r1 hi hj
                ((conv=>whnf);(repeat' ((first|refine Nd ?_|refine Hv fun _h=>?_);conv=>whnf)))
                refine CallG.reads (args' := [.c (strsC [zeroB]), .c (evC (seqL (spoil ys r))), .c (intsC (iota ys.length))]) lcheck_body (fun _ => hc2) (fun _ => ?_) rfl ?_
                · exact BwA.cons (BwS.c (Bw.same rfl)) (BwA.cons (BwS.c (bwEvs2 rfl rfl hl2.symm)) (BwA.cons (BwS.c (bwInts rfl (iota_len _) rfl)) BwA.nil))
                ((conv=>whnf);(repeat' ((first|refine Nd ?_|refine Hv fun _h=>?_);conv=>whnf)))
                refine Br.no rfl ?_
                ((conv=>whnf);(repeat' ((first|refine Nd ?_|refine Hv fun _h=>?_);conv=>whnf)))
                refine CallN.pureA awake_body (awake_spec ) ?_
                ((conv=>whnf);(repeat' ((first|refine Nd ?_|refine Hv fun _h=>?_);conv=>whnf)))
                exact RM.i0
  · refine Br.yes (by rw [decide_eq_false hl]; rfl) ?_
    ((conv=>whnf);(repeat' ((first|refine Nd ?_|refine Hv fun _h=>?_);conv=>whnf)))
    refine CallN.pureA awake_body (awake_spec ) ?_
    ((conv=>whnf);(repeat' ((first|refine Nd ?_|refine Hv fun _h=>?_);conv=>whnf)))
    exact RM.i0
theorem u8_range {x : Int} (h : (Lit.int .u8 x).wf = true) : 0 ≤ x ∧ x < 256 := by
  simp only [Lit.wf, Bool.and_eq_true, decide_eq_true_eq] at h
  have h1 : IntKind.u8.min = 0 := rfl
  have h2 : IntKind.u8.max = 255 := rfl
  omega
end Go.Proofs
