/- Part of the proofs of laws of this seat: contracts and plain lemmas; no condition is added to a statement. -/
import Derived.Test.YtmpoogflpmaijaaGreatAmG
import Derived.Test.YtmpoogflpmaijaaGreatLi7
set_option linter.unusedSimpArgs false
set_option linter.unusedVariables false
open Go Go.Am
namespace Go.Proofs
set_option maxRecDepth 20000
set_option maxHeartbeats 2000000
theorem bwEvs {H : List O} {id e n : Nat} {f : List Evt} {g : Nat → Nat → C} {x : Bool} (hid : getL H id = some (.arr e 8 n g)) (hf : f.length = n) (hg : ∀ i, i < n → ∀ j, j < 8 → g i j = evG f i j) : Bw H (.sl id 8 n n x) (evC f) := by
  have e1 : evC f = .isl 8 n (evG f) false := by unfold evC; rw [hf]
  rw [e1]
  exact Bw.sl hid rfl (fun i hi j hj => by rw [hg i hi j hj]; exact Bw.same (evCell_imm _ _)) (fun q => by cases q)
theorem evCell_flat (e : Evt) (j : Nat) : (e.cell j).flat = true := by
  match j with
  | 0 => rfl
  | 1 => rfl
  | 2 => rfl
  | 3 => rfl
  | 4 => rfl
  | 5 => rfl
  | 6 => rfl
  | 7 => rfl
  | j + 8 => rfl
theorem startO_no {v : ByteArray} {l : List Evt} (hs : singleM v l = false) : startO v l = (.t [.inl .nilp, .inl (.bool false)], []) := by unfold startO; rw [if_neg (by rw [hs]; simp)]
theorem startO_yes {v : ByteArray} {l : List Evt} (hs : singleM v l = true) : startO v l = (.t [.inl (.ptr 0 0), .inl (.bool true)], startH (probOf l)) := by unfold startO; rw [if_pos hs]
theorem startH_loose (pr : Prob) : LooseH (startH pr) := by
  refine .cons rfl (.cons ⟨rfl, fun _ _ => rfl⟩ (.cons ⟨rfl, fun _ _ => rfl⟩ (.cons (fun i _ j _ => ?_) (.cons (fun i _ j _ => rfl) .nil))))
  have := evCell_flat ((pr.ops).getD i default) j
  show C.loose (Evt.cell _ j) = true
  revert this
  generalize Evt.cell ((pr.ops).getD i default) j = c
  intro h
  cases c <;> first | rfl | exact h | cases h
theorem blockO_spec (v : ByteArray) (l : List Evt) (hl : l.length ≤ 10000000) : CSpec Tryz.prog 16 [.c (.str v), .c (.sl 0 8 l.length l.length false)] [.arr 52 8 l.length (evG l)] fun s H => s = .t [.inl (intsC (blockM v l).1), .inl (.bool (blockM v l).2)] ∧ H = [.arr 52 8 l.length (evG l)] := by
  have hst := startO_spec v l hl
  cases hs : singleM v l with
  | false =>
    rw [startO_no hs] at hst
    rw [show blockM v l = ([], false) by unfold blockM; rw [if_neg (by rw [hs]; simp)]]
    refine CSpec.rm ?_
    refine ov hΓ Tryz.func16 35 1 [.tmp 4, .tmp 5] Tryz.ntmps16 Tryz.results16 ?_
    ((conv=>whnf);(repeat' ((first|refine Nd ?_|refine Hv fun _h=>?_);conv=>whnf)))
    refine CallN.readsO (args' := [.c (.str v), .c (evC l)]) start_body hst (BwA.cons (BwS.c (Bw.same rfl)) (BwA.cons (BwS.c (bwEvs rfl rfl fun _ _ _ _ => rfl)) BwA.nil)) rfl LooseH.nil ?_
    ((conv=>whnf);(repeat' ((first|refine Nd ?_|refine Hv fun _h=>?_);conv=>whnf)))
    refine Br.yes rfl ?_
    ((conv=>whnf);(repeat' ((first|refine Nd ?_|refine Hv fun _h=>?_);conv=>whnf)))
    refine ⟨_, _, ?_, rfl, rfl⟩
    refine RM.w1 ?_
    exact fun i _ j _ => WC.imm (evCell_imm _ _)
  | true =>
    obtain ⟨hp1, hp2, hp3, hp4⟩ := probOf_ok hs
    have hsz := walk_sizes (pr := probOf l) (one := true) (f := 21) (single_size hs)
    have h1 : (endsM v l true).length ≤ 1 := walk_one
    have hwk := walk_nil_spec (probOf l) true v hp1 hp2 hp3 hp4
    rw [startO_yes hs] at hst
    have hb : blockM v l = (match endsM v l true with
      | [] => ([], false)
      | p :: _ => (p.2, true)) := by unfold blockM; rw [if_pos hs]; rfl
    rw [hb]
    have hE : (walkM (probOf l) true 21 0 v [] ([], [])).2 = endsM v l true := rfl
    rw [hE] at hwk hsz
    generalize endsM v l true = E at *
    refine CSpec.rm ?_
    refine CSpec.of_aw hΓ Tryz.func16 35 1 [.tmp 4, .tmp 5] Tryz.ntmps16 ?_
    refine AWn.seq hΓ ?_
    ((conv=>whnf);(repeat' ((first|refine Nd ?_|refine Hv fun _h=>?_);conv=>whnf)))
    refine AWn.seq hΓ ?_
    ((conv=>whnf);(repeat' ((first|refine Nd ?_|refine Hv fun _h=>?_);conv=>whnf)))
    refine CallN.readsO (args' := [.c (.str v), .c (evC l)]) start_body hst (BwA.cons (BwS.c (Bw.same rfl)) (BwA.cons (BwS.c (bwEvs rfl rfl fun _ _ _ _ => rfl)) BwA.nil)) rfl (startH_loose _) ?_
    ((conv=>whnf);(repeat' ((first|refine Nd ?_|refine Hv fun _h=>?_);conv=>whnf)))
    refine AWn.seq hΓ ?_
    ((conv=>whnf);(repeat' ((first|refine Nd ?_|refine Hv fun _h=>?_);conv=>whnf)))
    refine Br.no rfl ?_
    ((conv=>whnf);(repeat' ((first|refine Nd ?_|refine Hv fun _h=>?_);conv=>whnf)))
    refine AWn.aside1 (Hc := startH (probOf l)) (ts' := [(0, .c (.str v)), (6, .c (.ptr 0 0)), (4, .c .nils), (5, .c (.bool false))]) [1, 2, 3, 4, 5] rfl (fun i _ j _ => evCell_imm _ _) (by decide) ?_ rfl ?_ ?_
    · refine wb2 ?_ ?_
      · exact fun i _ j _ => WC.reI (evCell_imm _ _)
      · exact fun i _ j _ => WC.reI rfl
    · exact wb0
    refine AWn.seq hΓ ?_
    ((conv=>whnf);(repeat' ((first|refine Nd ?_|refine Hv fun _h=>?_);conv=>whnf)))
    refine AWn.seq hΓ ?_
    ((conv=>whnf);(repeat' ((first|refine Nd ?_|refine Hv fun _h=>?_);conv=>whnf)))
    refine CallN.fzK 3 [0, 4, 5, 6] [] [.vr [evC (probOf l).ops, .sl 4 1 (probOf l).first.length (probOf l).first.length false, .int .i64 (probOf l).must, .mpr 1, .mpr 2, .bool true], seenO [], endsN, .dead, .arr 3 1 (probOf l).first.length (intsG .i64 (firstL (probOf l).first))] [.c (.ptr 0 0), .a [.int .i64 0, .str v], .c .nils] rfl (Nat.zero_le _) (fun i _ j _ => evCell_imm _ _) ?_ ?_ ?_ leN ?_
    · refine wb1 ?_
      exact fun i _ j _ => WC.eq rfl rfl
    · exact wb0
    · exact wb0
    refine CallN.fzK 4 [0, 4, 5, 6] [] [probO (probOf l) true, seenO [], endsO [], .dead, .dead] [.c (.ptr 0 0), .a [.int .i64 0, .str v], .c .nils] rfl (Nat.zero_le _) (fun i _ j _ => rfl) ?_ ?_ ?_ leN ?_
    · refine wb2 ?_ ?_
      · exact WC.fz rfl (by simp [firstL]) (fun i hi j hj => leF.of_eq rfl) (fun q => by cases q)
      · exact fun k j _ hj => leF.nil rfl
    · exact wb0
    · exact wb0
    refine CallN.autoQ [0, 1, 2] walk_body hwk ?_
    ((conv=>whnf);(repeat' ((first|refine Nd ?_|refine Hv fun _h=>?_);conv=>whnf)))
    refine AWn.assoc ?_
    refine AWn.rgN hΓ 4 rfl ?_
    ((conv=>whnf);(repeat' ((first|refine Nd ?_|refine Hv fun _h=>?_);conv=>whnf)))
    refine RgN.mk hΓ rfl 2 rfl rfl rfl rfl rfl rfl rfl rfl rfl rfl rfl rfl rfl rfl rfl rfl rfl ⟨rfl, rfl⟩ rfl rfl rfl ?_ (fun _ => rfl) (ι := List Key)
      (fun r i => [(29, .c (.raw r))]) (fun i => []) (fun i => i.Perm (E.map keyN)) (fun i => i) (E.map keyN) (List.Perm.refl _) rfl
      [] ?_ ?_ (fun _ _ => rfl) ?_ ?_
    · intro k hk
      obtain ⟨p, h1, rfl⟩ := mem_key hk
      show p.1.size ≤ maxLen
      rw [hsz p h1]; unfold maxLen; omega
    · exact wb0
    · intro r
      exact Mv.k0
    · rintro r L key hok hl hks
      obtain ⟨p, h2, rfl⟩ := mem_key hks
      obtain ⟨q, rfl⟩ : ∃ q, E = [q] := by
        match E, h1, h2 with
        | [q], _, _ => exact ⟨q, rfl⟩
      simp only [List.mem_singleton] at h2
      subst h2
      ((conv=>whnf);(repeat' ((first|refine Nd ?_|refine Hv fun _h=>?_);conv=>whnf)))
      rw [show endOf [p] (keyV (Key.c (KC.s p.1))) = p.2 by simp [endOf, keyV]]
      refine ⟨[(4, .c (intsC p.2)), (5, .c (.bool true))], Mv.mkW wb0 wb0 (Nat.le_refl _), .cons rfl (.cons rfl .nil), ?_⟩
      conv=>whnf
      refine ⟨_, _, ?_, rfl, rfl⟩
      refine RM.w1 ?_
      exact fun i _ j _ => WC.imm (evCell_imm _ _)
    · rintro r L hok hl
      have hL : L = [] := hl
      subst hL
      have hE0 : E = [] := by
        have := hok.length_eq
        simpa using this.symm
      subst hE0
      conv=>whnf
      refine AWn.ofVc hΓ ?_
      ((conv=>whnf);(repeat' ((first|refine Nd ?_|refine Hv fun _h=>?_);conv=>whnf)))
      refine ⟨[(4, .c .nils), (5, .c (.bool false))], Mv.mkW wb0 wb0 (Nat.le_refl _), .cons rfl (.cons rfl .nil), ?_⟩
      conv=>whnf
      refine ⟨_, _, ?_, rfl, rfl⟩
      refine RM.w1 ?_
      exact fun i _ j _ => WC.imm (evCell_imm _ _)
theorem valuesO_spec (v : ByteArray) (l : List Evt) (hl : l.length ≤ 10000000) : CSpec Tryz.prog 18 [.c (.str v), .c (.sl 0 8 l.length l.length false)] [.arr 52 8 l.length (evG l)] fun s H => s = .c (strsC (valuesM v l)) ∧ H = [.arr 52 8 l.length (evG l)] := by
  have hst := startO_spec v l hl
  cases hs : singleM v l with
  | false =>
    rw [startO_no hs] at hst
    rw [show valuesM v l = [] by unfold valuesM; rw [if_neg (by rw [hs]; simp)]]
    refine CSpec.rm ?_
    refine ov hΓ Tryz.func18 37 1 [.tmp 4] Tryz.ntmps18 Tryz.results18 ?_
    ((conv=>whnf);(repeat' ((first|refine Nd ?_|refine Hv fun _h=>?_);conv=>whnf)))
    refine CallN.readsO (args' := [.c (.str v), .c (evC l)]) start_body hst (BwA.cons (BwS.c (Bw.same rfl)) (BwA.cons (BwS.c (bwEvs rfl rfl fun _ _ _ _ => rfl)) BwA.nil)) rfl LooseH.nil ?_
    ((conv=>whnf);(repeat' ((first|refine Nd ?_|refine Hv fun _h=>?_);conv=>whnf)))
    refine Br.yes rfl ?_
    ((conv=>whnf);(repeat' ((first|refine Nd ?_|refine Hv fun _h=>?_);conv=>whnf)))
    refine ⟨_, _, ?_, rfl, rfl⟩
    refine RM.w1 ?_
    exact fun i _ j _ => WC.imm (evCell_imm _ _)
  | true =>
    obtain ⟨hp1, hp2, hp3, hp4⟩ := probOf_ok hs
    have hsz := walk_sizes (pr := probOf l) (one := false) (f := 21) (single_size hs)
    have hnd : ((endsM v l false).map Prod.fst).Nodup := walk_nodup
    have hfew : (endsM v l false).length ≤ (probOf l).ops.length + 2 := walk_few
    have hwk := walk_nil_spec (probOf l) false v hp1 hp2 hp3 hp4
    rw [startO_yes hs] at hst
    rw [show valuesM v l = sortB ((endsM v l false).map Prod.fst) by unfold valuesM; rw [if_pos hs]]
    have hE : (walkM (probOf l) false 21 0 v [] ([], [])).2 = endsM v l false := rfl
    rw [hE] at hwk hsz
    generalize endsM v l false = E at *
    refine CSpec.rm ?_
    refine CSpec.of_aw hΓ Tryz.func18 37 1 [.tmp 4] Tryz.ntmps18 ?_
    refine AWn.seq hΓ ?_
    ((conv=>whnf);(repeat' ((first|refine Nd ?_|refine Hv fun _h=>?_);conv=>whnf)))
    refine AWn.seq hΓ ?_
    ((conv=>whnf);(repeat' ((first|refine Nd ?_|refine Hv fun _h=>?_);conv=>whnf)))
    refine CallN.readsO (args' := [.c (.str v), .c (evC l)]) start_body hst (BwA.cons (BwS.c (Bw.same rfl)) (BwA.cons (BwS.c (bwEvs rfl rfl fun _ _ _ _ => rfl)) BwA.nil)) rfl (startH_loose _) ?_
    ((conv=>whnf);(repeat' ((first|refine Nd ?_|refine Hv fun _h=>?_);conv=>whnf)))
    refine AWn.seq hΓ ?_
    ((conv=>whnf);(repeat' ((first|refine Nd ?_|refine Hv fun _h=>?_);conv=>whnf)))
    refine Br.no rfl ?_
    ((conv=>whnf);(repeat' ((first|refine Nd ?_|refine Hv fun _h=>?_);conv=>whnf)))
    refine AWn.aside1 (Hc := startH (probOf l)) (ts' := [(0, .c (.str v)), (5, .c (.ptr 0 0)), (4, .c .nils)]) [1, 2, 3, 4, 5] rfl (fun i _ j _ => evCell_imm _ _) (by decide) ?_ rfl ?_ ?_
    · refine wb2 ?_ ?_
      · exact fun i _ j _ => WC.reI (evCell_imm _ _)
      · exact fun i _ j _ => WC.reI rfl
    · exact wb0
    refine AWn.seq hΓ ?_
    ((conv=>whnf);(repeat' ((first|refine Nd ?_|refine Hv fun _h=>?_);conv=>whnf)))
    refine CallN.fzK 3 [0, 4, 5] [] [.vr [evC (probOf l).ops, .sl 4 1 (probOf l).first.length (probOf l).first.length false, .int .i64 (probOf l).must, .mpr 1, .mpr 2, .bool false], seenO [], endsN, .dead, .arr 3 1 (probOf l).first.length (intsG .i64 (firstL (probOf l).first))] [.c (.ptr 0 0), .a [.int .i64 0, .str v], .c .nils] rfl (Nat.zero_le _) (fun i _ j _ => evCell_imm _ _) ?_ ?_ ?_ leN ?_
    · refine wb1 ?_
      exact fun i _ j _ => WC.eq rfl rfl
    · exact wb0
    · exact wb0
    refine CallN.fzK 4 [0, 4, 5] [] [probO (probOf l) false, seenO [], endsO [], .dead, .dead] [.c (.ptr 0 0), .a [.int .i64 0, .str v], .c .nils] rfl (Nat.zero_le _) (fun i _ j _ => rfl) ?_ ?_ ?_ leN ?_
    · refine wb2 ?_ ?_
      · exact WC.fz rfl (by simp [firstL]) (fun i hi j hj => leF.of_eq rfl) (fun q => by cases q)
      · exact fun k j _ hj => leF.nil rfl
    · exact wb0
    · exact wb0
    refine CallN.autoQ [0, 1, 2] walk_body hwk ?_
    ((conv=>whnf);(repeat' ((first|refine Nd ?_|refine Hv fun _h=>?_);conv=>whnf)))
    refine AWn.seq hΓ ?_
    ((conv=>whnf);(repeat' ((first|refine Nd ?_|refine Hv fun _h=>?_);conv=>whnf)))
    refine AWn.assoc ?_
    refine AWn.rgN hΓ 4 rfl ?_
    ((conv=>whnf);(repeat' ((first|refine Nd ?_|refine Hv fun _h=>?_);conv=>whnf)))
    refine RgN.mk hΓ rfl 2 rfl rfl rfl rfl rfl rfl rfl rfl rfl rfl rfl rfl rfl rfl rfl rfl rfl ⟨rfl, rfl⟩ rfl rfl rfl ?_ (fun _ => rfl) (ι := List Key × List ByteArray)
      (fun r i => [(25, .c (.raw r)), (7, .c (.sl 0 1 i.2.length i.2.length false))]) (fun i => [.arr 9 1 i.2.length (strG i.2)]) (fun i => (i.2 ++ i.1.map keyV).Perm (E.map Prod.fst)) (fun i => i.1) (E.map keyN, []) ?_ rfl
      [(7, .c .nils)] ?_ ?_ (fun _ _ => rfl) ?_ ?_
    · intro k hk
      obtain ⟨p, h1, rfl⟩ := mem_key hk
      show p.1.size ≤ maxLen
      rw [hsz p h1]; unfold maxLen; omega
    · show ([] ++ (E.map keyN).map keyV).Perm (E.map Prod.fst)
      rw [List.nil_append, List.map_map]
      exact List.Perm.refl _
    · exact wb0
    · intro r
      refine (Mv.reserve 9 1 (strG []) 7 rfl).trans ?_
      refine Mv.k1 ?_
      · exact fun i hi => absurd hi (Nat.not_lt_zero i)
    · rintro r ⟨L, out⟩ key hok hl hks
      obtain ⟨p, h1, rfl⟩ := mem_key hks
      have hlen : out.length + L.length = E.length := by
        have := hok.length_eq
        simpa using this
      have hLp : 0 < L.length := List.length_pos_of_mem hl
      have hol : out.length ≤ 22 := by omega
      ((conv=>whnf);(repeat' ((first|refine Nd ?_|refine Hv fun _h=>?_);conv=>whnf)))
      refine ⟨(L.erase (.c (.s p.1)), out ++ [p.1]), ?_, rfl, ?_⟩
      · refine List.Perm.trans ?_ hok
        show ((out ++ [p.1]) ++ (L.erase (.c (.s p.1))).map keyV).Perm (out ++ L.map keyV)
        rw [List.append_assoc]
        refine List.Perm.append_left out ?_
        exact ((List.perm_cons_erase hl).map keyV).symm
      · refine Mv.k1 ?_
        · exact fun i hi j hj => WC.eq (strG_snoc hi hj) rfl
    · rintro r ⟨L, out⟩ hok hl
      have hL : L = [] := hl
      subst hL
      have hout : out.Perm (E.map Prod.fst) := by simpa using hok
      have hlen : out.length = E.length := by
        have := hout.length_eq
        simpa using this
      conv=>whnf
      refine AWn.ofVc hΓ ?_
      ((conv=>whnf);(repeat' ((first|refine Nd ?_|refine Hv fun _h=>?_);conv=>whnf)))
      have hsp := strings_spec 9 out (by omega)
      refine CallN.autoQ [0] strings_body hsp ?_ (h := ?_)
      rotate_left
      · exact WR.cons rfl (WO.arr rfl fun i hi j hj => WC.imm rfl) WR.nil
      ((conv=>whnf);(repeat' ((first|refine Nd ?_|refine Hv fun _h=>?_);conv=>whnf)))
      rw [← sortB_perm_eq hout hnd]
      refine ⟨[(4, .c (strsC (sortB out)))], (Mv.fz 0 rfl (Nat.zero_le _) (fun _ _ _ _ => rfl)).trans (Mv.mkW wb0 ?_ (Nat.le_refl _)), .cons rfl .nil, ?_⟩
      · refine wb1 ?_
        exact fzStrs (sortB_len out) fun _ _ _ _ => rfl
      conv=>whnf
      refine ⟨_, _, ?_, rfl, rfl⟩
      refine RM.w1 ?_
      exact fun i _ j _ => WC.imm (evCell_imm _ _)
end Go.Proofs
