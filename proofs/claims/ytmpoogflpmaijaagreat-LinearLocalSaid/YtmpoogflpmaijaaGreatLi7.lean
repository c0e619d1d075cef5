/- Part of the proofs of laws of this seat: contracts and plain lemmas; no condition is added to a statement. -/
import Derived.Test.YtmpoogflpmaijaaGreatLi6
import Derived.Test.YtmpoogflpmaijaaGreatLinC
set_option linter.unusedSimpArgs false
set_option linter.unusedVariables false
open Go Go.Am
namespace Go.Proofs
set_option maxRecDepth 20000
set_option maxHeartbeats 2000000
def endsM (v : ByteArray) (l : List Evt) (one : Bool) : List (ByteArray × List Int) := (walkM (probOf l) one 21 0 v [] ([], [])).2
def valuesM (v : ByteArray) (l : List Evt) : List ByteArray := if singleM v l = true then sortB ((endsM v l false).map Prod.fst) else []
theorem probOf_ok {v : ByteArray} {l : List Evt} (h : singleM v l = true) : (probOf l).ops.length ≤ 20 ∧ (probOf l).first.length = (probOf l).ops.length ∧ (∀ i, (probOf l).first.getD i default < 2 ^ 62) ∧ (probOf l).must < 2 ^ 62 := by
  have hl : (operationsM l).length ≤ 20 := by
    unfold singleM at h
    simp only [Bool.and_eq_true, decide_eq_true_eq] at h
    exact h.2
  have h1 : (probOf l).ops.length ≤ 20 := Nat.le_trans (List.length_filter_le _ _) hl
  refine ⟨h1, by simp [probOf, firstOf], fun i => ?_, ?_⟩
  · simp only [probOf, firstOf]
    by_cases c : i < (canOps l).length
    · have : ((canOps l).map (rowOf l (canOps l))).getD i default = rowOf l (canOps l) ((canOps l)[i]) := by simp [List.getD, c]
      rw [this]
      exact maskB_small (by have : (canOps l).length ≤ 20 := h1; omega)
    · rw [show ((canOps l).map (rowOf l (canOps l))).getD i default = default by simp [List.getD, c]]
      exact Nat.two_pow_pos _
  · exact maskB_small (by have : (canOps l).length ≤ 20 := h1; omega)
theorem single_size {v : ByteArray} {l : List Evt} (h : singleM v l = true) : v.size = 16 := by
  unfold singleM at h
  simp only [Bool.and_eq_true, decide_eq_true_eq] at h
  have := h.1.1
  unfold sizesM at this
  split at this
  · split at this
    · rename_i h2; simpa using h2
    · cases this
  · rename_i h2; exact absurd this h2
theorem find_keep {d e : Nat} {s : S} {r : Ts} (h : Nat.beq e d = false) : find d ((e, s) :: r) = find d r := by simp only [find, h]
theorem mem_key {ks : List (ByteArray × List Int)} {k : Key} (h : k ∈ ks.map keyN) : ∃ p ∈ ks, k = .c (.s p.1) := by
  obtain ⟨p, h1, rfl⟩ := List.mem_map.1 h
  exact ⟨p, h1, rfl⟩
theorem startR_no {v : ByteArray} {l : List Evt} (hs : singleM v l = false) : startR v l = (.t [.inl .nilp, .inl (.bool false)], []) := by unfold startR; rw [if_neg (by rw [hs]; simp)]
theorem startR_yes {v : ByteArray} {l : List Evt} (hs : singleM v l = true) : startR v l = (.t [.inl (.ptr 0 0), .inl (.bool true)], [probO (probOf l) false, seenO [], endsO []]) := by unfold startR; rw [if_pos hs]
theorem strG_snoc {l : List ByteArray} {x : ByteArray} {t : List C} {i j : Nat} (hi : i < l.length + 1) (hj : j < 1) : appG (strG l) l.length (flatG 1 (C.str x :: t)) i j = strG (l ++ [x]) i j := by
  have hj0 : j = 0 := by omega
  subst hj0
  unfold appG strG
  by_cases c : i < l.length
  · rw [if_pos c]
    simp [List.getD, List.getElem?_append_left c]
  · rw [if_neg c]
    have : i = l.length := by omega
    subst this
    simp [flatG, lget, getL, List.getD]
theorem values_spec (v : ByteArray) (l : List Evt) (hl : l.length ≤ 10000000) : PSpec Tryz.prog 18 [.c (.str v), .c (evC l)] (.c (strsC (valuesM v l))) := by
  have hst := start_spec v l hl
  cases hs : singleM v l with
  | false =>
    rw [startR_no hs] at hst
    rw [show valuesM v l = [] by unfold valuesM; rw [if_neg (by rw [hs]; simp)]]
    refine PSpec.rm ?_
    refine ov hΓ Tryz.func18 37 0 [.tmp 4] Tryz.ntmps18 Tryz.results18 ?_
    ((conv=>whnf);(repeat' ((first|refine Nd ?_|refine Hv fun _h=>?_);conv=>whnf)))
    refine CallN.autoQ [] start_body hst ?_
    ((conv=>whnf);(repeat' ((first|refine Nd ?_|refine Hv fun _h=>?_);conv=>whnf)))
    refine Br.yes rfl ?_
    ((conv=>whnf);(repeat' ((first|refine Nd ?_|refine Hv fun _h=>?_);conv=>whnf)))
    exact RM.i0
  | true =>
    obtain ⟨hp1, hp2, hp3, hp4⟩ := probOf_ok hs
    have hsz := walk_sizes (pr := probOf l) (one := false) (f := 21) (single_size hs)
    have hnd : ((endsM v l false).map Prod.fst).Nodup := walk_nodup
    have hfew : (endsM v l false).length ≤ (probOf l).ops.length + 2 := walk_few
    have hwk := walk_nil_spec (probOf l) false v hp1 hp2 hp3 hp4
    rw [startR_yes hs] at hst
    rw [show valuesM v l = sortB ((endsM v l false).map Prod.fst) by unfold valuesM; rw [if_pos hs]]
    have hE : (walkM (probOf l) false 21 0 v [] ([], [])).2 = endsM v l false := rfl
    rw [hE] at hwk hsz
    generalize endsM v l false = E at *
    refine PSpec.rm ?_
    refine CSpec.of_aw hΓ Tryz.func18 37 0 [.tmp 4] Tryz.ntmps18 ?_
    refine AWn.seq hΓ ?_
    ((conv=>whnf);(repeat' ((first|refine Nd ?_|refine Hv fun _h=>?_);conv=>whnf)))
    refine AWn.seq hΓ ?_
    ((conv=>whnf);(repeat' ((first|refine Nd ?_|refine Hv fun _h=>?_);conv=>whnf)))
    refine CallN.autoQ [] start_body hst ?_
    ((conv=>whnf);(repeat' ((first|refine Nd ?_|refine Hv fun _h=>?_);conv=>whnf)))
    refine AWn.seq hΓ ?_
    ((conv=>whnf);(repeat' ((first|refine Nd ?_|refine Hv fun _h=>?_);conv=>whnf)))
    refine Br.no rfl ?_
    ((conv=>whnf);(repeat' ((first|refine Nd ?_|refine Hv fun _h=>?_);conv=>whnf)))
    refine AWn.seq hΓ ?_
    ((conv=>whnf);(repeat' ((first|refine Nd ?_|refine Hv fun _h=>?_);conv=>whnf)))
    refine CallN.autoQ [0, 1, 2] walk_body hwk ?_
    ((conv=>whnf);(repeat' ((first|refine Nd ?_|refine Hv fun _h=>?_);conv=>whnf)))
    refine AWn.seq hΓ ?_
    ((conv=>whnf);(repeat' ((first|refine Nd ?_|refine Hv fun _h=>?_);conv=>whnf)))
    refine AWn.assoc ?_
    refine AWn.rgN hΓ 4 rfl ?_
    ((conv=>whnf);(repeat' ((first|refine Nd ?_|refine Hv fun _h=>?_);conv=>whnf)))
    refine RgN.mk hΓ rfl 2 rfl rfl rfl rfl rfl rfl rfl rfl rfl rfl rfl rfl rfl rfl rfl rfl rfl ⟨rfl, rfl⟩ rfl rfl rfl ?_ (fun _ => rfl) (ι := List Key × List ByteArray)
      (fun r i => [(25, .c (.raw r)), (7, .c (.sl 0 1 i.2.length i.2.length false))]) (fun i => [.arr 9 1 i.2.length (strG i.2)]) (fun i => (i.2 ++ i.1.map keyV).Perm (E.map Prod.fst)) (fun i => i.1) (E.map keyN, []) ?_ rfl
      [(7, .c .nils)] ?_ ?_ (fun _ _ => rfl) ?_ ?_
    · intro k hk
      obtain ⟨p, h1, rfl⟩ := mem_key hk
      show p.1.size ≤ maxLen
      rw [hsz p h1]; unfold maxLen; omega
    · show ([] ++ (E.map keyN).map keyV).Perm (E.map Prod.fst)
      rw [List.nil_append, List.map_map]
      exact List.Perm.refl _
    · exact wb0
    · intro r
      refine (Mv.reserve 9 1 (strG []) 7 rfl).trans ?_
      refine Mv.k1 ?_
      · exact fun i hi => absurd hi (Nat.not_lt_zero i)
    · rintro r ⟨L, out⟩ key hok hl hks
      obtain ⟨p, h1, rfl⟩ := mem_key hks
      have hlen : out.length + L.length = E.length := by
        have := hok.length_eq
        simpa using this
      have hLp : 0 < L.length := List.length_pos_of_mem hl
      have hol : out.length ≤ 22 := by omega
      ((conv=>whnf);(repeat' ((first|refine Nd ?_|refine Hv fun _h=>?_);conv=>whnf)))
      refine ⟨(L.erase (.c (.s p.1)), out ++ [p.1]), ?_, rfl, ?_⟩
      · refine List.Perm.trans ?_ hok
        show ((out ++ [p.1]) ++ (L.erase (.c (.s p.1))).map keyV).Perm (out ++ L.map keyV)
        rw [List.append_assoc]
        refine List.Perm.append_left out ?_
        exact ((List.perm_cons_erase hl).map keyV).symm
      · refine Mv.k1 ?_
        · exact fun i hi j hj => WC.eq (strG_snoc hi hj) rfl
    · rintro r ⟨L, out⟩ hok hl
      have hL : L = [] := hl
      subst hL
      have hout : out.Perm (E.map Prod.fst) := by simpa using hok
      have hlen : out.length = E.length := by
        have := hout.length_eq
        simpa using this
      conv=>whnf
      refine AWn.ofVc hΓ ?_
      ((conv=>whnf);(repeat' ((first|refine Nd ?_|refine Hv fun _h=>?_);conv=>whnf)))
      have hsp := strings_spec 9 out (by omega)
      refine CallN.autoQ [0] strings_body hsp ?_ (h := ?_)
      rotate_left
      · exact WR.cons rfl (WO.arr rfl fun i hi j hj => WC.imm rfl) WR.nil
      ((conv=>whnf);(repeat' ((first|refine Nd ?_|refine Hv fun _h=>?_);conv=>whnf)))
      rw [← sortB_perm_eq hout hnd]
      refine RM.fz 0 rfl (Nat.zero_le _) (fun _ _ _ _ => (by first | exact rfl | exact evCell_imm _ _ | exact zoneAt_imm _ _ _ | exact zoneAtT_imm _ _ _)) ?_; refine RM.wkW ?_ ?_ (Nat.zero_le _) <;> (first|exact wb0|refine wb1 ?_|refine wb2 ?_ ?_|refine wb3 ?_ ?_ ?_|refine wb4 ?_ ?_ ?_ ?_)
      exact fzStrs (sortB_len out) fun _ _ _ _ => rfl
theorem values_body : HasBody Tryz.prog 18 := hB Tryz.func18

/-- What the program finds. -/
def blockM (v : ByteArray) (l : List Evt) : List Int × Bool := if singleM v l = true then (match endsM v l true with
  | [] => ([], false)
  | p :: _ => (p.2, true)) else ([], false)
theorem block_spec (v : ByteArray) (l : List Evt) (hl : l.length ≤ 10000000) : PSpec Tryz.prog 16 [.c (.str v), .c (evC l)] (.t [.inl (intsC (blockM v l).1), .inl (.bool (blockM v l).2)]) := by
  have hst := start_spec v l hl
  cases hs : singleM v l with
  | false =>
    rw [startR_no hs] at hst
    rw [show blockM v l = ([], false) by unfold blockM; rw [if_neg (by rw [hs]; simp)]]
    refine PSpec.rm ?_
    refine ov hΓ Tryz.func16 35 0 [.tmp 4, .tmp 5] Tryz.ntmps16 Tryz.results16 ?_
    ((conv=>whnf);(repeat' ((first|refine Nd ?_|refine Hv fun _h=>?_);conv=>whnf)))
    refine CallN.autoQ [] start_body hst ?_
    ((conv=>whnf);(repeat' ((first|refine Nd ?_|refine Hv fun _h=>?_);conv=>whnf)))
    refine Br.yes rfl ?_
    ((conv=>whnf);(repeat' ((first|refine Nd ?_|refine Hv fun _h=>?_);conv=>whnf)))
    exact RM.i0
  | true =>
    obtain ⟨hp1, hp2, hp3, hp4⟩ := probOf_ok hs
    have hsz := walk_sizes (pr := probOf l) (one := true) (f := 21) (single_size hs)
    have h1 : (endsM v l true).length ≤ 1 := walk_one
    have hwk := walk_nil_spec (probOf l) true v hp1 hp2 hp3 hp4
    rw [startR_yes hs] at hst
    have hb : blockM v l = (match endsM v l true with
      | [] => ([], false)
      | p :: _ => (p.2, true)) := by unfold blockM; rw [if_pos hs]
    rw [hb]
    have hE : (walkM (probOf l) true 21 0 v [] ([], [])).2 = endsM v l true := rfl
    rw [hE] at hwk hsz
    generalize endsM v l true = E at *
    refine PSpec.rm ?_
    refine CSpec.of_aw hΓ Tryz.func16 35 0 [.tmp 4, .tmp 5] Tryz.ntmps16 ?_
    refine AWn.seq hΓ ?_
    ((conv=>whnf);(repeat' ((first|refine Nd ?_|refine Hv fun _h=>?_);conv=>whnf)))
    refine AWn.seq hΓ ?_
    ((conv=>whnf);(repeat' ((first|refine Nd ?_|refine Hv fun _h=>?_);conv=>whnf)))
    refine CallN.autoQ [] start_body hst ?_
    ((conv=>whnf);(repeat' ((first|refine Nd ?_|refine Hv fun _h=>?_);conv=>whnf)))
    refine AWn.seq hΓ ?_
    ((conv=>whnf);(repeat' ((first|refine Nd ?_|refine Hv fun _h=>?_);conv=>whnf)))
    refine Br.no rfl ?_
    ((conv=>whnf);(repeat' ((first|refine Nd ?_|refine Hv fun _h=>?_);conv=>whnf)))
    refine AWn.seq hΓ ?_
    ((conv=>whnf);(repeat' ((first|refine Nd ?_|refine Hv fun _h=>?_);conv=>whnf)))
    refine AWn.seq hΓ ?_
    ((conv=>whnf);(repeat' ((first|refine Nd ?_|refine Hv fun _h=>?_);conv=>whnf)))
    refine CallN.autoQ [0, 1, 2] walk_body hwk ?_
    ((conv=>whnf);(repeat' ((first|refine Nd ?_|refine Hv fun _h=>?_);conv=>whnf)))
    refine AWn.assoc ?_
    refine AWn.rgN hΓ 4 rfl ?_
    ((conv=>whnf);(repeat' ((first|refine Nd ?_|refine Hv fun _h=>?_);conv=>whnf)))
    refine RgN.mk hΓ rfl 2 rfl rfl rfl rfl rfl rfl rfl rfl rfl rfl rfl rfl rfl rfl rfl rfl rfl ⟨rfl, rfl⟩ rfl rfl rfl ?_ (fun _ => rfl) (ι := List Key)
      (fun r i => [(29, .c (.raw r))]) (fun i => []) (fun i => i.Perm (E.map keyN)) (fun i => i) (E.map keyN) (List.Perm.refl _) rfl
      [] ?_ ?_ (fun _ _ => rfl) ?_ ?_
    · intro k hk
      obtain ⟨p, h1, rfl⟩ := mem_key hk
      show p.1.size ≤ maxLen
      rw [hsz p h1]; unfold maxLen; omega
    · exact wb0
    · intro r
      exact Mv.k0
    · rintro r L key hok hl hks
      obtain ⟨p, h2, rfl⟩ := mem_key hks
      obtain ⟨q, rfl⟩ : ∃ q, E = [q] := by
        match E, h1, h2 with
        | [q], _, _ => exact ⟨q, rfl⟩
      simp only [List.mem_singleton] at h2
      subst h2
      ((conv=>whnf);(repeat' ((first|refine Nd ?_|refine Hv fun _h=>?_);conv=>whnf)))
      rw [show endOf [p] (keyV (Key.c (KC.s p.1))) = p.2 by simp [endOf, keyV]]
      exact RM.i0
    · rintro r L hok hl
      have hL : L = [] := hl
      subst hL
      have hE0 : E = [] := by
        have := hok.length_eq
        simpa using this.symm
      subst hE0
      conv=>whnf
      refine AWn.ofVc hΓ ?_
      ((conv=>whnf);(repeat' ((first|refine Nd ?_|refine Hv fun _h=>?_);conv=>whnf)))
      exact RM.i0
theorem block_body : HasBody Tryz.prog 16 := hB Tryz.func16
end Go.Proofs
