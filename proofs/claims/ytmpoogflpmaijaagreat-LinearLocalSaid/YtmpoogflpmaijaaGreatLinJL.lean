/- Part of the proofs of laws of this seat: contracts and plain lemmas; no condition is added to a statement. -/
import Derived.Test.YtmpoogflpmaijaaGreatLinIL
import Derived.Test.YtmpoogflpmaijaaGreatAmF
import Derived.Test.YtmpoogflpmaijaaGreatLi9
import Derived.Test.YtmpoogflpmaijaaGreatLi5
set_option linter.unusedSimpArgs false
set_option linter.unusedVariables false
section
open Go Go.Am
namespace Go.Proofs
set_option maxRecDepth 20000
set_option maxHeartbeats 2000000
def cntB (l : List Evt) (b : Int) (j : Nat) : Nat := ((l.take j).filter (inB b)).length
def delS (l : List Evt) (b : Int) : Nat → List Evt
  | 0 => l
  | j + 1 => if inB b (l.getD j default) = true then (delS l b j).set (cntB l b j) (l.getD j default) else delS l b j
theorem delS_len (l : List Evt) (b : Int) : ∀ j, (delS l b j).length = l.length
  | 0 => rfl
  | j + 1 => by
    rw [delS]
    split
    · rw [List.length_set, delS_len l b j]
    · exact delS_len l b j
theorem cntB_succ {l : List Evt} {b : Int} {j : Nat} (hj : j < l.length) : cntB l b (j + 1) = if inB b (l.getD j default) = true then cntB l b j + 1 else cntB l b j := by
  unfold cntB
  rw [take_filter_step hj]
  split <;> simp
theorem cntB_le (l : List Evt) (b : Int) (j : Nat) : cntB l b j ≤ j := by
  unfold cntB
  exact Nat.le_trans (List.length_filter_le _ _) (by rw [List.length_take]; omega)
theorem delS_get {l : List Evt} {b : Int} : ∀ {j : Nat}, j ≤ l.length → (∀ r, j ≤ r → (delS l b j).getD r default = l.getD r default) ∧ ∀ r, r < cntB l b j → (delS l b j).getD r default = ((l.take j).filter (inB b)).getD r default
  | 0, _ => ⟨fun _ _ => rfl, fun r hr => by simp [cntB] at hr⟩
  | j + 1, hj => by
    obtain ⟨h1, h2⟩ := delS_get (l := l) (b := b) (j := j) (by omega)
    have hc := cntB_le l b j
    have hlen := delS_len l b j
    rw [delS, cntB_succ (show j < l.length by omega), take_filter_step (show j < l.length by omega)]
    by_cases c : inB b (l.getD j default) = true
    · simp only [c, if_true]
      have hset : ∀ r, ((delS l b j).set (cntB l b j) (l.getD j default)).getD r default = if r = cntB l b j then l.getD j default else (delS l b j).getD r default := fun r => by
        by_cases e : r = cntB l b j
        · subst e
          rw [if_pos rfl]
          have : cntB l b j < (delS l b j).length := by omega
          simp [List.getD, this]
        · rw [if_neg e]
          simp only [List.getD]
          rw [List.getElem?_set_ne (by omega)]
      refine ⟨fun r hr => ?_, fun r hr => ?_⟩
      · rw [hset, if_neg (by omega)]; exact h1 r (by omega)
      · rw [hset]
        by_cases e : r = cntB l b j
        · rw [if_pos e, e]
          exact getD_snoc_eq.symm
        · rw [if_neg e, h2 r (by omega)]
          have : r < ((l.take j).filter (inB b)).length := by have : cntB l b j = ((l.take j).filter (inB b)).length := rfl; omega
          rw [getD_snoc_lt this]
    · simp only [c]
      exact ⟨fun r hr => h1 r (by omega), fun r hr => h2 r hr⟩
theorem firstNot_all {l : List Evt} {b : Int} : ∀ {k : Nat}, k ≤ l.length → firstNot l b k = none → delS l b k = l ∧ cntB l b k = k ∧ (l.take k).filter (inB b) = l.take k
  | 0, _, _ => ⟨rfl, rfl, rfl⟩
  | k + 1, hk, h => by
    rw [firstNot] at h
    cases hc : firstNot l b k with
    | some i => rw [hc] at h; cases h
    | none =>
      rw [hc] at h
      obtain ⟨h1, h2, h3⟩ := firstNot_all (by omega) hc
      have hi : inB b (l.getD k default) = true := by
        by_cases c : inB b (l.getD k default) = true
        · exact c
        · simp only [c] at h; cases h
      refine ⟨?_, ?_, ?_⟩
      · rw [delS, if_pos hi, h1, h2]
        have : l.getD k default = l[k] := getD_at (by omega)
        rw [this]; exact List.set_getElem_self _
      · rw [cntB_succ (by omega), if_pos hi, h2]
      · rw [take_filter_step (by omega), if_pos hi, h3]
        exact (getD_snoc_take (by omega)).symm
theorem firstNot_some {l : List Evt} {b : Int} : ∀ {k i : Nat}, firstNot l b k = some i → i < k ∧ firstNot l b i = none ∧ inB b (l.getD i default) = false
  | 0, i, h => by cases h
  | k + 1, i, h => by
    rw [firstNot] at h
    cases hc : firstNot l b k with
    | some j =>
      rw [hc] at h
      have : j = i := by simpa using h
      subst this
      obtain ⟨h1, h2⟩ := firstNot_some hc
      exact ⟨by omega, h2⟩
    | none =>
      rw [hc] at h
      by_cases c : inB b (l.getD k default) = true
      · simp only [c, if_true] at h; cases h
      · simp only [c] at h
        have : k = i := by simpa using h
        subst this
        exact ⟨by omega, hc, by simpa using c⟩
def padE (l : List Evt) (b : Int) : List Evt := restrictM l b ++ List.replicate (l.length - (restrictM l b).length) default
theorem padE_len (l : List Evt) (b : Int) : (padE l b).length = l.length := by
  have : (restrictM l b).length ≤ l.length := List.length_filter_le _ _
  unfold padE; rw [List.length_append, List.length_replicate]; omega
theorem evs_set {d : List Evt} {k : Nat} {x : Evt} (hk : k < d.length) (i j : Nat) (hj : j < 8) : updG (evG d) k 0 x.cells i j = evG (d.set k x) i j := by
  refine rowG_set hk (es := 8) (fun j hj => ?_) i j hj
  rw [if_pos (by simp [Evt.cells]; omega), Nat.sub_zero, cells_lget]
theorem padE_get {l : List Evt} {b : Int} (i : Nat) : (padE l b).getD i default = if i < (restrictM l b).length then (restrictM l b).getD i default else default := by
  unfold padE
  by_cases c : i < (restrictM l b).length
  · rw [if_pos c]; simp [List.getD, List.getElem?_append_left c]
  · rw [if_neg c]
    simp only [List.getD]
    rw [List.getElem?_append_right (by omega), List.getElem?_replicate]
    split <;> rfl
def capP : C := .fn (.func 56) 1 fun _ => .ptr 0 0
theorem capP_WC {ρ : Nat → Nat} {n : Nat} (h0 : 0 = ρ 0) (hn : 0 < n) : WC ρ n capP capP := ⟨⟨rfl, rfl, fun j hj => (WC.ptr h0 hn).out⟩⟩
theorem delE_spec (l : List Evt) (b : Int) (hl : l.length ≤ 10000000) : CSpec Tryz.prog 55 [.c (.sl 1 8 l.length l.length false), .c capP] [.vr [.int .i64 b], .arr 52 8 l.length (evG l)] fun s H => s = .c (.sl 1 8 (restrictM l b).length l.length false) ∧ H = [.vr [.int .i64 b], .arr 52 8 l.length (evG (padE l b))] := by
  refine CSpec.rm ?_
  refine ov hΓ Tryz.func55 42 2 [.tmp 4] Tryz.ntmps55 Tryz.results55 ?_
  ((conv=>whnf);(repeat' ((first|refine Nd ?_|refine Hv fun _h=>?_);conv=>whnf)))
  refine CallN.reads (args' := [.c (evC l), .c (capB b)]) idxE_body (idxE_spec l b hl) (BwA.cons (BwS.c (bwEvs rfl rfl fun _ _ _ _ => rfl)) (BwA.cons (BwS.c (Bw.fn1 (g := fun _ => .ptr 0 0) (g' := fun _ => .ip 1 fun _ => .int .i64 b) (Bw.ptr1 rfl rfl))) BwA.nil)) rfl ?_
  ((conv=>whnf);(repeat' ((first|refine Nd ?_|refine Hv fun _h=>?_);conv=>whnf)))
  cases hf : firstNot l b l.length with
  | none =>
    obtain ⟨h1, h2, h3⟩ := firstNot_all (Nat.le_refl _) hf
    have e1 : restrictM l b = l := by
      unfold restrictM
      rw [List.take_length] at h3
      exact h3
    have e2 : padE l b = l := by unfold padE; rw [e1]; simp
    rw [e1, e2]
    refine Br.yes rfl ?_
    ((conv=>whnf);(repeat' ((first|refine Nd ?_|refine Hv fun _h=>?_);conv=>whnf)))
    refine ⟨_, _, RM.refl, rfl, rfl⟩
  | some i0 =>
    obtain ⟨hi0, hno, hnot⟩ := firstNot_some hf
    obtain ⟨h1, h2, h3⟩ := firstNot_all (by omega) hno
    refine Br.no (by simp [idxI]) ?_
    ((conv=>whnf);(repeat' ((first|refine Nd ?_|refine Hv fun _h=>?_);conv=>whnf)))
    have ei : idxI (some i0) = (i0 : Int) := rfl
    rw [ei]
    have hd0 : delS l b (i0 + 1) = l := by rw [delS, if_neg (by rw [hnot]; simp), h1]
    have hc0 : cntB l b (i0 + 1) = i0 := by rw [cntB_succ hi0, if_neg (by rw [hnot]; simp), h2]
    refine Lp.mkK hΓ (ι := Nat) [0, 1] (fun j => [(6, .c (.int .i64 j)), (5, .c (.int .i64 (cntB l b j)))]) (fun j => [.vr [.int .i64 b], .arr 52 8 l.length (evG (delS l b j))]) (fun j => j ≤ l.length) (fun j => l.length - j) (i0 + 1) (by omega) ?_ ?_
    · rw [hd0, hc0]
      refine Mv.k2 ?_ ?_
      · exact fun i _ j _ => WC.imm (evCell_imm _ _)
      · exact capP_WC rfl leN
    · intro j hj
      have hcj := cntB_le l b j
      have hlen := delS_len l b j
      obtain ⟨g1, g2⟩ := delS_get (b := b) hj
      ((conv=>whnf);(repeat' ((first|refine Nd ?_|refine Hv fun _h=>?_);conv=>whnf)))
      refine Br.of (fun hx=>?_) (fun hx=>?_)<;>(try simp only [Int.toNat_natCast] at hx)<;>(conv=>whnf)
      · ((conv=>whnf);(repeat' ((first|refine Nd ?_|refine Hv fun _h=>?_);conv=>whnf)))
        have hj' : j < l.length := by omega
        have e0 : (j : Int).toNat = j := by simp
        have ec : ((cntB l b j : Nat) : Int).toNat = cntB l b j := by simp
        have hgj := g1 j (Nat.le_refl _)
        have hcs := cntB_succ (b := b) hj'
        have hds : delS l b (j + 1) = if inB b (l.getD j default) = true then (delS l b j).set (cntB l b j) (l.getD j default) else delS l b j := rfl
        rw [e0]
        generalize hxx : l.getD j default = x at *
        refine Frc.mk (.a x.cells) (congrArg S.a (show Evt.cells ((delS l b j).getD j default) = x.cells by rw [hgj])) ?_
        ((conv=>whnf);(repeat' ((first|refine Nd ?_|refine Hv fun _h=>?_);conv=>whnf)))
        refine CallN.reads (args' := [.a x.cells, .c (.ip 1 fun _ => .int .i64 b)]) rst1_body (rst1_spec x b) (BwA.cons (BwS.a (BwL.same rfl)) (BwA.cons (BwS.c (Bw.ptr1 rfl rfl)) BwA.nil)) rfl ?_
        ((conv=>whnf);(repeat' ((first|refine Nd ?_|refine Hv fun _h=>?_);conv=>whnf)))
        cases hi : inB b x with
        | true =>
          rw [hi, if_pos rfl] at hcs hds
          refine Br.yes rfl ?_
          ((conv=>whnf);(repeat' ((first|refine Nd ?_|refine Hv fun _h=>?_);conv=>whnf)))
          refine ⟨j + 1, by omega, by omega, ?_⟩
          rw [hcs, hds]
          refine Mv.k2 ?_ ?_
          · exact fun i hi j' hj2 => WC.eq (by rw [ec]; exact evs_set (x := x) (by omega) i j' hj2) (evCell_imm _ _)
          · exact capP_WC rfl leN
        | false =>
          rw [hi, if_neg (by simp)] at hcs hds
          refine Br.no rfl ?_
          ((conv=>whnf);(repeat' ((first|refine Nd ?_|refine Hv fun _h=>?_);conv=>whnf)))
          refine ⟨j + 1, by omega, by omega, ?_⟩
          rw [hcs, hds]
          refine Mv.k2 ?_ ?_
          · exact fun i _ j _ => WC.imm (evCell_imm _ _)
          · exact capP_WC rfl leN
      · ((conv=>whnf);(repeat' ((first|refine Nd ?_|refine Hv fun _h=>?_);conv=>whnf)))
        have : j = l.length := by omega
        subst this
        have ec : ((cntB l b l.length : Nat) : Int).toNat = (restrictM l b).length := by
          unfold cntB restrictM
          rw [List.take_length]; simp
        rw [ec]
        refine ⟨.c (.sl 1 8 (restrictM l b).length l.length false), [.vr [.int .i64 b], .arr 52 8 l.length (evG (padE l b))], ?_, rfl, rfl⟩
        refine RM.w1 ?_
        intro i hi j hj
        refine WC.eq ?_ (evCell_imm _ _)
        show (if (restrictM l b).length ≤ i ∧ i < (restrictM l b).length + (l.length - (restrictM l b).length) then _ else evG (delS l b l.length) i j) = Evt.cell ((padE l b).getD i default) j
        rw [padE_get]
        by_cases c : i < (restrictM l b).length
        · rw [if_neg (by omega), if_pos c]
          have := g2 i (by rw [show cntB l b l.length = (restrictM l b).length by simpa using ec]; exact c)
          rw [List.take_length] at this
          show Evt.cell ((delS l b l.length).getD i default) j = _
          rw [this]; rfl
        · rw [if_pos (by omega), if_neg c]
          exact (cells_lget default j)
end Go.Proofs
end

section
open Go Go.Am
namespace Go.Proofs
set_option maxRecDepth 20000
set_option maxHeartbeats 2000000
theorem delE_body : HasBody Tryz.prog 55 := hB Tryz.func55
theorem capP_rho {n : Nat} {rs : List Nat} {g : Nat → C} (hg : g 0 = .ptr 0 0) (h0 : rho rs 0 = 0) (hn : 0 < n := by decide) : WC (rho rs) n (.fn (.func 56) 1 g) capP := ⟨⟨rfl, rfl, fun j hj => by
  have : j = 0 := by omega
  subst this
  rw [hg]
  exact (WC.ptr h0.symm hn).out⟩⟩
theorem restrictO_spec (l : List Evt) (b : Int) (hl : l.length ≤ 10000000) : CSpec Tryz.prog 31 [.c (evC l), .c (.int .i64 b)] [] fun s H => s = .c (.sl 0 8 (restrictM l b).length l.length false) ∧ H = [.arr 52 8 l.length (evG (padE l b))] := by
  refine CSpec.rm ?_
  refine ov hΓ Tryz.func31 11 0 [.tmp 4] Tryz.ntmps31 Tryz.results31 ?_
  ((conv=>whnf);(repeat' ((first|refine Nd ?_|refine Hv fun _h=>?_);conv=>whnf)))
  refine CallN.autoQ [] cloneEvO_body (cloneEvO_spec l.length (evG l) false hl fun _ _ _ _ => evCell_imm _ _) ?_
  ((conv=>whnf);(repeat' ((first|refine Nd ?_|refine Hv fun _h=>?_);conv=>whnf)))
  refine CallN.autoQ [0, 1] delE_body (delE_spec l b hl) ?_ (h := ?_) (ha := WB.cons (WS.c wb0) (WB.cons (WS.c (capP_rho rfl rfl leN)) WB.nil))
  · ((conv=>whnf);(repeat' ((first|refine Nd ?_|refine Hv fun _h=>?_);conv=>whnf)))
    refine ⟨.c (.sl 0 8 (restrictM l b).length l.length false), [.arr 52 8 l.length (evG (padE l b))], ?_, rfl, rfl⟩
    refine RM.renW [1] (by decide) ?_ ?_ <;> (first|exact wb0|refine wb1 ?_|refine wb2 ?_ ?_|refine wb3 ?_ ?_ ?_|refine wb4 ?_ ?_ ?_ ?_)
    exact fun i _ j _ => WC.reI (evCell_imm _ _)
  · refine wb1 ?_
    exact fun i _ j _ => WC.reI (evCell_imm _ _)
theorem restrictO_body : HasBody Tryz.prog 31 := hB Tryz.func31
end Go.Proofs
end
