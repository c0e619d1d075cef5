import Derived.Test.YtbdhjlanfigdgaaZ2
open Go Go.Am
namespace Go.Proofs

theorem begin_spec (d : Dev) (zone : Int) : CSpec Try.prog 49 [d.s, .c (.int .i64 zone)] [] (beginQ d zone) := by
  refine CSpec.rm ?_
  refine CSpec.of_vc hΓ Try.func49 rfl 33 0 [.cell 4 24, .tmp 5] Try.ntmps49 rfl (by rw [Try.results49]) rfl ?_
  conv => whnf
  refine CallN.pure check_body (check_spec d ) (leA.refl rfl) rfl ?_
  conv => whnf
  repeat' ((first | refine Need.mk (by first | (simp; done) | omega | decide | (simp_all; done) | (intro _h; simp_all; done) | (simp_all; omega)) ?_ | refine Have.mk (fun _h => ?_)); conv => whnf)
  have bad : ∀ (e : Int) (H : List O), beginE d zone = e → e ≠ 0 → ∃ s' H'', RM 0 (.t [.inr d.cells, .inl (.int .i64 e)]) H s' H'' ∧ beginQ d zone s' H'' := by
    intro e H he hne
    refine ⟨_, [], RM.imm rfl (wkS.imm rfl), ?_⟩
    unfold beginQ
    rw [if_neg (by rw [he]; exact hne), he]
    exact ⟨rfl, rfl⟩
  (first | refine Br.lt (fun h1 => ?_) (fun h1 => ?_) | refine Br.le (fun h1 => ?_) (fun h1 => ?_) | refine Br.gt (fun h1 => ?_) (fun h1 => ?_) | refine Br.ge (fun h1 => ?_) (fun h1 => ?_) | refine Br.eq (fun h1 => ?_) (fun h1 => ?_) | refine Br.ne (fun h1 => ?_) (fun h1 => ?_) | refine Br.not (fun h1 => ?_) (fun h1 => ?_) | refine Br.mk (fun h1 => ?_) (fun h1 => ?_)) <;> (conv => whnf)
  · repeat' ((first | refine Need.mk (by first | (simp; done) | omega | decide | (simp_all; done) | (intro _h; simp_all; done) | (simp_all; omega)) ?_ | refine Have.mk (fun _h => ?_)); conv => whnf)
    exact bad _ _ (by simp only [beginE]; rw [if_neg h1]) h1
  · repeat' ((first | refine Need.mk (by first | (simp; done) | omega | decide | (simp_all; done) | (intro _h; simp_all; done) | (simp_all; omega)) ?_ | refine Have.mk (fun _h => ?_)); conv => whnf)
    (first | refine Br.lt (fun h2 => ?_) (fun h2 => ?_) | refine Br.le (fun h2 => ?_) (fun h2 => ?_) | refine Br.gt (fun h2 => ?_) (fun h2 => ?_) | refine Br.ge (fun h2 => ?_) (fun h2 => ?_) | refine Br.eq (fun h2 => ?_) (fun h2 => ?_) | refine Br.ne (fun h2 => ?_) (fun h2 => ?_) | refine Br.not (fun h2 => ?_) (fun h2 => ?_) | (refine Br.mk (fun h2 => ?_) (fun h2 => ?_) <;> simp [-List.length_eq_zero_iff, -List.getD_eq_getElem?_getD] at h2)) <;> (conv => whnf)
    · repeat' ((first | refine Need.mk (by first | (simp; done) | omega | decide | (simp_all; done) | (intro _h; simp_all; done) | (simp_all; omega)) ?_ | refine Have.mk (fun _h => ?_)); conv => whnf)
      have : decide (0 ≤ zone ∧ zone < d.zones.length) = false := by simp only [decide_eq_false_iff_not]; omega
      exact bad _ _ (by simp only [beginE]; rw [if_pos h1, this]; rfl) (by decide)
    · repeat' ((first | refine Need.mk (by first | (simp; done) | omega | decide | (simp_all; done) | (intro _h; simp_all; done) | (simp_all; omega)) ?_ | refine Have.mk (fun _h => ?_)); conv => whnf)
      have hz : decide (0 ≤ zone ∧ zone < d.zones.length) = true := by simp only [decide_eq_true_eq]; omega
      (first | refine Br.lt (fun h3 => ?_) (fun h3 => ?_) | refine Br.le (fun h3 => ?_) (fun h3 => ?_) | refine Br.gt (fun h3 => ?_) (fun h3 => ?_) | refine Br.ge (fun h3 => ?_) (fun h3 => ?_) | refine Br.eq (fun h3 => ?_) (fun h3 => ?_) | refine Br.ne (fun h3 => ?_) (fun h3 => ?_) | refine Br.not (fun h3 => ?_) (fun h3 => ?_) | refine Br.mk (fun h3 => ?_) (fun h3 => ?_)) <;> (conv => whnf)
      · repeat' ((first | refine Need.mk (by first | (simp; done) | omega | decide | (simp_all; done) | (intro _h; simp_all; done) | (simp_all; omega)) ?_ | refine Have.mk (fun _h => ?_)); conv => whnf)
        exact bad _ _ (by simp only [beginE]; rw [if_pos h1, hz, if_pos rfl, if_pos h3]) (by decide)
      · repeat' ((first | refine Need.mk (by first | (simp; done) | omega | decide | (simp_all; done) | (intro _h; simp_all; done) | (simp_all; omega)) ?_ | refine Have.mk (fun _h => ?_)); conv => whnf)
        have he : beginE d zone = 0 := by simp only [beginE]; rw [if_pos h1, hz, if_pos rfl, if_neg h3]
        refine CallN.opens clone_body (clone_spec d (check_ok.1 h1).small) (leA.refl rfl) ?_
        rintro s Hc ⟨rfl, rfl⟩
        refine ⟨.a (d.own 2), [.vr d.cells, .vr [.int .i64 0, .int .i64 0, .int .i64 0, .nils], .arr 28 3 d.zones.length (zoneAtT d.zones)], rfl, congrArg (fun g => [O.vr d.cells, O.vr [.int .i64 0, .int .i64 0, .int .i64 0, .nils], O.arr 28 3 d.zones.length g]) (reC_zoneAtT _ _), ?_⟩
        conv => whnf
        repeat' ((first | refine Need.mk (by first | (simp; done) | omega | decide | (simp_all; done) | (intro _h; simp_all; done) | (simp_all; omega)) ?_ | refine Have.mk (fun _h => ?_)); conv => whnf)
        refine ⟨.t [.inr (d.own 0), .inl (.int .i64 0)], [.arr 28 3 d.zones.length (zoneAtT d.zones)], RM.ren1 2 rfl rfl (fun i hi j hj => wkC.imm (zoneAtT_imm _ _ _)) (wkS.t ⟨⟨wkC.imm rfl, wkC.imm rfl, wkC.imm rfl, wkC.own rfl rfl (fun e => e), trivial⟩, wkC.imm rfl, trivial⟩), ?_⟩
        unfold beginQ
        rw [if_pos he]
        exact ⟨rfl, rfl⟩
theorem begin_body : HasBody Try.prog 49 := ⟨⟨Try.f49, Try.func49, rfl, by kernel_rfl⟩⟩

theorem shut_spec (l : List Zone) (i : Nat) (hi : i < l.length) : CSpec Try.prog 68 [.c (.ep 0 i 0 l.length)] [.arr 28 3 l.length (zoneAtT l)] fun s H => s = .t [] ∧ H = [.arr 28 3 l.length (zoneAtT (shutAt l i))] := by
  refine CSpec.rm ?_
  refine CSpec.of_vc hΓ Try.func68 rfl 14 1 [] Try.ntmps68 rfl (by rw [Try.results68]) rfl ?_
  conv => whnf
  repeat' ((first | refine Need.mk (by first | (simp; done) | omega | decide | (simp_all; done) | (intro _h; simp_all; done) | (simp_all; omega)) ?_ | refine Have.mk (fun _h => ?_)); conv => whnf)
  refine Frc.mk (.c (strsT (l.getD i default).sectors)) (by simp only [updG_one]; rfl) ?_
  conv => whnf
  repeat' ((first | refine Need.mk (by first | (simp; done) | omega | decide | (simp_all; done) | (intro _h; simp_all; done) | (simp_all; omega)) ?_ | refine Have.mk (fun _h => ?_)); conv => whnf)
  (first | refine Br.lt (fun h => ?_) (fun h => ?_) | refine Br.le (fun h => ?_) (fun h => ?_) | refine Br.gt (fun h => ?_) (fun h => ?_) | refine Br.ge (fun h => ?_) (fun h => ?_) | refine Br.eq (fun h => ?_) (fun h => ?_) | refine Br.ne (fun h => ?_) (fun h => ?_) | refine Br.not (fun h => ?_) (fun h => ?_) | refine Br.mk (fun h => ?_) (fun h => ?_)) <;> (conv => whnf)
  · repeat' ((first | refine Need.mk (by first | (simp; done) | omega | decide | (simp_all; done) | (intro _h; simp_all; done) | (simp_all; omega)) ?_ | refine Have.mk (fun _h => ?_)); conv => whnf)
    refine ⟨.t [], [.arr 28 3 l.length (zoneAtT (shutAt l i))], RM.wk 1 rfl ⟨O.wk.arr rfl (fun a ha b hb => wkC.of_eq (zoneAtT_imm _ _ _) ?_), trivial⟩ (wkS.t trivial) (Nat.le_refl _), rfl, rfl⟩
    have h0 : (l.getD i default).sectors.length = 0 := by omega
    simp only [updG_one, shutAt, zoneAtT_set l i a b _ hi, shutZ, if_pos h0]
    by_cases c : a = i
    · subst c
      match b, hb with
      | 0, _ => simp [Zone.cellT]
      | 1, _ => simp [Zone.cellT, zoneAtT]
      | 2, _ => simp [Zone.cellT, zoneAtT]
    · simp [c]
  · repeat' ((first | refine Need.mk (by first | (simp; done) | omega | decide | (simp_all; done) | (intro _h; simp_all; done) | (simp_all; omega)) ?_ | refine Have.mk (fun _h => ?_)); conv => whnf)
    refine ⟨.t [], [.arr 28 3 l.length (zoneAtT (shutAt l i))], RM.wk 1 rfl ⟨O.wk.arr rfl (fun a ha b hb => wkC.of_eq (zoneAtT_imm _ _ _) ?_), trivial⟩ (wkS.t trivial) (Nat.le_refl _), rfl, rfl⟩
    have h0 : ¬ (l.getD i default).sectors.length = 0 := by omega
    simp only [updG_one, shutAt, zoneAtT_set l i a b _ hi, shutZ, if_neg h0]
    by_cases c : a = i
    · subst c
      match b, hb with
      | 0, _ => simp [Zone.cellT]
      | 1, _ => simp [Zone.cellT, zoneAtT]
      | 2, _ => simp [Zone.cellT, zoneAtT]
    · simp [c]
theorem shut_body : HasBody Try.prog 68 := ⟨⟨Try.f68, Try.func68, rfl, by kernel_rfl⟩⟩

theorem room_spec (d : Dev) (hd : d.zones.length ≤ 1000000) (zone : Nat) (hz : zone < d.zones.length) : CSpec Try.prog 52 [.a (d.own 0), .c (.int .i64 zone)] [.arr 28 3 d.zones.length (zoneAtT d.zones)]
    fun s H => s = .c (.int .i64 (roomX d zone).1) ∧ ((roomX d zone).1 = 0 → H = [.arr 28 3 d.zones.length (zoneAtT (roomX d zone).2)]) ∧ ∃ g, H = [.arr 28 3 d.zones.length g] := by
  refine CSpec.rm ?_
  refine CSpec.of_vc hΓ Try.func52 rfl 63 1 [.tmp 4] Try.ntmps52 rfl (by rw [Try.results52]) rfl ?_
  conv => whnf
  refine CallN.reads counts_body (counts_spec d) (bw_dev 0 rfl rfl) rfl ?_
  · conv => whnf
    repeat' ((first | refine Need.mk (by first | (simp; done) | omega | decide | (simp_all; done) | (intro _h; simp_all; done) | (simp_all; omega)) ?_ | refine Have.mk (fun _h => ?_)); conv => whnf)
    (first | refine Br.lt (fun h1 => ?_) (fun h1 => ?_) | refine Br.le (fun h1 => ?_) (fun h1 => ?_) | refine Br.gt (fun h1 => ?_) (fun h1 => ?_) | refine Br.ge (fun h1 => ?_) (fun h1 => ?_) | refine Br.eq (fun h1 => ?_) (fun h1 => ?_) | refine Br.ne (fun h1 => ?_) (fun h1 => ?_) | refine Br.not (fun h1 => ?_) (fun h1 => ?_) | refine Br.mk (fun h1 => ?_) (fun h1 => ?_)) <;> (conv => whnf)
    · repeat' ((first | refine Need.mk (by first | (simp; done) | omega | decide | (simp_all; done) | (intro _h; simp_all; done) | (simp_all; omega)) ?_ | refine Have.mk (fun _h => ?_)); conv => whnf)
      have s8 : firstOpen d.zones = d.zones.length → roomX d zone = (8, d.zones) := by
        intro e
        simp only [roomX]
        rw [if_pos (by omega), if_neg (by omega)]
      have s9 : firstOpen d.zones < d.zones.length → roomX d zone = if ((shutAt d.zones (firstOpen d.zones)).getD zone default).state ≠ 3 ∧ d.maxActive ≤ cntActive (shutAt d.zones (firstOpen d.zones)) then (9, shutAt d.zones (firstOpen d.zones)) else (0, shutAt d.zones (firstOpen d.zones)) := by
        intro e
        simp only [roomX]
        rw [if_pos (by omega), if_pos e]
      refine Lp.mk hΓ (ι := Nat × Int) (fun k => [(24, .c (.int .i64 k.1)), (23, .c (.int .i64 d.zones.length)), (22, .c (.sl 0 3 d.zones.length d.zones.length true)), (7, .c (.int .i64 k.2)), (4, .c (.int .i64 0)), (2, .c (.ptr 1 0)), (1, .c (.int .i64 zone))])
        (fun _ => [.arr 28 3 d.zones.length (zoneAtT d.zones), .vr (d.own 0)]) (fun k => k.1 ≤ d.zones.length ∧ ((k.2 = -1 ∧ ∀ i, i < k.1 → (d.zones.getD i default).state ≠ 1) ∨ (k.2 = firstOpen d.zones ∧ firstOpen d.zones < k.1))) (fun k => d.zones.length - k.1) (0, -1) ⟨Nat.zero_le _, .inl ⟨rfl, fun i hi => by omega⟩⟩ ?_ ?_
      · exact Mv.mk' 2 rfl ⟨O.wk.arr rfl (fun a ha b hb => wkC.imm (zoneAtT_imm _ _ _)), O.wk.vr ⟨wkC.imm rfl, wkC.imm rfl, wkC.imm rfl, wkC.sl (by decide) rfl rfl (fun e => e), trivial⟩, trivial⟩
          ⟨wkS.imm rfl, wkS.imm rfl, wkS.c (wkC.sl (by decide) rfl rfl (fun e => e)), wkS.imm rfl, wkS.imm rfl, wkS.c (wkC.ptr (by decide)), wkS.imm rfl, trivial⟩ (by decide)
      · rintro ⟨k, a⟩ ⟨hk, hka⟩
        simp only at hk hka
        conv => whnf
        repeat' ((first | refine Need.mk (by first | (simp; done) | omega | decide | (simp_all; done) | (intro _h; simp_all; done) | (simp_all; omega)) ?_ | refine Have.mk (fun _h => ?_)); conv => whnf)
        (first | refine Br.lt (fun h => ?_) (fun h => ?_) | refine Br.le (fun h => ?_) (fun h => ?_) | refine Br.gt (fun h => ?_) (fun h => ?_) | refine Br.ge (fun h => ?_) (fun h => ?_) | refine Br.eq (fun h => ?_) (fun h => ?_) | refine Br.ne (fun h => ?_) (fun h => ?_) | refine Br.not (fun h => ?_) (fun h => ?_) | refine Br.mk (fun h => ?_) (fun h => ?_)) <;> (conv => whnf)
        · repeat' ((first | refine Need.mk (by first | (simp; done) | omega | decide | (simp_all; done) | (intro _h; simp_all; done) | (simp_all; omega)) ?_ | refine Have.mk (fun _h => ?_)); conv => whnf)
          have hlt : k < d.zones.length := by omega
          refine Frc.mk _ rfl ?_; conv => whnf
          repeat' ((first | refine Need.mk (by first | (simp; done) | omega | decide | (simp_all; done) | (intro _h; simp_all; done) | (simp_all; omega)) ?_ | refine Have.mk (fun _h => ?_)); conv => whnf)
          have w0 := wrap_id (↑k + 1) (by omega) (by omega)
          (first | refine Br.lt (fun h2 => ?_) (fun h2 => ?_) | refine Br.le (fun h2 => ?_) (fun h2 => ?_) | refine Br.gt (fun h2 => ?_) (fun h2 => ?_) | refine Br.ge (fun h2 => ?_) (fun h2 => ?_) | refine Br.eq (fun h2 => ?_) (fun h2 => ?_) | refine Br.ne (fun h2 => ?_) (fun h2 => ?_) | refine Br.not (fun h2 => ?_) (fun h2 => ?_) | (refine Br.mk (fun h2 => ?_) (fun h2 => ?_) <;> simp [-List.length_eq_zero_iff, -List.getD_eq_getElem?_getD] at h2)) <;> (conv => whnf)
          · repeat' ((first | refine Need.mk (by first | (simp; done) | omega | decide | (simp_all; done) | (intro _h; simp_all; done) | (simp_all; omega)) ?_ | refine Have.mk (fun _h => ?_)); conv => whnf)
            have ha : firstOpen d.zones = k := by
              refine firstOpen_spec _ _ hlt ?_ h2.2
              rcases hka with ⟨_, hq⟩ | ⟨hq, _⟩
              · exact hq
              · omega
            refine ⟨(k + 1, (k : Int)), ⟨by simp only; omega, .inr ⟨by simp only; omega, by simp only; omega⟩⟩, by simp only; omega, Mv.mk' 2 rfl ⟨O.wk.arr rfl (fun a ha b hb => wkC.imm (zoneAtT_imm _ _ _)), O.wk.vr ⟨wkC.imm rfl, wkC.imm rfl, wkC.imm rfl, wkC.sl (by decide) rfl rfl (fun e => e), trivial⟩, trivial⟩
              ⟨wkS.c (wkC.int (by rw [w0]; rfl)), wkS.imm rfl, wkS.c (wkC.sl (by decide) rfl rfl (fun e => e)), wkS.imm rfl, wkS.imm rfl, wkS.c (wkC.ptr (by decide)), wkS.imm rfl, trivial⟩ (by decide)⟩
          · repeat' ((first | refine Need.mk (by first | (simp; done) | omega | decide | (simp_all; done) | (intro _h; simp_all; done) | (simp_all; omega)) ?_ | refine Have.mk (fun _h => ?_)); conv => whnf)
            refine ⟨(k + 1, a), ⟨by simp only; omega, ?_⟩, by simp only; omega, Mv.mk' 2 rfl ⟨O.wk.arr rfl (fun a ha b hb => wkC.imm (zoneAtT_imm _ _ _)), O.wk.vr ⟨wkC.imm rfl, wkC.imm rfl, wkC.imm rfl, wkC.sl (by decide) rfl rfl (fun e => e), trivial⟩, trivial⟩
              ⟨wkS.c (wkC.int (by rw [w0]; rfl)), wkS.imm rfl, wkS.c (wkC.sl (by decide) rfl rfl (fun e => e)), wkS.imm rfl, wkS.imm rfl, wkS.c (wkC.ptr (by decide)), wkS.imm rfl, trivial⟩ (by decide)⟩
            rcases hka with ⟨hq1, hq2⟩ | ⟨hq1, hq2⟩
            · refine .inl ⟨hq1, fun i hi => ?_⟩
              by_cases c : i = k
              · subst c; exact h2 (by omega)
              · exact hq2 i (by omega)
            · exact .inr ⟨hq1, by simp only; omega⟩
        · repeat' ((first | refine Need.mk (by first | (simp; done) | omega | decide | (simp_all; done) | (intro _h; simp_all; done) | (simp_all; omega)) ?_ | refine Have.mk (fun _h => ?_)); conv => whnf)
          have : k = d.zones.length := by omega
          subst this
          (first | refine Br.lt (fun h3 => ?_) (fun h3 => ?_) | refine Br.le (fun h3 => ?_) (fun h3 => ?_) | refine Br.gt (fun h3 => ?_) (fun h3 => ?_) | refine Br.ge (fun h3 => ?_) (fun h3 => ?_) | refine Br.eq (fun h3 => ?_) (fun h3 => ?_) | refine Br.ne (fun h3 => ?_) (fun h3 => ?_) | refine Br.not (fun h3 => ?_) (fun h3 => ?_) | refine Br.mk (fun h3 => ?_) (fun h3 => ?_)) <;> (conv => whnf)
          · repeat' ((first | refine Need.mk (by first | (simp; done) | omega | decide | (simp_all; done) | (intro _h; simp_all; done) | (simp_all; omega)) ?_ | refine Have.mk (fun _h => ?_)); conv => whnf)
            have hr := s8 (firstOpen_none _ (by
              rcases hka with ⟨_, hq⟩ | ⟨hq, _⟩
              · exact hq
              · omega))
            refine ⟨_, [.arr 28 3 d.zones.length (zoneAtT d.zones)], RM.wk 1 rfl ⟨O.wk.arr rfl (fun a ha b hb => wkC.imm (zoneAtT_imm _ _ _)), trivial⟩ (wkS.imm rfl) (Nat.le_refl _), ?_, ?_, ?_⟩
            · rw [hr]
            · rw [hr]; intro e; cases e
            · exact ⟨_, rfl⟩
          · repeat' ((first | refine Need.mk (by first | (simp; done) | omega | decide | (simp_all; done) | (intro _h; simp_all; done) | (simp_all; omega)) ?_ | refine Have.mk (fun _h => ?_)); conv => whnf)
            obtain ⟨ha, hlt⟩ : a = firstOpen d.zones ∧ firstOpen d.zones < d.zones.length := by
              rcases hka with ⟨hq, _⟩ | hq
              · omega
              · exact hq
            subst ha
            have hr0 := s9 hlt
            have hlen := shutAt_len d.zones (firstOpen d.zones)
            refine CallN.frame1 shut_body (shut_spec d.zones (firstOpen d.zones) hlt) 0 rfl (fun i _ j _ => wkC.imm (zoneAtT_imm _ _ _)) (wkA.cons (wkS.c (wkC.ep1 (by simp) rfl rfl)) wkA.nil) ?_
            · rintro s Hc ⟨rfl, rfl⟩
              refine ⟨.t [], [.arr 28 3 d.zones.length (zoneAtT (shutAt d.zones (firstOpen d.zones))), .vr (d.own 0)], rfl, congrArg (fun g => [O.arr 28 3 d.zones.length g, O.vr (d.own 0)]) (reC_zoneAtT _ _), ?_⟩
              · conv => whnf
                repeat' ((first | refine Need.mk (by first | (simp; done) | omega | decide | (simp_all; done) | (intro _h; simp_all; done) | (simp_all; omega)) ?_ | refine Have.mk (fun _h => ?_)); conv => whnf)
                refine CallN.reads counts_body (counts_spec { d with zones := (shutAt d.zones (firstOpen d.zones)) }) (bw_dev 0 rfl hlen.symm) rfl ?_
                conv => whnf
                repeat' ((first | refine Need.mk (by first | (simp; done) | omega | decide | (simp_all; done) | (intro _h; simp_all; done) | (simp_all; omega)) ?_ | refine Have.mk (fun _h => ?_)); conv => whnf)
                refine Frc.mk _ rfl ?_; conv => whnf
                repeat' ((first | refine Need.mk (by first | (simp; done) | omega | decide | (simp_all; done) | (intro _h; simp_all; done) | (simp_all; omega)) ?_ | refine Have.mk (fun _h => ?_)); conv => whnf)
                (first | refine Br.lt (fun h5 => ?_) (fun h5 => ?_) | refine Br.le (fun h5 => ?_) (fun h5 => ?_) | refine Br.gt (fun h5 => ?_) (fun h5 => ?_) | refine Br.ge (fun h5 => ?_) (fun h5 => ?_) | refine Br.eq (fun h5 => ?_) (fun h5 => ?_) | refine Br.ne (fun h5 => ?_) (fun h5 => ?_) | refine Br.not (fun h5 => ?_) (fun h5 => ?_) | (refine Br.mk (fun h5 => ?_) (fun h5 => ?_) <;> simp [-List.length_eq_zero_iff, -List.getD_eq_getElem?_getD] at h5)) <;> (conv => whnf)
                · repeat' ((first | refine Need.mk (by first | (simp; done) | omega | decide | (simp_all; done) | (intro _h; simp_all; done) | (simp_all; omega)) ?_ | refine Have.mk (fun _h => ?_)); conv => whnf)
                  have hr : roomX d zone = (9, (shutAt d.zones (firstOpen d.zones))) := hr0 ▸ if_pos (by omega)
                  refine ⟨_, [.arr 28 3 d.zones.length (zoneAtT (shutAt d.zones (firstOpen d.zones)))], RM.wk 1 rfl ⟨O.wk.arr rfl (fun a ha b hb => wkC.imm (zoneAtT_imm _ _ _)), trivial⟩ (wkS.imm rfl) (Nat.le_refl _), ?_, ?_, ?_⟩
                  · rw [hr]
                  · rw [hr]; intro e; cases e
                  · exact ⟨_, rfl⟩
                · repeat' ((first | refine Need.mk (by first | (simp; done) | omega | decide | (simp_all; done) | (intro _h; simp_all; done) | (simp_all; omega)) ?_ | refine Have.mk (fun _h => ?_)); conv => whnf)
                  have hr : roomX d zone = (0, (shutAt d.zones (firstOpen d.zones))) := hr0 ▸ if_neg (by omega)
                  refine ⟨_, [.arr 28 3 d.zones.length (zoneAtT (shutAt d.zones (firstOpen d.zones)))], RM.wk 1 rfl ⟨O.wk.arr rfl (fun a ha b hb => wkC.imm (zoneAtT_imm _ _ _)), trivial⟩ (wkS.imm rfl) (Nat.le_refl _), ?_, ?_, ?_⟩
                  · rw [hr]
                  · rw [hr]; intro _; rfl
                  · exact ⟨_, rfl⟩
    · repeat' ((first | refine Need.mk (by first | (simp; done) | omega | decide | (simp_all; done) | (intro _h; simp_all; done) | (simp_all; omega)) ?_ | refine Have.mk (fun _h => ?_)); conv => whnf)
      have hr0 : roomX d zone = if (d.zones.getD zone default).state ≠ 3 ∧ d.maxActive ≤ cntActive d.zones then (9, d.zones) else (0, d.zones) := by
        simp only [roomX]
        rw [if_neg (by omega)]
      refine CallN.reads counts_body (counts_spec { d with zones := d.zones }) (bw_dev 0 rfl rfl) rfl ?_
      conv => whnf
      repeat' ((first | refine Need.mk (by first | (simp; done) | omega | decide | (simp_all; done) | (intro _h; simp_all; done) | (simp_all; omega)) ?_ | refine Have.mk (fun _h => ?_)); conv => whnf)
      refine Frc.mk _ rfl ?_; conv => whnf
      repeat' ((first | refine Need.mk (by first | (simp; done) | omega | decide | (simp_all; done) | (intro _h; simp_all; done) | (simp_all; omega)) ?_ | refine Have.mk (fun _h => ?_)); conv => whnf)
      (first | refine Br.lt (fun h5 => ?_) (fun h5 => ?_) | refine Br.le (fun h5 => ?_) (fun h5 => ?_) | refine Br.gt (fun h5 => ?_) (fun h5 => ?_) | refine Br.ge (fun h5 => ?_) (fun h5 => ?_) | refine Br.eq (fun h5 => ?_) (fun h5 => ?_) | refine Br.ne (fun h5 => ?_) (fun h5 => ?_) | refine Br.not (fun h5 => ?_) (fun h5 => ?_) | (refine Br.mk (fun h5 => ?_) (fun h5 => ?_) <;> simp [-List.length_eq_zero_iff, -List.getD_eq_getElem?_getD] at h5)) <;> (conv => whnf)
      · repeat' ((first | refine Need.mk (by first | (simp; done) | omega | decide | (simp_all; done) | (intro _h; simp_all; done) | (simp_all; omega)) ?_ | refine Have.mk (fun _h => ?_)); conv => whnf)
        have hr : roomX d zone = (9, d.zones) := hr0 ▸ if_pos (by omega)
        refine ⟨_, [.arr 28 3 d.zones.length (zoneAtT d.zones)], RM.wk 1 rfl ⟨O.wk.arr rfl (fun a ha b hb => wkC.imm (zoneAtT_imm _ _ _)), trivial⟩ (wkS.imm rfl) (Nat.le_refl _), ?_, ?_, ?_⟩
        · rw [hr]
        · rw [hr]; intro e; cases e
        · exact ⟨_, rfl⟩
      · repeat' ((first | refine Need.mk (by first | (simp; done) | omega | decide | (simp_all; done) | (intro _h; simp_all; done) | (simp_all; omega)) ?_ | refine Have.mk (fun _h => ?_)); conv => whnf)
        have hr : roomX d zone = (0, d.zones) := hr0 ▸ if_neg (by omega)
        refine ⟨_, [.arr 28 3 d.zones.length (zoneAtT d.zones)], RM.wk 1 rfl ⟨O.wk.arr rfl (fun a ha b hb => wkC.imm (zoneAtT_imm _ _ _)), trivial⟩ (wkS.imm rfl) (Nat.le_refl _), ?_, ?_, ?_⟩
        · rw [hr]
        · rw [hr]; intro _; rfl
        · exact ⟨_, rfl⟩
theorem room_body : HasBody Try.prog 52 := ⟨⟨Try.f52, Try.func52, rfl, by kernel_rfl⟩⟩
end Go.Proofs
