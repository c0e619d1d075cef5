import Derived.Test.YtbdhjlanfigdgaaZ3
open Go Go.Am
namespace Go.Proofs

theorem read_spec (d : Dev) (zone off : Int) : PSpec Try.prog 32 [d.s, .c (.int .i64 zone), .c (.int .i64 off)] (.t [.inl (.str (readS d zone off)), .inl (.int .i64 (readE d zone off))]) := by
  refine PSpec.rm ?_
  refine CSpec.of_vc hΓ Try.func32 rfl 41 0 [.tmp 6, .tmp 7] Try.ntmps32 rfl (by rw [Try.results32]) rfl ?_
  conv => whnf
  refine CallN.opens begin_body (begin_spec d zone) (leA.refl rfl) ?_
  rintro s Hc hq
  by_cases he : beginE d zone = 0
  · simp only [beginQ, if_pos he] at hq
    obtain ⟨rfl, rfl⟩ := hq
    obtain ⟨hok, hz0, hz1⟩ := beginE_zone he
    refine ⟨.t [.inr (d.own 1), .inl (.int .i64 0)], _, rfl, plug_nil_arr _ _ _ _, ?_⟩
    conv => whnf
    repeat' ((first | refine Need.mk (by first | (simp; done) | omega | decide | (intro _h; decide) | (simp_all; done) | (intro _h; simp_all; done) | (simp_all; omega)) ?_ | refine Have.mk (fun _h => ?_)); conv => whnf)
    refine Br.no rfl ?_; conv => whnf
    repeat' ((first | refine Need.mk (by first | (simp; done) | omega | decide | (intro _h; decide) | (simp_all; done) | (intro _h; simp_all; done) | (simp_all; omega)) ?_ | refine Have.mk (fun _h => ?_)); conv => whnf)
    refine Frc.mk _ rfl ?_; conv => whnf
    repeat' ((first | refine Need.mk (by first | (simp; done) | omega | decide | (intro _h; decide) | (simp_all; done) | (intro _h; simp_all; done) | (simp_all; omega)) ?_ | refine Have.mk (fun _h => ?_)); conv => whnf)
    have hrE : ∀ e : Int, (if decide (0 ≤ off ∧ off < (d.zones.getD zone.toNat default).sectors.length) then 0 else 10) = e → readE d zone off = e := by
      intro e h; simp only [readE, if_pos he]; exact h
    (first | refine Br.lt (fun h2 => ?_) (fun h2 => ?_) | refine Br.le (fun h2 => ?_) (fun h2 => ?_) | refine Br.gt (fun h2 => ?_) (fun h2 => ?_) | refine Br.ge (fun h2 => ?_) (fun h2 => ?_) | refine Br.eq (fun h2 => ?_) (fun h2 => ?_) | refine Br.ne (fun h2 => ?_) (fun h2 => ?_) | refine Br.not (fun h2 => ?_) (fun h2 => ?_) | (refine Br.mk (fun h2 => ?_) (fun h2 => ?_) <;> simp [-List.length_eq_zero_iff, -List.getD_eq_getElem?_getD] at h2)) <;> (conv => whnf)
    · repeat' ((first | refine Need.mk (by first | (simp; done) | omega | decide | (intro _h; decide) | (simp_all; done) | (intro _h; simp_all; done) | (simp_all; omega)) ?_ | refine Have.mk (fun _h => ?_)); conv => whnf)
      have : decide (0 ≤ off ∧ off < (d.zones.getD zone.toNat default).sectors.length) = false := by simp only [decide_eq_false_iff_not]; omega
      have h10 := hrE 10 (by rw [this]; rfl)
      exact RM.imm rfl (wkS.t ⟨wkC.str (by simp only [readS, h10]; rfl), wkC.int h10.symm, trivial⟩)
    · repeat' ((first | refine Need.mk (by first | (simp; done) | omega | decide | (intro _h; decide) | (simp_all; done) | (intro _h; simp_all; done) | (simp_all; omega)) ?_ | refine Have.mk (fun _h => ?_)); conv => whnf)
      have : decide (0 ≤ off ∧ off < (d.zones.getD zone.toNat default).sectors.length) = true := by simp only [decide_eq_true_eq]; omega
      have h0 := hrE 0 (by rw [this]; rfl)
      refine Frc.mk _ rfl ?_; conv => whnf
      repeat' ((first | refine Need.mk (by first | (simp; done) | omega | decide | (intro _h; decide) | (simp_all; done) | (intro _h; simp_all; done) | (simp_all; omega)) ?_ | refine Have.mk (fun _h => ?_)); conv => whnf)
      exact RM.imm rfl (wkS.t ⟨wkC.str (by simp only [readS, h0]; rfl), wkC.int h0.symm, trivial⟩)
  · simp only [beginQ, if_neg he] at hq
    obtain ⟨rfl, rfl⟩ := hq
    refine ⟨_, _, rfl, plug_nil_nil _, ?_⟩
    conv => whnf
    repeat' ((first | refine Need.mk (by first | (simp; done) | omega | decide | (intro _h; decide) | (simp_all; done) | (intro _h; simp_all; done) | (simp_all; omega)) ?_ | refine Have.mk (fun _h => ?_)); conv => whnf)
    (first | refine Br.lt (fun h1 => ?_) (fun h1 => ?_) | refine Br.le (fun h1 => ?_) (fun h1 => ?_) | refine Br.gt (fun h1 => ?_) (fun h1 => ?_) | refine Br.ge (fun h1 => ?_) (fun h1 => ?_) | refine Br.eq (fun h1 => ?_) (fun h1 => ?_) | refine Br.ne (fun h1 => ?_) (fun h1 => ?_) | refine Br.not (fun h1 => ?_) (fun h1 => ?_) | refine Br.mk (fun h1 => ?_) (fun h1 => ?_)) <;> (conv => whnf)
    · repeat' ((first | refine Need.mk (by first | (simp; done) | omega | decide | (intro _h; decide) | (simp_all; done) | (intro _h; simp_all; done) | (simp_all; omega)) ?_ | refine Have.mk (fun _h => ?_)); conv => whnf)
      have : readE d zone off = beginE d zone := by simp only [readE, if_neg he]
      have : readS d zone off = ByteArray.empty := by simp only [readS, this, if_neg he]
      exact RM.imm rfl (wkS.t ⟨wkC.str (by rw [this]; rfl), wkC.int (by simp only [readE, if_neg he]), trivial⟩)
    · exact absurd h1 he

theorem reset_spec (d : Dev) (hd : d.small) (zone : Int) : PSpec Try.prog 56 [d.s, .c (.int .i64 zone)] (Dev.out (resetD d zone) (beginE d zone)) := by
  refine PSpec.rm ?_
  refine CSpec.of_vc hΓ Try.func56 rfl 25 0 [.cell 4 24, .tmp 5] Try.ntmps56 rfl (by rw [Try.results56]) rfl ?_
  conv => whnf
  refine CallN.opens begin_body (begin_spec d zone) (leA.refl rfl) ?_
  rintro s Hc hq
  by_cases he : beginE d zone = 0
  · simp only [beginQ, if_pos he] at hq
    obtain ⟨rfl, rfl⟩ := hq
    obtain ⟨hok, hz0, hz1⟩ := beginE_zone he
    refine ⟨.t [.inr (d.own 2), .inl (.int .i64 0)], _, rfl, plug_nil_arr _ _ _ _, ?_⟩
    conv => whnf
    repeat' ((first | refine Need.mk (by first | (simp; done) | omega | decide | (intro _h; decide) | (simp_all; done) | (intro _h; simp_all; done) | (simp_all; omega)) ?_ | refine Have.mk (fun _h => ?_)); conv => whnf)
    refine Br.no rfl ?_; conv => whnf
    repeat' ((first | refine Need.mk (by first | (simp; done) | omega | decide | (intro _h; decide) | (simp_all; done) | (intro _h; simp_all; done) | (simp_all; omega)) ?_ | refine Have.mk (fun _h => ?_)); conv => whnf)
    rw [show resetD d zone = { d with zones := d.zones.set zone.toNat zone0 } by simp only [resetD, if_pos he], he]
    have hk : zone.toNat < d.zones.length := by omega
    exact RM.devG 2 rfl (fun i _ j hj => (updG_zero hk i j hj).2) (by simp) (fun i _ j hj => (updG_zero hk i j hj).1.trans (zoneAtT_le _ _ _)) rfl
  · simp only [beginQ, if_neg he] at hq
    obtain ⟨rfl, rfl⟩ := hq
    refine ⟨_, _, rfl, plug_nil_nil _, ?_⟩
    conv => whnf
    repeat' ((first | refine Need.mk (by first | (simp; done) | omega | decide | (intro _h; decide) | (simp_all; done) | (intro _h; simp_all; done) | (simp_all; omega)) ?_ | refine Have.mk (fun _h => ?_)); conv => whnf)
    (first | refine Br.lt (fun h1 => ?_) (fun h1 => ?_) | refine Br.le (fun h1 => ?_) (fun h1 => ?_) | refine Br.gt (fun h1 => ?_) (fun h1 => ?_) | refine Br.ge (fun h1 => ?_) (fun h1 => ?_) | refine Br.eq (fun h1 => ?_) (fun h1 => ?_) | refine Br.ne (fun h1 => ?_) (fun h1 => ?_) | refine Br.not (fun h1 => ?_) (fun h1 => ?_) | refine Br.mk (fun h1 => ?_) (fun h1 => ?_)) <;> (conv => whnf)
    · repeat' ((first | refine Need.mk (by first | (simp; done) | omega | decide | (intro _h; decide) | (simp_all; done) | (intro _h; simp_all; done) | (simp_all; omega)) ?_ | refine Have.mk (fun _h => ?_)); conv => whnf)
      refine CallN.opens clone_body (clone_spec d hd) (leA.refl rfl) ?_; rintro s Hc ⟨rfl, rfl⟩; refine ⟨_, _, rfl, plug_nil_arr _ _ _ _, ?_⟩; conv => whnf
      repeat' ((first | refine Need.mk (by first | (simp; done) | omega | decide | (intro _h; decide) | (simp_all; done) | (intro _h; simp_all; done) | (simp_all; omega)) ?_ | refine Have.mk (fun _h => ?_)); conv => whnf)
      rw [show resetD d zone = d by simp only [resetD, if_neg he]]
      exact RM.dev 3 rfl rfl rfl
    · exact absurd h1 he
theorem read_body : HasBody Try.prog 32 := ⟨⟨Try.f32, Try.func32, rfl, by kernel_rfl⟩⟩
theorem reset_body : HasBody Try.prog 56 := ⟨⟨Try.f56, Try.func56, rfl, by kernel_rfl⟩⟩

theorem finish_spec (d : Dev) (hd : d.small) (zone : Int) : PSpec Try.prog 58 [d.s, .c (.int .i64 zone)] (Dev.out (finishD d zone) (beginE d zone)) := by
  refine PSpec.rm ?_
  refine CSpec.of_vc hΓ Try.func58 rfl 42 0 [.cell 4 24, .tmp 5] Try.ntmps58 rfl (by rw [Try.results58]) rfl ?_
  conv => whnf
  refine CallN.opens begin_body (begin_spec d zone) (leA.refl rfl) ?_
  rintro s Hc hq
  by_cases he : beginE d zone = 0
  · simp only [beginQ, if_pos he] at hq
    obtain ⟨rfl, rfl⟩ := hq
    obtain ⟨hok, hz0, hz1⟩ := beginE_zone he
    have hk : zone.toNat < d.zones.length := by omega
    refine ⟨.t [.inr (d.own 2), .inl (.int .i64 0)], _, rfl, plug_nil_arr _ _ _ _, ?_⟩
    conv => whnf
    repeat' ((first | refine Need.mk (by first | (simp; done) | omega | decide | (intro _h; decide) | (simp_all; done) | (intro _h; simp_all; done) | (simp_all; omega)) ?_ | refine Have.mk (fun _h => ?_)); conv => whnf)
    refine Br.no rfl ?_; conv => whnf
    repeat' ((first | refine Need.mk (by first | (simp; done) | omega | decide | (intro _h; decide) | (simp_all; done) | (intro _h; simp_all; done) | (simp_all; omega)) ?_ | refine Have.mk (fun _h => ?_)); conv => whnf)
    refine Frc.mk _ rfl ?_; conv => whnf
    repeat' ((first | refine Need.mk (by first | (simp; done) | omega | decide | (intro _h; decide) | (simp_all; done) | (intro _h; simp_all; done) | (simp_all; omega)) ?_ | refine Have.mk (fun _h => ?_)); conv => whnf)
    (first | refine Br.lt (fun h2 => ?_) (fun h2 => ?_) | refine Br.le (fun h2 => ?_) (fun h2 => ?_) | refine Br.gt (fun h2 => ?_) (fun h2 => ?_) | refine Br.ge (fun h2 => ?_) (fun h2 => ?_) | refine Br.eq (fun h2 => ?_) (fun h2 => ?_) | refine Br.ne (fun h2 => ?_) (fun h2 => ?_) | refine Br.not (fun h2 => ?_) (fun h2 => ?_) | refine Br.mk (fun h2 => ?_) (fun h2 => ?_)) <;> (conv => whnf)
    · repeat' ((first | refine Need.mk (by first | (simp; done) | omega | decide | (intro _h; decide) | (simp_all; done) | (intro _h; simp_all; done) | (simp_all; omega)) ?_ | refine Have.mk (fun _h => ?_)); conv => whnf)
      rw [show finishD d zone = { d with zones := d.zones } by simp only [finishD, if_pos he, finishZ, if_pos h2, set_getD_self _ _ hk], he]
      exact RM.dev 2 rfl rfl rfl
    · repeat' ((first | refine Need.mk (by first | (simp; done) | omega | decide | (intro _h; decide) | (simp_all; done) | (intro _h; simp_all; done) | (simp_all; omega)) ?_ | refine Have.mk (fun _h => ?_)); conv => whnf)
      refine Frc.mk _ rfl ?_; conv => whnf
      repeat' ((first | refine Need.mk (by first | (simp; done) | omega | decide | (intro _h; decide) | (simp_all; done) | (intro _h; simp_all; done) | (simp_all; omega)) ?_ | refine Have.mk (fun _h => ?_)); conv => whnf)
      rw [show finishD d zone = { d with zones := (d.zones.set zone.toNat { d.zones.getD zone.toNat default with state := 4 }).set zone.toNat { (d.zones.set zone.toNat { d.zones.getD zone.toNat default with state := 4 }).getD zone.toNat default with durable := (d.zones.getD zone.toNat default).sectors.length } } by
        simp only [finishD, if_pos he, finishZ, if_neg h2]; simp [List.getD, hk], he]
      exact RM.dev 2 (congrArg (fun g => some (O.arr 28 3 d.zones.length g)) ((congrArg (fun g => updG g zone.toNat 1 [.int .i64 (d.zones.getD zone.toNat default).sectors.length]) (updG_state hk 4)).trans (updG_durable (by simp; omega) _))) (by simp) rfl
  · simp only [beginQ, if_neg he] at hq
    obtain ⟨rfl, rfl⟩ := hq
    refine ⟨.t [.inr d.cells, .inl (.int .i64 (beginE d zone))], _, rfl, plug_nil_nil _, ?_⟩
    conv => whnf
    repeat' ((first | refine Need.mk (by first | (simp; done) | omega | decide | (intro _h; decide) | (simp_all; done) | (intro _h; simp_all; done) | (simp_all; omega)) ?_ | refine Have.mk (fun _h => ?_)); conv => whnf)
    (first | refine Br.lt (fun h1 => ?_) (fun h1 => ?_) | refine Br.le (fun h1 => ?_) (fun h1 => ?_) | refine Br.gt (fun h1 => ?_) (fun h1 => ?_) | refine Br.ge (fun h1 => ?_) (fun h1 => ?_) | refine Br.eq (fun h1 => ?_) (fun h1 => ?_) | refine Br.ne (fun h1 => ?_) (fun h1 => ?_) | refine Br.not (fun h1 => ?_) (fun h1 => ?_) | refine Br.mk (fun h1 => ?_) (fun h1 => ?_)) <;> (conv => whnf)
    · repeat' ((first | refine Need.mk (by first | (simp; done) | omega | decide | (intro _h; decide) | (simp_all; done) | (intro _h; simp_all; done) | (simp_all; omega)) ?_ | refine Have.mk (fun _h => ?_)); conv => whnf)
      refine CallN.opens clone_body (clone_spec d hd) (leA.refl rfl) ?_; rintro s Hc ⟨rfl, rfl⟩; refine ⟨_, _, rfl, plug_nil_arr _ _ _ _, ?_⟩; conv => whnf
      repeat' ((first | refine Need.mk (by first | (simp; done) | omega | decide | (intro _h; decide) | (simp_all; done) | (intro _h; simp_all; done) | (simp_all; omega)) ?_ | refine Have.mk (fun _h => ?_)); conv => whnf)
      have hE : beginE d zone = beginE d zone := rfl
      rw [show finishD d zone = d by simp only [finishD, hE, if_neg he], hE]
      exact RM.dev 3 rfl rfl rfl
    · exact absurd h1 he
theorem finish_body : HasBody Try.prog 58 := ⟨⟨Try.f58, Try.func58, rfl, by kernel_rfl⟩⟩

theorem open_spec (d : Dev) (hd : d.small) (zone : Int) : PSpec Try.prog 60 [d.s, .c (.int .i64 zone)] (Dev.out (openD d zone) (openE d zone)) := by
  refine PSpec.rm ?_
  refine CSpec.of_vc hΓ Try.func60 rfl 52 0 [.cell 4 24, .tmp 5] Try.ntmps60 rfl (by rw [Try.results60]) rfl ?_
  conv => whnf
  refine CallN.opens begin_body (begin_spec d zone) (leA.refl rfl) ?_
  rintro s Hc hq
  by_cases he : beginE d zone = 0
  · simp only [beginQ, if_pos he] at hq
    obtain ⟨rfl, rfl⟩ := hq
    obtain ⟨hok, hz0, hz1⟩ := beginE_zone he
    have hk : zone.toNat < d.zones.length := by omega
    refine ⟨.t [.inr (d.own 2), .inl (.int .i64 0)], _, rfl, plug_nil_arr _ _ _ _, ?_⟩
    conv => whnf
    repeat' ((first | refine Need.mk (by first | (simp; done) | omega | decide | (intro _h; decide) | (simp_all; done) | (intro _h; simp_all; done) | (simp_all; omega)) ?_ | refine Have.mk (fun _h => ?_)); conv => whnf)
    refine Br.no rfl ?_; conv => whnf
    repeat' ((first | refine Need.mk (by first | (simp; done) | omega | decide | (intro _h; decide) | (simp_all; done) | (intro _h; simp_all; done) | (simp_all; omega)) ?_ | refine Have.mk (fun _h => ?_)); conv => whnf)
    refine Frc.mk _ rfl ?_; conv => whnf
    repeat' ((first | refine Need.mk (by first | (simp; done) | omega | decide | (intro _h; decide) | (simp_all; done) | (intro _h; simp_all; done) | (simp_all; omega)) ?_ | refine Have.mk (fun _h => ?_)); conv => whnf)
    (first | refine Br.lt (fun h2 => ?_) (fun h2 => ?_) | refine Br.le (fun h2 => ?_) (fun h2 => ?_) | refine Br.gt (fun h2 => ?_) (fun h2 => ?_) | refine Br.ge (fun h2 => ?_) (fun h2 => ?_) | refine Br.eq (fun h2 => ?_) (fun h2 => ?_) | refine Br.ne (fun h2 => ?_) (fun h2 => ?_) | refine Br.not (fun h2 => ?_) (fun h2 => ?_) | refine Br.mk (fun h2 => ?_) (fun h2 => ?_)) <;> (conv => whnf)
    · repeat' ((first | refine Need.mk (by first | (simp; done) | omega | decide | (intro _h; decide) | (simp_all; done) | (intro _h; simp_all; done) | (simp_all; omega)) ?_ | refine Have.mk (fun _h => ?_)); conv => whnf)
      refine CallN.opens clone_body (clone_spec d hd) (leA.refl rfl) ?_; rintro s Hc ⟨rfl, rfl⟩; refine ⟨_, _, rfl, plug_nil_arr _ _ _ _, ?_⟩; conv => whnf
      repeat' ((first | refine Need.mk (by first | (simp; done) | omega | decide | (intro _h; decide) | (simp_all; done) | (intro _h; simp_all; done) | (simp_all; omega)) ?_ | refine Have.mk (fun _h => ?_)); conv => whnf)
      have hE : openE d zone = 7 := by simp only [openE, if_pos he, if_pos h2]
      rw [show openD d zone = d by simp only [openD, hE]; rfl, hE]
      exact RM.dev 4 rfl rfl rfl
    · repeat' ((first | refine Need.mk (by first | (simp; done) | omega | decide | (intro _h; decide) | (simp_all; done) | (intro _h; simp_all; done) | (simp_all; omega)) ?_ | refine Have.mk (fun _h => ?_)); conv => whnf)
      refine Frc.mk _ rfl ?_; conv => whnf
      repeat' ((first | refine Need.mk (by first | (simp; done) | omega | decide | (intro _h; decide) | (simp_all; done) | (intro _h; simp_all; done) | (simp_all; omega)) ?_ | refine Have.mk (fun _h => ?_)); conv => whnf)
      refine CallN.pure opened_body (opened_spec _ ) (leA.refl rfl) rfl ?_
      conv => whnf
      repeat' ((first | refine Need.mk (by first | (simp; done) | omega | decide | (intro _h; decide) | (simp_all; done) | (intro _h; simp_all; done) | (simp_all; omega)) ?_ | refine Have.mk (fun _h => ?_)); conv => whnf)
      (first | refine Br.lt (fun h3 => ?_) (fun h3 => ?_) | refine Br.le (fun h3 => ?_) (fun h3 => ?_) | refine Br.gt (fun h3 => ?_) (fun h3 => ?_) | refine Br.ge (fun h3 => ?_) (fun h3 => ?_) | refine Br.eq (fun h3 => ?_) (fun h3 => ?_) | refine Br.ne (fun h3 => ?_) (fun h3 => ?_) | refine Br.not (fun h3 => ?_) (fun h3 => ?_) | refine Br.mk (fun h3 => ?_) (fun h3 => ?_)) <;> (conv => whnf)
      · repeat' ((first | refine Need.mk (by first | (simp; done) | omega | decide | (intro _h; decide) | (simp_all; done) | (intro _h; simp_all; done) | (simp_all; omega)) ?_ | refine Have.mk (fun _h => ?_)); conv => whnf)
        have hE : openE d zone = (roomX d zone.toNat).1 := by simp only [openE, if_pos he, if_neg h2]; rw [h3]; rfl
        have hL : openL d zone.toNat = (roomX d zone.toNat).2 := by simp only [openL]; rw [h3]; rfl
        have hlen := roomX_len d zone.toNat
        refine CallN.frame1 room_body (room_spec d hd.z zone.toNat hk) 2 rfl (fun i _ j _ => wkC.imm (zoneAtT_imm _ _ _)) (wkA.cons wk_own (wkA.cons (wkS.c (wkC.int (by omega))) wkA.nil)) ?_
        rintro s Hc ⟨rfl, hr, g, hg⟩
        by_cases hr0 : (roomX d zone.toNat).1 = 0
        · rw [hr hr0]
          refine ⟨.c (.int .i64 0), [.vr d.cells, .vr [.int .i64 0, .int .i64 0, .int .i64 0, .nils], .arr 28 3 d.zones.length (zoneAtT (roomX d zone.toNat).2), .vr (d.own 2)], by rw [hr0]; rfl, congrArg (fun g => [O.vr d.cells, O.vr [.int .i64 0, .int .i64 0, .int .i64 0, .nils], O.arr 28 3 d.zones.length g, O.vr (d.own 2)]) (reC_zoneAtT _ _), ?_⟩
          conv => whnf
          repeat' ((first | refine Need.mk (by first | (simp; done) | omega | decide | (intro _h; decide) | (simp_all; done) | (intro _h; simp_all; done) | (simp_all; omega)) ?_ | refine Have.mk (fun _h => ?_)); conv => whnf)
          refine Br.no rfl ?_; conv => whnf
          repeat' ((first | refine Need.mk (by first | (simp; done) | omega | decide | (intro _h; decide) | (simp_all; done) | (intro _h; simp_all; done) | (simp_all; omega)) ?_ | refine Have.mk (fun _h => ?_)); conv => whnf)
          rw [show openD d zone = { d with zones := (roomX d zone.toNat).2.set zone.toNat { (roomX d zone.toNat).2.getD zone.toNat default with state := 2 } } by simp only [openD, hE, if_pos hr0, hL], hE, hr0]
          exact RM.dev 2 (congrArg (fun g => some (O.arr 28 3 d.zones.length g)) (updG_state (by omega) 2)) (by simp; omega) rfl
        · subst hg
          refine ⟨.c (.int .i64 (roomX d zone.toNat).1), _, rfl, rfl, ?_⟩
          conv => whnf
          repeat' ((first | refine Need.mk (by first | (simp; done) | omega | decide | (intro _h; decide) | (simp_all; done) | (intro _h; simp_all; done) | (simp_all; omega)) ?_ | refine Have.mk (fun _h => ?_)); conv => whnf)
          (first | refine Br.lt (fun h4 => ?_) (fun h4 => ?_) | refine Br.le (fun h4 => ?_) (fun h4 => ?_) | refine Br.gt (fun h4 => ?_) (fun h4 => ?_) | refine Br.ge (fun h4 => ?_) (fun h4 => ?_) | refine Br.eq (fun h4 => ?_) (fun h4 => ?_) | refine Br.ne (fun h4 => ?_) (fun h4 => ?_) | refine Br.not (fun h4 => ?_) (fun h4 => ?_) | refine Br.mk (fun h4 => ?_) (fun h4 => ?_)) <;> (conv => whnf)
          · repeat' ((first | refine Need.mk (by first | (simp; done) | omega | decide | (intro _h; decide) | (simp_all; done) | (intro _h; simp_all; done) | (simp_all; omega)) ?_ | refine Have.mk (fun _h => ?_)); conv => whnf)
            refine CallN.opens clone_body (clone_spec d hd) (leA.refl rfl) ?_; rintro s Hc ⟨rfl, rfl⟩; refine ⟨_, _, rfl, plug_nil_arr _ _ _ _, ?_⟩; conv => whnf
            repeat' ((first | refine Need.mk (by first | (simp; done) | omega | decide | (intro _h; decide) | (simp_all; done) | (intro _h; simp_all; done) | (simp_all; omega)) ?_ | refine Have.mk (fun _h => ?_)); conv => whnf)
            rw [show openD d zone = d by simp only [openD, hE, if_neg hr0], hE]
            exact RM.dev 4 rfl rfl rfl
          · exact absurd h4 hr0
      · repeat' ((first | refine Need.mk (by first | (simp; done) | omega | decide | (intro _h; decide) | (simp_all; done) | (intro _h; simp_all; done) | (simp_all; omega)) ?_ | refine Have.mk (fun _h => ?_)); conv => whnf)
        have hE : openE d zone = 0 := by simp only [openE, if_pos he, if_neg h2]; rw [h3]; rfl
        have hL : openL d zone.toNat = d.zones := by simp only [openL]; rw [h3]; rfl
        rw [show openD d zone = { d with zones := d.zones.set zone.toNat { d.zones.getD zone.toNat default with state := 2 } } by simp only [openD, hE, if_pos, hL], hE]
        exact RM.dev 2 (congrArg (fun g => some (O.arr 28 3 d.zones.length g)) (updG_state hk 2)) (by simp) rfl
  · simp only [beginQ, if_neg he] at hq
    obtain ⟨rfl, rfl⟩ := hq
    refine ⟨.t [.inr d.cells, .inl (.int .i64 (beginE d zone))], _, rfl, plug_nil_nil _, ?_⟩
    conv => whnf
    repeat' ((first | refine Need.mk (by first | (simp; done) | omega | decide | (intro _h; decide) | (simp_all; done) | (intro _h; simp_all; done) | (simp_all; omega)) ?_ | refine Have.mk (fun _h => ?_)); conv => whnf)
    (first | refine Br.lt (fun h1 => ?_) (fun h1 => ?_) | refine Br.le (fun h1 => ?_) (fun h1 => ?_) | refine Br.gt (fun h1 => ?_) (fun h1 => ?_) | refine Br.ge (fun h1 => ?_) (fun h1 => ?_) | refine Br.eq (fun h1 => ?_) (fun h1 => ?_) | refine Br.ne (fun h1 => ?_) (fun h1 => ?_) | refine Br.not (fun h1 => ?_) (fun h1 => ?_) | refine Br.mk (fun h1 => ?_) (fun h1 => ?_)) <;> (conv => whnf)
    · repeat' ((first | refine Need.mk (by first | (simp; done) | omega | decide | (intro _h; decide) | (simp_all; done) | (intro _h; simp_all; done) | (simp_all; omega)) ?_ | refine Have.mk (fun _h => ?_)); conv => whnf)
      refine CallN.opens clone_body (clone_spec d hd) (leA.refl rfl) ?_; rintro s Hc ⟨rfl, rfl⟩; refine ⟨_, _, rfl, plug_nil_arr _ _ _ _, ?_⟩; conv => whnf
      repeat' ((first | refine Need.mk (by first | (simp; done) | omega | decide | (intro _h; decide) | (simp_all; done) | (intro _h; simp_all; done) | (simp_all; omega)) ?_ | refine Have.mk (fun _h => ?_)); conv => whnf)
      have hE : openE d zone = beginE d zone := by simp only [openE, if_neg he]
      rw [show openD d zone = d by simp only [openD, hE, if_neg he], hE]
      exact RM.dev 3 rfl rfl rfl
    · exact absurd h1 he
theorem open_body : HasBody Try.prog 60 := ⟨⟨Try.f60, Try.func60, rfl, by kernel_rfl⟩⟩
theorem close_spec (d : Dev) (hd : d.small) (zone : Int) : PSpec Try.prog 62 [d.s, .c (.int .i64 zone)] (Dev.out (closeD d zone) (closeE d zone)) := by
  refine PSpec.rm ?_
  refine CSpec.of_vc hΓ Try.func62 rfl 47 0 [.cell 4 24, .tmp 5] Try.ntmps62 rfl (by rw [Try.results62]) rfl ?_
  conv => whnf
  refine CallN.opens begin_body (begin_spec d zone) (leA.refl rfl) ?_
  rintro s Hc hq
  by_cases he : beginE d zone = 0
  · simp only [beginQ, if_pos he] at hq
    obtain ⟨rfl, rfl⟩ := hq
    obtain ⟨hok, hz0, hz1⟩ := beginE_zone he
    have hk : zone.toNat < d.zones.length := by omega
    refine ⟨.t [.inr (d.own 2), .inl (.int .i64 0)], _, rfl, plug_nil_arr _ _ _ _, ?_⟩
    conv => whnf
    repeat' ((first | refine Need.mk (by first | (simp; done) | omega | decide | (intro _h; decide) | (simp_all; done) | (intro _h; simp_all; done) | (simp_all; omega)) ?_ | refine Have.mk (fun _h => ?_)); conv => whnf)
    refine Br.no rfl ?_; conv => whnf
    repeat' ((first | refine Need.mk (by first | (simp; done) | omega | decide | (intro _h; decide) | (simp_all; done) | (intro _h; simp_all; done) | (simp_all; omega)) ?_ | refine Have.mk (fun _h => ?_)); conv => whnf)
    refine Frc.mk _ rfl ?_; conv => whnf
    repeat' ((first | refine Need.mk (by first | (simp; done) | omega | decide | (intro _h; decide) | (simp_all; done) | (intro _h; simp_all; done) | (simp_all; omega)) ?_ | refine Have.mk (fun _h => ?_)); conv => whnf)
    refine CallN.pure opened_body (opened_spec _ ) (leA.refl rfl) rfl ?_
    conv => whnf
    repeat' ((first | refine Need.mk (by first | (simp; done) | omega | decide | (intro _h; decide) | (simp_all; done) | (intro _h; simp_all; done) | (simp_all; omega)) ?_ | refine Have.mk (fun _h => ?_)); conv => whnf)
    refine Frc.mk _ rfl ?_; conv => whnf
    repeat' ((first | refine Need.mk (by first | (simp; done) | omega | decide | (intro _h; decide) | (simp_all; done) | (intro _h; simp_all; done) | (simp_all; omega)) ?_ | refine Have.mk (fun _h => ?_)); conv => whnf)
    have hEe : closeE d zone = if isActive (d.zones.getD zone.toNat default).state then 0 else 6 := by simp only [closeE, if_pos he]
    (first | refine Br.lt (fun h2 => ?_) (fun h2 => ?_) | refine Br.le (fun h2 => ?_) (fun h2 => ?_) | refine Br.gt (fun h2 => ?_) (fun h2 => ?_) | refine Br.ge (fun h2 => ?_) (fun h2 => ?_) | refine Br.eq (fun h2 => ?_) (fun h2 => ?_) | refine Br.ne (fun h2 => ?_) (fun h2 => ?_) | refine Br.not (fun h2 => ?_) (fun h2 => ?_) | (refine Br.mk (fun h2 => ?_) (fun h2 => ?_) <;> simp [-List.length_eq_zero_iff, -List.getD_eq_getElem?_getD] at h2)) <;> (conv => whnf)
    · repeat' ((first | refine Need.mk (by first | (simp; done) | omega | decide | (intro _h; decide) | (simp_all; done) | (intro _h; simp_all; done) | (simp_all; omega)) ?_ | refine Have.mk (fun _h => ?_)); conv => whnf)
      have hna : isActive (d.zones.getD zone.toNat default).state = false := by
        obtain ⟨h2a, h2b⟩ := h2
        simp only [isOpen, decide_eq_false_iff_not] at h2a
        simp only [isActive, decide_eq_false_iff_not]
        omega
      refine CallN.opens clone_body (clone_spec d hd) (leA.refl rfl) ?_; rintro s Hc ⟨rfl, rfl⟩; refine ⟨_, _, rfl, plug_nil_arr _ _ _ _, ?_⟩; conv => whnf
      repeat' ((first | refine Need.mk (by first | (simp; done) | omega | decide | (intro _h; decide) | (simp_all; done) | (intro _h; simp_all; done) | (simp_all; omega)) ?_ | refine Have.mk (fun _h => ?_)); conv => whnf)
      have hE : closeE d zone = 6 := by rw [hEe, hna]; rfl
      rw [show closeD d zone = d by simp only [closeD, hE]; rfl, hE]
      exact RM.dev 4 rfl rfl rfl
    · repeat' ((first | refine Need.mk (by first | (simp; done) | omega | decide | (intro _h; decide) | (simp_all; done) | (intro _h; simp_all; done) | (simp_all; omega)) ?_ | refine Have.mk (fun _h => ?_)); conv => whnf)
      refine Frc.mk _ rfl ?_; conv => whnf
      repeat' ((first | refine Need.mk (by first | (simp; done) | omega | decide | (intro _h; decide) | (simp_all; done) | (intro _h; simp_all; done) | (simp_all; omega)) ?_ | refine Have.mk (fun _h => ?_)); conv => whnf)
      refine CallN.pure opened_body (opened_spec _ ) (leA.refl rfl) rfl ?_
      conv => whnf
      repeat' ((first | refine Need.mk (by first | (simp; done) | omega | decide | (intro _h; decide) | (simp_all; done) | (intro _h; simp_all; done) | (simp_all; omega)) ?_ | refine Have.mk (fun _h => ?_)); conv => whnf)
      have hac : isActive (d.zones.getD zone.toNat default).state = true := by
        cases ho : isOpen (d.zones.getD zone.toNat default).state with
        | true =>
          simp only [isOpen, decide_eq_true_eq] at ho
          simp only [isActive, decide_eq_true_eq]; omega
        | false =>
          have := h2 ho
          simp only [isActive, decide_eq_true_eq]; omega
      have hE : closeE d zone = 0 := by rw [hEe, hac]; rfl
      (first | refine Br.lt (fun h3 => ?_) (fun h3 => ?_) | refine Br.le (fun h3 => ?_) (fun h3 => ?_) | refine Br.gt (fun h3 => ?_) (fun h3 => ?_) | refine Br.ge (fun h3 => ?_) (fun h3 => ?_) | refine Br.eq (fun h3 => ?_) (fun h3 => ?_) | refine Br.ne (fun h3 => ?_) (fun h3 => ?_) | refine Br.not (fun h3 => ?_) (fun h3 => ?_) | refine Br.mk (fun h3 => ?_) (fun h3 => ?_)) <;> (conv => whnf)
      · repeat' ((first | refine Need.mk (by first | (simp; done) | omega | decide | (intro _h; decide) | (simp_all; done) | (intro _h; simp_all; done) | (simp_all; omega)) ?_ | refine Have.mk (fun _h => ?_)); conv => whnf)
        refine CallN.frame1 shut_body (shut_spec d.zones zone.toNat hk) 2 rfl (fun i _ j _ => wkC.imm (zoneAtT_imm _ _ _)) (wkA.cons (wkS.c (wkC.ep1 rfl rfl rfl)) wkA.nil) ?_
        rintro s Hc ⟨rfl, rfl⟩
        refine ⟨.t [], [.vr d.cells, .vr [.int .i64 0, .int .i64 0, .int .i64 0, .nils], .arr 28 3 d.zones.length (zoneAtT (shutAt d.zones zone.toNat)), .vr (d.own 2)], rfl, congrArg (fun g => [O.vr d.cells, O.vr [.int .i64 0, .int .i64 0, .int .i64 0, .nils], O.arr 28 3 d.zones.length g, O.vr (d.own 2)]) (reC_zoneAtT _ _), ?_⟩
        conv => whnf
        repeat' ((first | refine Need.mk (by first | (simp; done) | omega | decide | (intro _h; decide) | (simp_all; done) | (intro _h; simp_all; done) | (simp_all; omega)) ?_ | refine Have.mk (fun _h => ?_)); conv => whnf)
        rw [show closeD d zone = { d with zones := shutAt d.zones zone.toNat } by simp only [closeD, hE]; rw [h3]; rfl, hE]
        exact RM.dev 2 rfl (shutAt_len _ _).symm rfl
      · repeat' ((first | refine Need.mk (by first | (simp; done) | omega | decide | (intro _h; decide) | (simp_all; done) | (intro _h; simp_all; done) | (simp_all; omega)) ?_ | refine Have.mk (fun _h => ?_)); conv => whnf)
        rw [show closeD d zone = { d with zones := d.zones } by simp only [closeD, hE]; rw [h3]; rfl, hE]
        exact RM.dev 2 rfl rfl rfl
  · simp only [beginQ, if_neg he] at hq
    obtain ⟨rfl, rfl⟩ := hq
    refine ⟨.t [.inr d.cells, .inl (.int .i64 (beginE d zone))], _, rfl, plug_nil_nil _, ?_⟩
    conv => whnf
    repeat' ((first | refine Need.mk (by first | (simp; done) | omega | decide | (intro _h; decide) | (simp_all; done) | (intro _h; simp_all; done) | (simp_all; omega)) ?_ | refine Have.mk (fun _h => ?_)); conv => whnf)
    (first | refine Br.lt (fun h1 => ?_) (fun h1 => ?_) | refine Br.le (fun h1 => ?_) (fun h1 => ?_) | refine Br.gt (fun h1 => ?_) (fun h1 => ?_) | refine Br.ge (fun h1 => ?_) (fun h1 => ?_) | refine Br.eq (fun h1 => ?_) (fun h1 => ?_) | refine Br.ne (fun h1 => ?_) (fun h1 => ?_) | refine Br.not (fun h1 => ?_) (fun h1 => ?_) | refine Br.mk (fun h1 => ?_) (fun h1 => ?_)) <;> (conv => whnf)
    · repeat' ((first | refine Need.mk (by first | (simp; done) | omega | decide | (intro _h; decide) | (simp_all; done) | (intro _h; simp_all; done) | (simp_all; omega)) ?_ | refine Have.mk (fun _h => ?_)); conv => whnf)
      refine CallN.opens clone_body (clone_spec d hd) (leA.refl rfl) ?_; rintro s Hc ⟨rfl, rfl⟩; refine ⟨_, _, rfl, plug_nil_arr _ _ _ _, ?_⟩; conv => whnf
      repeat' ((first | refine Need.mk (by first | (simp; done) | omega | decide | (intro _h; decide) | (simp_all; done) | (intro _h; simp_all; done) | (simp_all; omega)) ?_ | refine Have.mk (fun _h => ?_)); conv => whnf)
      have hE : closeE d zone = beginE d zone := by simp only [closeE, if_neg he]
      rw [show closeD d zone = d by simp only [closeD, hE, if_neg he], hE]
      exact RM.dev 3 rfl rfl rfl
    · exact absurd h1 he
theorem close_body : HasBody Try.prog 62 := ⟨⟨Try.f62, Try.func62, rfl, by kernel_rfl⟩⟩
end Go.Proofs
