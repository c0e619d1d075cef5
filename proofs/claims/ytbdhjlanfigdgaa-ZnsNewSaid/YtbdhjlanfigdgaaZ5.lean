import Derived.Test.YtbdhjlanfigdgaaZ4
open Go Go.Am
namespace Go.Proofs

theorem append_spec (d : Dev) (hd : d.small) (zone : Int) (s : ByteArray) : PSpec Try.prog 26 [d.s, .c (.int .i64 zone), .c (.str s)] (Dev.out3 (appendD d zone s) (appendI d zone s) (appendE d zone s)) := by
  refine PSpec.rm ?_
  refine CSpec.of_vc hΓ Try.func26 rfl 116 0 [.cell 6 24, .tmp 7, .tmp 8] Try.ntmps26 rfl (by rw [Try.results26]) rfl ?_
  have bad : ∀ e, appendE d zone s = e → e ≠ 0 → appendD d zone s = d ∧ appendI d zone s = 0 := by
    intro e h1 h2
    have h3 : ¬ appendE d zone s = 0 := by rw [h1]; exact h2
    exact ⟨by simp only [appendD, if_neg h3], by simp only [appendI, if_neg h3]⟩
  conv => whnf
  refine CallN.opens begin_body (begin_spec d zone) (leA.refl rfl) ?_
  rintro s0 Hc hq
  by_cases he : beginE d zone = 0
  · simp only [beginQ, if_pos he] at hq
    obtain ⟨rfl, rfl⟩ := hq
    obtain ⟨hok, hz0, hz1⟩ := beginE_zone he
    have hk : zone.toNat < d.zones.length := by omega
    refine ⟨.t [.inr (d.own 2), .inl (.int .i64 0)], _, rfl, plug_nil_arr _ _ _ _, ?_⟩
    have hch : check d = 0 := check_ok.2 hok
    have hrange : decide (0 ≤ zone ∧ zone < d.zones.length) = true := by simp only [decide_eq_true_eq]; omega
    have hst5 : ¬ (d.zones.getD zone.toNat default).state = 5 := by
      intro h5
      have : beginE d zone = 6 := by simp only [beginE, if_pos hch, hrange, if_pos, if_pos h5]
      rw [this] at he; cases he
    conv => whnf
    repeat' ((first | refine Need.mk (by first | (simp; done) | omega | decide | (simp_all; done) | (intro _h; simp_all; done) | (simp_all; omega)) ?_ | refine Have.mk (fun _h => ?_)); conv => whnf)
    refine Br.no rfl ?_; conv => whnf
    repeat' ((first | refine Need.mk (by first | (simp; done) | omega | decide | (simp_all; done) | (intro _h; simp_all; done) | (simp_all; omega)) ?_ | refine Have.mk (fun _h => ?_)); conv => whnf)
    refine CallG.pure check_body (fun _ => check_spec d ) (fun _ => leA.refl rfl) rfl ?_
    conv => whnf
    repeat' ((first | refine Need.mk (by first | (simp; done) | omega | decide | (simp_all; done) | (intro _h; simp_all; done) | (simp_all; omega)) ?_ | refine Have.mk (fun _h => ?_)); conv => whnf)
    refine Br.no rfl ?_; conv => whnf
    repeat' ((first | refine Need.mk (by first | (simp; done) | omega | decide | (simp_all; done) | (intro _h; simp_all; done) | (simp_all; omega)) ?_ | refine Have.mk (fun _h => ?_)); conv => whnf)
    (first | refine Br.lt (fun h40 => ?_) (fun h40 => ?_) | refine Br.le (fun h40 => ?_) (fun h40 => ?_) | refine Br.gt (fun h40 => ?_) (fun h40 => ?_) | refine Br.ge (fun h40 => ?_) (fun h40 => ?_) | refine Br.eq (fun h40 => ?_) (fun h40 => ?_) | refine Br.ne (fun h40 => ?_) (fun h40 => ?_) | refine Br.not (fun h40 => ?_) (fun h40 => ?_) | refine Br.mk (fun h40 => ?_) (fun h40 => ?_)) <;> (conv => whnf)
    · repeat' ((first | refine Need.mk (by first | (simp; done) | omega | decide | (simp_all; done) | (intro _h; simp_all; done) | (simp_all; omega)) ?_ | refine Have.mk (fun _h => ?_)); conv => whnf)
      refine CallN.opens clone_body (clone_spec d hd) (leA.refl rfl) ?_; rintro s Hc ⟨rfl, rfl⟩; refine ⟨_, _, rfl, plug_nil_arr _ _ _ _, ?_⟩; conv => whnf
      repeat' ((first | refine Need.mk (by first | (simp; done) | omega | decide | (simp_all; done) | (intro _h; simp_all; done) | (simp_all; omega)) ?_ | refine Have.mk (fun _h => ?_)); conv => whnf)
      have hE : appendE d zone s = 2 := by
        simp only [appendE, if_pos hch, hrange, if_pos]
        rw [if_neg (by omega)]
      obtain ⟨hD, hI⟩ := bad _ hE (by decide)
      rw [hD, hI, hE]
      exact RM.dev3 4 rfl rfl rfl rfl
    · repeat' ((first | refine Need.mk (by first | (simp; done) | omega | decide | (simp_all; done) | (intro _h; simp_all; done) | (simp_all; omega)) ?_ | refine Have.mk (fun _h => ?_)); conv => whnf)
      refine Br.no rfl ?_; conv => whnf
      repeat' ((first | refine Need.mk (by first | (simp; done) | omega | decide | (simp_all; done) | (intro _h; simp_all; done) | (simp_all; omega)) ?_ | refine Have.mk (fun _h => ?_)); conv => whnf)
      refine Frc.mk _ rfl ?_; conv => whnf
      repeat' ((first | refine Need.mk (by first | (simp; done) | omega | decide | (simp_all; done) | (intro _h; simp_all; done) | (simp_all; omega)) ?_ | refine Have.mk (fun _h => ?_)); conv => whnf)
      (first | refine Br.lt (fun h4 => ?_) (fun h4 => ?_) | refine Br.le (fun h4 => ?_) (fun h4 => ?_) | refine Br.gt (fun h4 => ?_) (fun h4 => ?_) | refine Br.ge (fun h4 => ?_) (fun h4 => ?_) | refine Br.eq (fun h4 => ?_) (fun h4 => ?_) | refine Br.ne (fun h4 => ?_) (fun h4 => ?_) | refine Br.not (fun h4 => ?_) (fun h4 => ?_) | refine Br.mk (fun h4 => ?_) (fun h4 => ?_)) <;> (conv => whnf)
      · repeat' ((first | refine Need.mk (by first | (simp; done) | omega | decide | (simp_all; done) | (intro _h; simp_all; done) | (simp_all; omega)) ?_ | refine Have.mk (fun _h => ?_)); conv => whnf)
        refine CallN.opens clone_body (clone_spec d hd) (leA.refl rfl) ?_; rintro s Hc ⟨rfl, rfl⟩; refine ⟨_, _, rfl, plug_nil_arr _ _ _ _, ?_⟩; conv => whnf
        repeat' ((first | refine Need.mk (by first | (simp; done) | omega | decide | (simp_all; done) | (intro _h; simp_all; done) | (simp_all; omega)) ?_ | refine Have.mk (fun _h => ?_)); conv => whnf)
        have hE : appendE d zone s = 7 := by
          simp only [appendE, if_pos hch, hrange, if_pos]
          rw [if_pos (by omega), if_neg hst5, if_pos h4]
        obtain ⟨hD, hI⟩ := bad _ hE (by decide)
        rw [hD, hI, hE]
        exact RM.dev3 4 rfl rfl rfl rfl
      · repeat' ((first | refine Need.mk (by first | (simp; done) | omega | decide | (simp_all; done) | (intro _h; simp_all; done) | (simp_all; omega)) ?_ | refine Have.mk (fun _h => ?_)); conv => whnf)
        refine Frc.mk _ rfl ?_; conv => whnf
        repeat' ((first | refine Need.mk (by first | (simp; done) | omega | decide | (simp_all; done) | (intro _h; simp_all; done) | (simp_all; omega)) ?_ | refine Have.mk (fun _h => ?_)); conv => whnf)
        refine CallN.pure opened_body (opened_spec _ ) (leA.refl rfl) rfl ?_
        conv => whnf
        repeat' ((first | refine Need.mk (by first | (simp; done) | omega | decide | (simp_all; done) | (intro _h; simp_all; done) | (simp_all; omega)) ?_ | refine Have.mk (fun _h => ?_)); conv => whnf)
        have hm : (d.zones.getD zone.toNat default).sectors.length ≤ 1000000 := hd.s _
        (first | refine Br.lt (fun h3 => ?_) (fun h3 => ?_) | refine Br.le (fun h3 => ?_) (fun h3 => ?_) | refine Br.gt (fun h3 => ?_) (fun h3 => ?_) | refine Br.ge (fun h3 => ?_) (fun h3 => ?_) | refine Br.eq (fun h3 => ?_) (fun h3 => ?_) | refine Br.ne (fun h3 => ?_) (fun h3 => ?_) | refine Br.not (fun h3 => ?_) (fun h3 => ?_) | refine Br.mk (fun h3 => ?_) (fun h3 => ?_)) <;> (conv => whnf)
        · repeat' ((first | refine Need.mk (by first | (simp; done) | omega | decide | (simp_all; done) | (intro _h; simp_all; done) | (simp_all; omega)) ?_ | refine Have.mk (fun _h => ?_)); conv => whnf)
          have hE : appendE d zone s = (roomX d zone.toNat).1 := by
            simp only [appendE, if_pos hch, hrange, if_pos]
            rw [if_pos (by omega), if_neg hst5, if_neg h4, h3]; rfl
          have hL : openL d zone.toNat = (roomX d zone.toNat).2 := by simp only [openL]; rw [h3]; rfl
          have hlen := roomX_len d zone.toNat
          have hsec := roomX_sectors d zone.toNat zone.toNat
          have hm' : ((roomX d zone.toNat).2.getD zone.toNat default).sectors.length ≤ 1000000 := by rw [hsec]; exact hm
          have hk' : zone.toNat < (roomX d zone.toNat).2.length := by omega
          refine CallN.frame1 room_body (room_spec d hd.z zone.toNat hk) 2 rfl (fun i _ j _ => wkC.imm (zoneAtT_imm _ _ _)) (wkA.cons wk_own (wkA.cons (wkS.c (wkC.int (by omega))) wkA.nil)) ?_
          rintro s1 Hc ⟨rfl, hr, g, hg⟩
          by_cases hr0 : (roomX d zone.toNat).1 = 0
          · rw [hr hr0]
            have hE0 : appendE d zone s = 0 := by rw [hE, hr0]
            have hI : appendI d zone s = ((roomX d zone.toNat).2.getD zone.toNat default).sectors.length := by simp only [appendI, if_pos hE0, hsec]
            refine ⟨.c (.int .i64 0), [.vr d.cells, .vr [.int .i64 0, .int .i64 0, .int .i64 0, .nils], .arr 28 3 d.zones.length (zoneAtT (roomX d zone.toNat).2), .vr (d.own 2)], by rw [hr0]; rfl, congrArg (fun g => [O.vr d.cells, O.vr [.int .i64 0, .int .i64 0, .int .i64 0, .nils], O.arr 28 3 d.zones.length g, O.vr (d.own 2)]) (reC_zoneAtT _ _), ?_⟩
            conv => whnf
            repeat' ((first | refine Need.mk (by first | (simp; done) | omega | decide | (simp_all; done) | (intro _h; simp_all; done) | (simp_all; omega)) ?_ | refine Have.mk (fun _h => ?_)); conv => whnf)
            refine Br.no rfl ?_; conv => whnf
            repeat' ((first | refine Need.mk (by first | (simp; done) | omega | decide | (simp_all; done) | (intro _h; simp_all; done) | (simp_all; omega)) ?_ | refine Have.mk (fun _h => ?_)); conv => whnf)
            refine Frc.mk (.c (strsT ((roomX d zone.toNat).2.getD zone.toNat default).sectors)) (by simp only [updG_one]; rfl) ?_
            conv => whnf
            repeat' ((first | refine Need.mk (by first | (simp; done) | omega | decide | (simp_all; done) | (intro _h; simp_all; done) | (simp_all; omega)) ?_ | refine Have.mk (fun _h => ?_)); conv => whnf)
            refine Dr.mk hΓ hMix (by kernel_rfl) ?_; conv => whnf
            repeat' ((first | refine Need.mk (by first | (simp; done) | omega | decide | (simp_all; done) | (intro _h; simp_all; done) | (simp_all; omega)) ?_ | refine Have.mk (fun _h => ?_)); conv => whnf)
            refine Frc.mk (.c (.sl 5 1 (((roomX d zone.toNat).2.getD zone.toNat default).sectors.length + 1) (((roomX d zone.toNat).2.getD zone.toNat default).sectors.length + 1) false)) (by simp only [updG_one]; rfl) ?_
            conv => whnf
            repeat' ((first | refine Need.mk (by first | (simp; done) | omega | decide | (simp_all; done) | (intro _h; simp_all; done) | (simp_all; omega)) ?_ | refine Have.mk (fun _h => ?_)); conv => whnf)
            (first | refine Br.lt (fun hs => ?_) (fun hs => ?_) | refine Br.le (fun hs => ?_) (fun hs => ?_) | refine Br.gt (fun hs => ?_) (fun hs => ?_) | refine Br.ge (fun hs => ?_) (fun hs => ?_) | refine Br.eq (fun hs => ?_) (fun hs => ?_) | refine Br.ne (fun hs => ?_) (fun hs => ?_) | refine Br.not (fun hs => ?_) (fun hs => ?_) | refine Br.mk (fun hs => ?_) (fun hs => ?_)) <;> (conv => whnf)
            · repeat' ((first | refine Need.mk (by first | (simp; done) | omega | decide | (simp_all; done) | (intro _h; simp_all; done) | (simp_all; omega)) ?_ | refine Have.mk (fun _h => ?_)); conv => whnf)
              refine Dr.mkS hΓ hMix [(1,6),(2,6),(3,6)] (by kernel_rfl) ?_; conv => whnf
              repeat' ((first | refine Need.mk (by first | (simp; done) | omega | decide | (simp_all; done) | (intro _h; simp_all; done) | (simp_all; omega)) ?_ | refine Have.mk (fun _h => ?_)); conv => whnf)
              refine Dr.mkS hΓ hMix [(1,7),(2,7),(3,7),(4,7),(5,7),(6,7)] (by kernel_rfl) ?_; conv => whnf
              repeat' ((first | refine Need.mk (by first | (simp; done) | omega | decide | (simp_all; done) | (intro _h; simp_all; done) | (simp_all; omega)) ?_ | refine Have.mk (fun _h => ?_)); conv => whnf)
              refine Frc.mk (.c (.sl 5 1 (((roomX d zone.toNat).2.getD zone.toNat default).sectors.length + 1) (((roomX d zone.toNat).2.getD zone.toNat default).sectors.length + 1) false)) (by simp only [updG_one]; rfl) ?_
              conv => whnf
              repeat' ((first | refine Need.mk (by first | (simp; done) | omega | decide | (simp_all; done) | (intro _h; simp_all; done) | (simp_all; omega)) ?_ | refine Have.mk (fun _h => ?_)); conv => whnf)
              have hD : appendD d zone s = { d with zones := (roomX d zone.toNat).2.set zone.toNat ⟨4, d.size, ((roomX d zone.toNat).2.getD zone.toNat default).sectors ++ [s]⟩ } := by
                simp only [appendD, if_pos hE0, hL, grow]
                rw [if_pos (by omega)]
              rw [hD, hI, hE0]
              refine RM.dev3F 2 5 rfl rfl (by decide) (app_imm _ _ _) (by simp; omega) (fun i hi => append_cells hk' (by simp) (app_cells _ _ _) (G := _) ?_ i (by omega)) (by rw [wrap_id _ (by omega) (by omega)]; omega) rfl
              intro i j hj
              simp only [updG_one]
              by_cases c : i = zone.toNat
              · subst c
                match j, hj with
                | 0, _ => simp [zoneAtT, Zone.cellT]
                | 1, _ => simp [zoneAtT, Zone.cellT]
                | 2, _ => simp
              · simp [c]
            · repeat' ((first | refine Need.mk (by first | (simp; done) | omega | decide | (simp_all; done) | (intro _h; simp_all; done) | (simp_all; omega)) ?_ | refine Have.mk (fun _h => ?_)); conv => whnf)
              refine Dr.mkS hΓ hMix [(1,7),(2,7),(3,7),(4,7),(5,7),(6,7)] (by kernel_rfl) ?_; conv => whnf
              repeat' ((first | refine Need.mk (by first | (simp; done) | omega | decide | (simp_all; done) | (intro _h; simp_all; done) | (simp_all; omega)) ?_ | refine Have.mk (fun _h => ?_)); conv => whnf)
              refine Frc.mk (.c (.sl 5 1 (((roomX d zone.toNat).2.getD zone.toNat default).sectors.length + 1) (((roomX d zone.toNat).2.getD zone.toNat default).sectors.length + 1) false)) (by simp only [updG_one]; rfl) ?_
              conv => whnf
              repeat' ((first | refine Need.mk (by first | (simp; done) | omega | decide | (simp_all; done) | (intro _h; simp_all; done) | (simp_all; omega)) ?_ | refine Have.mk (fun _h => ?_)); conv => whnf)
              have hD : appendD d zone s = { d with zones := (roomX d zone.toNat).2.set zone.toNat ⟨1, ((roomX d zone.toNat).2.getD zone.toNat default).durable, ((roomX d zone.toNat).2.getD zone.toNat default).sectors ++ [s]⟩ } := by
                simp only [appendD, if_pos hE0, hL, grow]
                rw [if_neg (by omega), roomX_closed d zone.toNat zone.toNat h3]; rfl
              rw [hD, hI, hE0]
              refine RM.dev3F 2 5 rfl rfl (by decide) (app_imm _ _ _) (by simp; omega) (fun i hi => append_cells hk' (by simp) (app_cells _ _ _) (G := _) ?_ i (by omega)) (by rw [wrap_id _ (by omega) (by omega)]; omega) rfl
              intro i j hj
              simp only [updG_one]
              by_cases c : i = zone.toNat
              · subst c
                match j, hj with
                | 0, _ => simp [zoneAtT, Zone.cellT]
                | 1, _ => simp [zoneAtT, Zone.cellT]
                | 2, _ => simp
              · simp [c]
          · subst hg
            refine ⟨.c (.int .i64 (roomX d zone.toNat).1), _, rfl, rfl, ?_⟩
            conv => whnf
            repeat' ((first | refine Need.mk (by first | (simp; done) | omega | decide | (simp_all; done) | (intro _h; simp_all; done) | (simp_all; omega)) ?_ | refine Have.mk (fun _h => ?_)); conv => whnf)
            (first | refine Br.lt (fun h5 => ?_) (fun h5 => ?_) | refine Br.le (fun h5 => ?_) (fun h5 => ?_) | refine Br.gt (fun h5 => ?_) (fun h5 => ?_) | refine Br.ge (fun h5 => ?_) (fun h5 => ?_) | refine Br.eq (fun h5 => ?_) (fun h5 => ?_) | refine Br.ne (fun h5 => ?_) (fun h5 => ?_) | refine Br.not (fun h5 => ?_) (fun h5 => ?_) | refine Br.mk (fun h5 => ?_) (fun h5 => ?_)) <;> (conv => whnf)
            · repeat' ((first | refine Need.mk (by first | (simp; done) | omega | decide | (simp_all; done) | (intro _h; simp_all; done) | (simp_all; omega)) ?_ | refine Have.mk (fun _h => ?_)); conv => whnf)
              refine CallN.opens clone_body (clone_spec d hd) (leA.refl rfl) ?_; rintro s Hc ⟨rfl, rfl⟩; refine ⟨_, _, rfl, plug_nil_arr _ _ _ _, ?_⟩; conv => whnf
              repeat' ((first | refine Need.mk (by first | (simp; done) | omega | decide | (simp_all; done) | (intro _h; simp_all; done) | (simp_all; omega)) ?_ | refine Have.mk (fun _h => ?_)); conv => whnf)
              obtain ⟨hD, hI⟩ := bad _ hE hr0
              rw [hD, hI, hE]
              exact RM.dev3 4 rfl rfl rfl rfl
            · exact absurd h5 hr0
        · repeat' ((first | refine Need.mk (by first | (simp; done) | omega | decide | (simp_all; done) | (intro _h; simp_all; done) | (simp_all; omega)) ?_ | refine Have.mk (fun _h => ?_)); conv => whnf)
          refine Frc.mk _ rfl ?_; conv => whnf
          repeat' ((first | refine Need.mk (by first | (simp; done) | omega | decide | (simp_all; done) | (intro _h; simp_all; done) | (simp_all; omega)) ?_ | refine Have.mk (fun _h => ?_)); conv => whnf)
          refine Dr.mk hΓ hMix (by kernel_rfl) ?_; conv => whnf
          repeat' ((first | refine Need.mk (by first | (simp; done) | omega | decide | (simp_all; done) | (intro _h; simp_all; done) | (simp_all; omega)) ?_ | refine Have.mk (fun _h => ?_)); conv => whnf)
          refine Frc.mk (.c (.sl 5 1 ((d.zones.getD zone.toNat default).sectors.length + 1) ((d.zones.getD zone.toNat default).sectors.length + 1) false)) (by simp only [updG_one]; rfl) ?_
          conv => whnf
          repeat' ((first | refine Need.mk (by first | (simp; done) | omega | decide | (simp_all; done) | (intro _h; simp_all; done) | (simp_all; omega)) ?_ | refine Have.mk (fun _h => ?_)); conv => whnf)
          (first | refine Br.lt (fun hs => ?_) (fun hs => ?_) | refine Br.le (fun hs => ?_) (fun hs => ?_) | refine Br.gt (fun hs => ?_) (fun hs => ?_) | refine Br.ge (fun hs => ?_) (fun hs => ?_) | refine Br.eq (fun hs => ?_) (fun hs => ?_) | refine Br.ne (fun hs => ?_) (fun hs => ?_) | refine Br.not (fun hs => ?_) (fun hs => ?_) | refine Br.mk (fun hs => ?_) (fun hs => ?_)) <;> (conv => whnf)
          · repeat' ((first | refine Need.mk (by first | (simp; done) | omega | decide | (simp_all; done) | (intro _h; simp_all; done) | (simp_all; omega)) ?_ | refine Have.mk (fun _h => ?_)); conv => whnf)
            refine Dr.mkS hΓ hMix [(1,6),(2,6),(3,6)] (by kernel_rfl) ?_; conv => whnf
            repeat' ((first | refine Need.mk (by first | (simp; done) | omega | decide | (simp_all; done) | (intro _h; simp_all; done) | (simp_all; omega)) ?_ | refine Have.mk (fun _h => ?_)); conv => whnf)
            refine Dr.mkS hΓ hMix [(1,7),(2,7),(3,7),(4,7),(5,7),(6,7)] (by kernel_rfl) ?_; conv => whnf
            repeat' ((first | refine Need.mk (by first | (simp; done) | omega | decide | (simp_all; done) | (intro _h; simp_all; done) | (simp_all; omega)) ?_ | refine Have.mk (fun _h => ?_)); conv => whnf)
            refine Frc.mk (.c (.sl 5 1 ((d.zones.getD zone.toNat default).sectors.length + 1) ((d.zones.getD zone.toNat default).sectors.length + 1) false)) (by simp only [updG_one]; rfl) ?_
            conv => whnf
            repeat' ((first | refine Need.mk (by first | (simp; done) | omega | decide | (simp_all; done) | (intro _h; simp_all; done) | (simp_all; omega)) ?_ | refine Have.mk (fun _h => ?_)); conv => whnf)
            have hE : appendE d zone s = 0 := by
              simp only [appendE, if_pos hch, hrange, if_pos]
              rw [if_pos (by omega), if_neg hst5, if_neg h4, h3]; rfl
            have hL : openL d zone.toNat = d.zones := by simp only [openL]; rw [h3]; rfl
            have hI : appendI d zone s = (d.zones.getD zone.toNat default).sectors.length := by simp only [appendI, if_pos hE]
            have hD : appendD d zone s = { d with zones := d.zones.set zone.toNat ⟨4, d.size, (d.zones.getD zone.toNat default).sectors ++ [s]⟩ } := by
              simp only [appendD, if_pos hE, hL, grow]
              rw [if_pos (by omega)]
            rw [hD, hI, hE]
            refine RM.dev3F 2 5 rfl rfl (by decide) (app_imm _ _ _) (by simp) (append_cells hk (by simp) (app_cells _ _ _) ?_) (by rw [wrap_id _ (by omega) (by omega)]; omega) rfl
            intro i j hj
            simp only [updG_one]
            by_cases c : i = zone.toNat
            · subst c
              match j, hj with
              | 0, _ => simp [zoneAtT, Zone.cellT]
              | 1, _ => simp [zoneAtT, Zone.cellT]
              | 2, _ => simp
            · simp [c]
          · repeat' ((first | refine Need.mk (by first | (simp; done) | omega | decide | (simp_all; done) | (intro _h; simp_all; done) | (simp_all; omega)) ?_ | refine Have.mk (fun _h => ?_)); conv => whnf)
            refine Dr.mkS hΓ hMix [(1,7),(2,7),(3,7),(4,7),(5,7),(6,7)] (by kernel_rfl) ?_; conv => whnf
            repeat' ((first | refine Need.mk (by first | (simp; done) | omega | decide | (simp_all; done) | (intro _h; simp_all; done) | (simp_all; omega)) ?_ | refine Have.mk (fun _h => ?_)); conv => whnf)
            refine Frc.mk (.c (.sl 5 1 ((d.zones.getD zone.toNat default).sectors.length + 1) ((d.zones.getD zone.toNat default).sectors.length + 1) false)) (by simp only [updG_one]; rfl) ?_
            conv => whnf
            repeat' ((first | refine Need.mk (by first | (simp; done) | omega | decide | (simp_all; done) | (intro _h; simp_all; done) | (simp_all; omega)) ?_ | refine Have.mk (fun _h => ?_)); conv => whnf)
            have hE : appendE d zone s = 0 := by
              simp only [appendE, if_pos hch, hrange, if_pos]
              rw [if_pos (by omega), if_neg hst5, if_neg h4, h3]; rfl
            have hL : openL d zone.toNat = d.zones := by simp only [openL]; rw [h3]; rfl
            have hI : appendI d zone s = (d.zones.getD zone.toNat default).sectors.length := by simp only [appendI, if_pos hE]
            have hD : appendD d zone s = { d with zones := d.zones.set zone.toNat ⟨(d.zones.getD zone.toNat default).state, (d.zones.getD zone.toNat default).durable, (d.zones.getD zone.toNat default).sectors ++ [s]⟩ } := by
              simp only [appendD, if_pos hE, hL, grow]
              rw [if_neg (by omega), h3]; rfl
            rw [hD, hI, hE]
            refine RM.dev3F 2 5 rfl rfl (by decide) (app_imm _ _ _) (by simp) (append_cells hk (by simp) (app_cells _ _ _) ?_) (by rw [wrap_id _ (by omega) (by omega)]; omega) rfl
            intro i j hj
            simp only [updG_one]
            by_cases c : i = zone.toNat
            · subst c
              match j, hj with
              | 0, _ => simp [zoneAtT, Zone.cellT]
              | 1, _ => simp [zoneAtT, Zone.cellT]
              | 2, _ => simp
            · simp [c]
  · simp only [beginQ, if_neg he] at hq
    obtain ⟨rfl, rfl⟩ := hq
    refine ⟨.t [.inr d.cells, .inl (.int .i64 (beginE d zone))], _, rfl, plug_nil_nil _, ?_⟩
    conv => whnf
    repeat' ((first | refine Need.mk (by first | (simp; done) | omega | decide | (simp_all; done) | (intro _h; simp_all; done) | (simp_all; omega)) ?_ | refine Have.mk (fun _h => ?_)); conv => whnf)
    (first | refine Br.lt (fun h1 => ?_) (fun h1 => ?_) | refine Br.le (fun h1 => ?_) (fun h1 => ?_) | refine Br.gt (fun h1 => ?_) (fun h1 => ?_) | refine Br.ge (fun h1 => ?_) (fun h1 => ?_) | refine Br.eq (fun h1 => ?_) (fun h1 => ?_) | refine Br.ne (fun h1 => ?_) (fun h1 => ?_) | refine Br.not (fun h1 => ?_) (fun h1 => ?_) | (refine Br.mk (fun h1 => ?_) (fun h1 => ?_) <;> simp [-List.length_eq_zero_iff, -List.getD_eq_getElem?_getD] at h1)) <;> (conv => whnf)
    · repeat' ((first | refine Need.mk (by first | (simp; done) | omega | decide | (simp_all; done) | (intro _h; simp_all; done) | (simp_all; omega)) ?_ | refine Have.mk (fun _h => ?_)); conv => whnf)
      refine CallN.opens clone_body (clone_spec d hd) (leA.refl rfl) ?_; rintro s Hc ⟨rfl, rfl⟩; refine ⟨_, _, rfl, plug_nil_arr _ _ _ _, ?_⟩; conv => whnf
      repeat' ((first | refine Need.mk (by first | (simp; done) | omega | decide | (simp_all; done) | (intro _h; simp_all; done) | (simp_all; omega)) ?_ | refine Have.mk (fun _h => ?_)); conv => whnf)
      have hE : appendE d zone s = beginE d zone := by
        by_cases hch : check d = 0
        · by_cases hr : 0 ≤ zone ∧ zone < d.zones.length
          · have : beginE d zone = if (d.zones.getD zone.toNat default).state = 5 then 6 else 0 := by simp only [beginE, if_pos hch, decide_eq_true hr, if_pos]
            rw [this] at h1 he
            split at h1 <;> simp at h1 he
          · simp only [beginE, appendE, if_pos hch, decide_eq_false hr]; rfl
        · simp only [beginE, appendE, if_neg hch]
      obtain ⟨hD, hI⟩ := bad _ hE he
      rw [hD, hI, hE]
      exact RM.dev3 3 rfl rfl rfl rfl
    · repeat' ((first | refine Need.mk (by first | (simp; done) | omega | decide | (simp_all; done) | (intro _h; simp_all; done) | (simp_all; omega)) ?_ | refine Have.mk (fun _h => ?_)); conv => whnf)
      have he6 : beginE d zone = 6 := h1 he
      refine CallG.pure check_body (fun _ => check_spec d ) (fun _ => leA.refl rfl) rfl ?_
      conv => whnf
      repeat' ((first | refine Need.mk (by first | (simp; done) | omega | decide | (simp_all; done) | (intro _h; simp_all; done) | (simp_all; omega)) ?_ | refine Have.mk (fun _h => ?_)); conv => whnf)
      (first | refine Br.lt (fun h2 => ?_) (fun h2 => ?_) | refine Br.le (fun h2 => ?_) (fun h2 => ?_) | refine Br.gt (fun h2 => ?_) (fun h2 => ?_) | refine Br.ge (fun h2 => ?_) (fun h2 => ?_) | refine Br.eq (fun h2 => ?_) (fun h2 => ?_) | refine Br.ne (fun h2 => ?_) (fun h2 => ?_) | refine Br.not (fun h2 => ?_) (fun h2 => ?_) | (refine Br.mk (fun h2 => ?_) (fun h2 => ?_) <;> simp [-List.length_eq_zero_iff, -List.getD_eq_getElem?_getD] at h2)) <;> (conv => whnf)
      · repeat' ((first | refine Need.mk (by first | (simp; done) | omega | decide | (simp_all; done) | (intro _h; simp_all; done) | (simp_all; omega)) ?_ | refine Have.mk (fun _h => ?_)); conv => whnf)
        refine CallN.opens clone_body (clone_spec d hd) (leA.refl rfl) ?_; rintro s Hc ⟨rfl, rfl⟩; refine ⟨_, _, rfl, plug_nil_arr _ _ _ _, ?_⟩; conv => whnf
        repeat' ((first | refine Need.mk (by first | (simp; done) | omega | decide | (simp_all; done) | (intro _h; simp_all; done) | (simp_all; omega)) ?_ | refine Have.mk (fun _h => ?_)); conv => whnf)
        have hE : appendE d zone s = beginE d zone := by simp only [beginE, appendE, if_neg h2.2]
        obtain ⟨hD, hI⟩ := bad _ hE he
        rw [hD, hI, hE]
        exact RM.dev3 3 rfl rfl rfl rfl
      · repeat' ((first | refine Need.mk (by first | (simp; done) | omega | decide | (simp_all; done) | (intro _h; simp_all; done) | (simp_all; omega)) ?_ | refine Have.mk (fun _h => ?_)); conv => whnf)
        have hch : check d = 0 := h2 he6
        have hr : 0 ≤ zone ∧ zone < d.zones.length := by
          by_cases hr : 0 ≤ zone ∧ zone < d.zones.length
          · exact hr
          · have : beginE d zone = 5 := by simp only [beginE, if_pos hch, decide_eq_false hr]; rfl
            omega
        have h5 : (d.zones.getD zone.toNat default).state = 5 := by
          by_cases h5 : (d.zones.getD zone.toNat default).state = 5
          · exact h5
          · have : beginE d zone = 0 := by simp only [beginE, if_pos hch, decide_eq_true hr, if_pos, if_neg h5]
            omega
        (first | refine Br.lt (fun h40 => ?_) (fun h40 => ?_) | refine Br.le (fun h40 => ?_) (fun h40 => ?_) | refine Br.gt (fun h40 => ?_) (fun h40 => ?_) | refine Br.ge (fun h40 => ?_) (fun h40 => ?_) | refine Br.eq (fun h40 => ?_) (fun h40 => ?_) | refine Br.ne (fun h40 => ?_) (fun h40 => ?_) | refine Br.not (fun h40 => ?_) (fun h40 => ?_) | refine Br.mk (fun h40 => ?_) (fun h40 => ?_)) <;> (conv => whnf)
        · repeat' ((first | refine Need.mk (by first | (simp; done) | omega | decide | (simp_all; done) | (intro _h; simp_all; done) | (simp_all; omega)) ?_ | refine Have.mk (fun _h => ?_)); conv => whnf)
          refine CallN.opens clone_body (clone_spec d hd) (leA.refl rfl) ?_; rintro s Hc ⟨rfl, rfl⟩; refine ⟨_, _, rfl, plug_nil_arr _ _ _ _, ?_⟩; conv => whnf
          repeat' ((first | refine Need.mk (by first | (simp; done) | omega | decide | (simp_all; done) | (intro _h; simp_all; done) | (simp_all; omega)) ?_ | refine Have.mk (fun _h => ?_)); conv => whnf)
          have hE : appendE d zone s = 2 := by
            simp only [appendE, if_pos hch, decide_eq_true hr, if_pos]
            rw [if_neg (by omega)]
          obtain ⟨hD, hI⟩ := bad _ hE (by decide)
          rw [hD, hI, hE]
          exact RM.dev3 3 rfl rfl rfl rfl
        · repeat' ((first | refine Need.mk (by first | (simp; done) | omega | decide | (simp_all; done) | (intro _h; simp_all; done) | (simp_all; omega)) ?_ | refine Have.mk (fun _h => ?_)); conv => whnf)
          (first | refine Br.lt (fun h6 => ?_) (fun h6 => ?_) | refine Br.le (fun h6 => ?_) (fun h6 => ?_) | refine Br.gt (fun h6 => ?_) (fun h6 => ?_) | refine Br.ge (fun h6 => ?_) (fun h6 => ?_) | refine Br.eq (fun h6 => ?_) (fun h6 => ?_) | refine Br.ne (fun h6 => ?_) (fun h6 => ?_) | refine Br.not (fun h6 => ?_) (fun h6 => ?_) | refine Br.mk (fun h6 => ?_) (fun h6 => ?_)) <;> (conv => whnf)
          · repeat' ((first | refine Need.mk (by first | (simp; done) | omega | decide | (simp_all; done) | (intro _h; simp_all; done) | (simp_all; omega)) ?_ | refine Have.mk (fun _h => ?_)); conv => whnf)
            refine CallN.opens clone_body (clone_spec d hd) (leA.refl rfl) ?_; rintro s Hc ⟨rfl, rfl⟩; refine ⟨_, _, rfl, plug_nil_arr _ _ _ _, ?_⟩; conv => whnf
            repeat' ((first | refine Need.mk (by first | (simp; done) | omega | decide | (simp_all; done) | (intro _h; simp_all; done) | (simp_all; omega)) ?_ | refine Have.mk (fun _h => ?_)); conv => whnf)
            have hE : appendE d zone s = 6 := by
              simp only [appendE, if_pos hch, decide_eq_true hr, if_pos]
              rw [if_pos (by omega), if_pos h5]
            obtain ⟨hD, hI⟩ := bad _ hE (by decide)
            rw [hD, hI, hE]
            exact RM.dev3 3 rfl rfl rfl he6
          · exact absurd h6 he
theorem append_body : HasBody Try.prog 26 := ⟨⟨Try.f26, Try.func26, rfl, by kernel_rfl⟩⟩
end Go.Proofs
