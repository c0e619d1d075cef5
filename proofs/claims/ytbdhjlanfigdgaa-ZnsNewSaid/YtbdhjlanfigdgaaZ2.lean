import Derived.Test.YtbdhjlanfigdgaaZ1
open Go Go.Am
namespace Go.Proofs

theorem clone_spec (d : Dev) (hd : d.small) : CSpec Try.prog 50 [d.s] [] fun s H => s = .a [.int .i64 d.size, .int .i64 d.maxOpen, .int .i64 d.maxActive, .sl 0 3 d.zones.length d.zones.length true] ∧ H = [.arr 28 3 d.zones.length (zoneAtT d.zones)] := by
  refine CSpec.rm ?_
  refine CSpec.of_vc hΓ Try.func50 rfl 45 0 [.cell 2 24] Try.ntmps50 rfl (by rw [Try.results50]) rfl ?_
  conv => whnf
  repeat' ((first | refine Need.mk (by first | (simp; done) | omega | decide | (simp_all; done) | (intro _h; simp_all; done) | (simp_all; omega)) ?_ | refine Have.mk (fun _h => ?_)); conv => whnf)
  have hz := hd.z
  refine Need.mk (by simp only []; omega) ?_
  conv => whnf
  repeat' ((first | refine Need.mk (by first | (simp; done) | omega | decide | (simp_all; done) | (intro _h; simp_all; done) | (simp_all; omega)) ?_ | refine Have.mk (fun _h => ?_)); conv => whnf)
  have hn : (d.zones.length : Int).toNat = d.zones.length := by simp
  refine Lp.mk hΓ (ι := Nat) (fun k => [(20, .c (.int .i64 k)), (19, .c (.int .i64 d.zones.length)), (18, .c (zonesC d.zones)), (2, .c (.ptr 1 0)), (3, .c (.ptr 2 0))])
    (fun k => [.vr d.cells, .vr dev0.cells, .vr [.int .i64 d.size, .int .i64 d.maxOpen, .int .i64 d.maxActive, .sl 3 3 d.zones.length d.zones.length true], .arr 28 3 d.zones.length (zoneAtK d.zones k)]) (fun k => k ≤ d.zones.length) (fun k => d.zones.length - k) 0 (Nat.zero_le _) ?_ ?_
  · refine Mv.mk' 4 rfl ⟨O.wk.vr (immL_wk rfl), O.wk.vr ⟨wkC.imm rfl, wkC.imm rfl, wkC.imm rfl, wkC.nil rfl, trivial⟩, O.wk.vr ⟨wkC.imm rfl, wkC.imm rfl, wkC.imm rfl, wkC.sl (by decide) hn hn (fun _ => rfl), trivial⟩, O.wk.arr hn (fun i hi j hj => wkC.of_eq (zoneAtK_imm _ _ _ _) ?_), trivial⟩
      ⟨wkS.imm rfl, wkS.imm rfl, wkS.imm rfl, wkS.c (wkC.ptr (by decide)), wkS.c (wkC.ptr (by decide)), trivial⟩ (Nat.zero_le _)
    simp only [copyG, zoneAtK]
    rw [if_pos (by omega), if_neg (by omega)]
    rfl
  · intro k hk
    conv => whnf
    repeat' ((first | refine Need.mk (by first | (simp; done) | omega | decide | (simp_all; done) | (intro _h; simp_all; done) | (simp_all; omega)) ?_ | refine Have.mk (fun _h => ?_)); conv => whnf)
    (first | refine Br.lt (fun h => ?_) (fun h => ?_) | refine Br.le (fun h => ?_) (fun h => ?_) | refine Br.gt (fun h => ?_) (fun h => ?_) | refine Br.ge (fun h => ?_) (fun h => ?_) | refine Br.eq (fun h => ?_) (fun h => ?_) | refine Br.ne (fun h => ?_) (fun h => ?_) | refine Br.not (fun h => ?_) (fun h => ?_) | refine Br.mk (fun h => ?_) (fun h => ?_)) <;> (conv => whnf)
    · repeat' ((first | refine Need.mk (by first | (simp; done) | omega | decide | (simp_all; done) | (intro _h; simp_all; done) | (simp_all; omega)) ?_ | refine Have.mk (fun _h => ?_)); conv => whnf)
      have hlt : k < d.zones.length := by omega
      have hsec := hd.s k
      refine Dr.mk hΓ hMix (by kernel_rfl) ?_; conv => whnf
      repeat' ((first | refine Need.mk (by first | (simp; done) | omega | decide | (simp_all; done) | (intro _h; simp_all; done) | (simp_all; omega)) ?_ | refine Have.mk (fun _h => ?_)); conv => whnf)
      refine Dr.mk hΓ hMix (by kernel_rfl) ?_; conv => whnf
      repeat' ((first | refine Need.mk (by first | (simp; done) | omega | decide | (simp_all; done) | (intro _h; simp_all; done) | (simp_all; omega)) ?_ | refine Have.mk (fun _h => ?_)); conv => whnf)
      have hkn : (k : Int).toNat = k := by simp
      refine Frc.mk (.c (.sl 5 1 (d.zones.getD k default).sectors.length (d.zones.getD k default).sectors.length true)) ?_ ?_
      · simp [updG, lget, getL, sameOp]
      conv => whnf
      repeat' ((first | refine Need.mk (by first | (simp; done) | omega | decide | (simp_all; done) | (intro _h; simp_all; done) | (simp_all; omega)) ?_ | refine Have.mk (fun _h => ?_)); conv => whnf)
      have w0 := wrap_id (↑k + 1) (by omega) (by omega)
      refine ⟨k + 1, by omega, by omega, (Mv.fz 5 rfl (Nat.zero_le _) ?_).trans (Mv.mk' 4 rfl ⟨O.wk.vr (immL_wk rfl), O.wk.vr (immL_wk rfl), O.wk.vr ⟨wkC.imm rfl, wkC.imm rfl, wkC.imm rfl, wkC.sl (by decide) rfl rfl (fun e => e), trivial⟩, O.wk.arr rfl (fun i hi j hj => ?_), trivial⟩
        ⟨wkS.c (wkC.int (by rw [w0]; rfl)), wkS.imm rfl, wkS.imm rfl, wkS.c (wkC.ptr (by decide)), wkS.c (wkC.ptr (by decide)), trivial⟩ (Nat.zero_le _))⟩
      · intro i hi j hj
        simp only [Int.toNat_natCast] at hi ⊢
        simp only [copyG]
        rw [if_pos (by omega)]
        rfl
      · rw [updG_one, hkn]
        by_cases c : i = k ∧ j = 2
        · rw [if_pos (by simpa using c)]
          obtain ⟨rfl, rfl⟩ := c
          have e : zoneAtK d.zones (i + 1) i 2 = strsT (d.zones.getD i default).sectors := by
            simp only [zoneAtK]
            rw [if_pos (by omega)]
            rfl
          rw [e]
          refine wkC.fz rfl (by simp) (fun a ha b hb => leF.of_eq ?_) (fun _ => ⟨rfl, rfl⟩)
          simp only [Int.toNat_natCast] at ha ⊢
          simp only [copyG]
          rw [if_pos (by omega)]
        · rw [if_neg (by simpa using c), fzC_zoneAtK]
          refine wkC.of_eq (zoneAtK_imm _ _ _ _) ?_
          simp only [zoneAtK]
          by_cases c1 : i < k
          · rw [if_pos c1, if_pos (by omega)]
          · rw [if_neg c1]
            by_cases c2 : i = k
            · rw [if_pos (by omega), cellT_lt _ _ (by omega)]
            · rw [if_neg (by omega)]
    · repeat' ((first | refine Need.mk (by first | (simp; done) | omega | decide | (simp_all; done) | (intro _h; simp_all; done) | (simp_all; omega)) ?_ | refine Have.mk (fun _h => ?_)); conv => whnf)
      have : k = d.zones.length := by omega
      subst this
      refine ⟨_, _, RM.ren (fun _ => 3) 1 rfl ⟨?_, ?_⟩ ?_, rfl, rfl⟩
      · intro i o' hi
        match i with
        | 0 =>
          simp only [getL, Option.some.injEq] at hi
          subst hi
          exact ⟨_, rfl, O.wk.arr rfl fun i hi j hj => wkC.of_eq (zoneAtT_imm _ _ _) (zoneAtK_all _ _ _ hi)⟩
        | i + 1 => simp [getL] at hi
      · intro i j hi hj _
        simp only [List.length_cons, List.length_nil] at hi hj
        omega
      · exact wkS.a ⟨wkC.imm rfl, wkC.imm rfl, wkC.imm rfl, ⟨rfl, rfl, rfl, rfl, by decide, fun e => e⟩, trivial⟩
theorem clone_body : HasBody Try.prog 50 := ⟨⟨Try.f50, Try.func50, rfl, by kernel_rfl⟩⟩
end Go.Proofs
