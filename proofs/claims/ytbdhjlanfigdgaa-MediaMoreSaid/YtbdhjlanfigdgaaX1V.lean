/- Part of the proofs of laws of this seat: contracts and plain lemmas; no condition is added to a statement. -/
import Derived.Test.YtbdhjlanfigdgaaZnsV
import Derived.Test.YtbdhjlanfigdgaaRefV
import Derived.Test.YtbdhjlanfigdgaaEncV
set_option linter.unusedSimpArgs false
set_option linter.unusedVariables false
open Go Go.Am
namespace Go.Proofs
def sec1 : ByteArray := encR ⟨2, 0, 1, 0, ⟨#[]⟩⟩
theorem sec1_size : sec1.size = 40 := encR_size (by decide)

section
variable {s : ByteArray} (h : s.size = 40)
def dA : Dev := ⟨3, 1, 2, [zone0, zone0]⟩
def dB (s : ByteArray) : Dev := ⟨3, 1, 2, [⟨1, 0, [s]⟩, zone0]⟩
def dC (s : ByteArray) : Dev := ⟨3, 1, 2, [⟨3, 0, [s]⟩, ⟨1, 0, [s]⟩]⟩
theorem dA_new : newD 2 3 1 2 = dA ∧ newE 2 3 1 2 = 0 := by
  have : newE 2 3 1 2 = 0 := by decide
  exact ⟨by simp only [newD, this]; rfl, this⟩
include h in
theorem dA_app : appendE dA 0 s = 0 ∧ appendI dA 0 s = 0 ∧ appendD dA 0 s = dB s := by
  have hc : check dA = 0 := by decide
  have he : appendE dA 0 s = 0 := by
    simp only [appendE, hc]
    simp [h, dA, zone0, isOpen, roomX, cntOpen, cntActive, isActive]
  refine ⟨he, by simp only [appendI, he]; simp [dA, zone0], ?_⟩
  simp only [appendD, he]
  simp [dA, dB, openL, zone0, isOpen, roomX, cntOpen, cntActive, isActive, grow]
include h in
theorem dB_check : check (dB s) = 0 := by
  simp [check, dB, confOk, right, zone0, secsOk, h, cntOpen, cntActive, isOpen, isActive]
include h in
theorem dB_app : appendE (dB s) 1 s = 0 ∧ appendI (dB s) 1 s = 0 ∧ appendD (dB s) 1 s = dC s := by
  have hc := dB_check h
  have hr : roomX (dB s) 1 = (0, [⟨3, 0, [s]⟩, zone0]) := by
    simp [roomX, dB, zone0, cntOpen, cntActive, isOpen, isActive, firstOpen, shutAt, shutZ]
  have he : appendE (dB s) 1 s = 0 := by
    simp [appendE, hc, h, hr]
    simp [dB, zone0, isOpen]
  refine ⟨he, by simp [appendI, he, dB, zone0], ?_⟩
  simp only [appendD, he, if_pos, openL]
  simp [hr]
  simp [dB, dC, zone0, isOpen, grow]
include h in
theorem dC_read : readE (dC s) 0 0 = 0 ∧ readS (dC s) 0 0 = s := by
  have hc : check (dC s) = 0 := by
    simp [check, dC, confOk, right, secsOk, h, cntOpen, cntActive, isOpen, isActive]
  have hb : beginE (dC s) 0 = 0 := by
    simp only [beginE, hc]
    simp [dC]
  have he : readE (dC s) 0 0 = 0 := by
    simp only [readE, hb]
    simp [dC]
  exact ⟨he, by simp only [readS, he]; simp [dC]⟩
end

theorem small2 (z0 z1 : Zone) (a b c : Int) (h0 : z0.sectors.length ≤ 10000000) (h1 : z1.sectors.length ≤ 10000000) : Dev.small ⟨a, b, c, [z0, z1]⟩ := by
  refine ⟨by simp, fun i => ?_⟩
  match i with
  | 0 => simpa using h0
  | 1 => simpa using h1
  | i + 2 => simp [List.getD]; exact Nat.zero_le _

set_option maxRecDepth 100000 in
theorem awake5_spec : PSpec Try.prog 25 [] (.c (.bool true)) := by
  have A0 : PSpec Try.prog 23 [.c (.int .i64 2), .c (.int .i64 3), .c (.int .i64 1), .c (.int .i64 2)] (.t [.inr dA.cells, .inl (.int .i64 0)]) := by
    have := new_spec 2 3 1 2 (by omega)
    rw [dA_new.1, dA_new.2] at this
    exact this
  have A1 : PSpec Try.prog 26 [dA.s, .c (.int .i64 0), .c (.str sec1)] (Dev.out3 (dB sec1) 0 0) := by
    have := append_spec dA (small2 _ _ _ _ _ (Nat.zero_le _) (Nat.zero_le _)) 0 sec1
    obtain ⟨e1, e2, e3⟩ := dA_app sec1_size
    rw [e1, e2, e3] at this
    exact this
  have A2 : PSpec Try.prog 26 [(dB sec1).s, .c (.int .i64 1), .c (.str sec1)] (Dev.out3 (dC sec1) 0 0) := by
    have := append_spec (dB sec1) (small2 _ _ _ _ _ (by simp) (Nat.zero_le _)) 1 sec1
    obtain ⟨e1, e2, e3⟩ := dB_app sec1_size
    rw [e1, e2, e3] at this
    exact this
  have A3 : PSpec Try.prog 32 [(dC sec1).s, .c (.int .i64 0), .c (.int .i64 0)] (.t [.inl (.str sec1), .inl (.int .i64 0)]) := by
    have := read_spec (dC sec1) 0 0
    obtain ⟨e1, e2⟩ := dC_read sec1_size
    rw [e1, e2] at this
    exact this
  refine CSpec.of_vc hΓ Try.func25 rfl 84 0 [.tmp 0] Try.ntmps25 rfl (by rw [Try.results25]) rfl ?_
  conv => whnf
  refine CallN.pure new_body A0 (leA.refl rfl) rfl ?_
  conv => whnf
  repeat' ((first | refine Need.auto ?_ | refine Have.mk (fun _h => ?_)); conv => whnf)
  refine CallN.pure sector_body (sector_spec ⟨2, 0, 1, 0, ⟨#[]⟩⟩) (leA.refl rfl) rfl ?_
  conv => whnf
  repeat' ((first | refine Need.auto ?_ | refine Have.mk (fun _h => ?_)); conv => whnf)
  refine CallN.pure append_body A1 (leA.refl rfl) rfl ?_
  conv => whnf
  repeat' ((first | refine Need.auto ?_ | refine Have.mk (fun _h => ?_)); conv => whnf)
  refine CallN.pure append_body A2 (leA.refl rfl) rfl ?_
  conv => whnf
  repeat' ((first | refine Need.auto ?_ | refine Have.mk (fun _h => ?_)); conv => whnf)
  refine CallN.pure read_body A3 (leA.refl rfl) rfl ?_
  conv => whnf
  repeat' ((first | refine Need.auto ?_ | refine Have.mk (fun _h => ?_)); conv => whnf)
  have : sec1 = encR { kind := 2, block := 0, version := 1, move := 0, payload := { data := #[] } } := rfl
  rw [← this]
  simp [dC]
theorem awake5_body : HasBody Try.prog 25 := ⟨⟨Try.f25, Try.func25, rfl, by kernel_rfl⟩⟩

theorem allSame_refl : ∀ l : List Zone, allSame l l = true
  | [] => rfl
  | z :: r => by simp [allSame, sameZone, allSame_refl r]
theorem same_refl (d : Dev) : same d d = true := by simp [same, allSame_refl]

theorem znsNew_spec (zones size open_ act : Int) (hz : -9223372036854775808 ≤ zones ∧ zones ≤ 9223372036854775807) : PSpec Try.prog 7 [.c (.int .i64 zones), .c (.int .i64 size), .c (.int .i64 open_), .c (.int .i64 act)] (.c (.bool true)) := by
  refine CSpec.of_vc hΓ Try.func7 rfl 40 0 [.tmp 8] Try.ntmps7 rfl (by rw [Try.results7]) rfl ?_
  conv => whnf
  refine CallN.pure new_body (new_spec zones size open_ act hz ) (leA.refl rfl) rfl ?_
  conv => whnf
  repeat' ((first | refine Need.auto ?_ | refine Have.mk (fun _h => ?_)); conv => whnf)
  refine CallN.pure new_ref_body (new_ref_spec zones size open_ act hz ) (leA.refl rfl) rfl ?_
  conv => whnf
  repeat' ((first | refine Need.auto ?_ | refine Have.mk (fun _h => ?_)); conv => whnf)
  refine CallG.pure same_body (fun _ => same_spec (newD zones size open_ act) (newD zones size open_ act) ) (fun _ => leA.refl rfl) rfl ?_
  conv => whnf
  repeat' ((first | refine Need.auto ?_ | refine Have.mk (fun _h => ?_)); conv => whnf)
  refine CallG.pure awake5_body (fun _ => awake5_spec) (fun _ => leA.refl rfl) rfl ?_
  conv => whnf
  repeat' ((first | refine Need.auto ?_ | refine Have.mk (fun _h => ?_)); conv => whnf)
  simp [same_refl]
end Go.Proofs
