/- Contracts, lemmas; no condition. -/
import Derived.Test.YtkelkepdcfogaaaGreatP11B
import Derived.Test.YtkelkepdcfogaaaGreatP19B
import Derived.Test.YtkelkepdcfogaaaGreatA26B
import Derived.Test.YtkelkepdcfogaaaGreatP16B
import Derived.Test.YtkelkepdcfogaaaGreatP18B
import Derived.Test.YtkelkepdcfogaaaGreatP15B
import Derived.Test.YtkelkepdcfogaaaGreatEnvB
import Derived.Test.YtkelkepdcfogaaaGreatP13B
import Derived.Shelf.Strings.Repeat
import Derived.Shelf.Strings.OnBuilder
import Derived.Shelf.Strconv.Clone
import Derived.Test.YtkelkepdcfogaaaGreatA27B
set_option linter.all false
section
open Go Go.Am
namespace Go.Proofs
set_option maxRecDepth 20000
theorem QkR (d : Dev) (zone off : Int) : PS 22 [d.s, .c (.int .i64 zone), .c (.int .i64 off)] (.t [.inl (.str (Qcz d zone off)), .inl (.int .i64 (QfD d zone off))]) := by
 refine PSpec.rm ?_
 refine ov hΓ Tryz.func22 37 0 [.tmp 6, .tmp 7] Tryz.ntmps22 Tryz.results22 ?_
 conv=>whnf
 refine CallN.pure Qc9 (Qc8 d zone ) (leA.refl rfl) rfl ?_
 ((conv=>whnf);(repeat' ((first|refine Nd ?_|refine Hv fun _h=>?_);conv=>whnf)))
 refine Br.of (fun h1=>?_) (fun h1=>?_)<;>(try simp only [Int.toNat_natCast] at h1)<;>(conv=>whnf)
 ·((conv=>whnf);(repeat' ((first|refine Nd ?_|refine Hv fun _h=>?_);conv=>whnf)))
  have h2 : QfD d zone off = Q0 d zone := by simp only [QfD, if_neg h1]
  have : Qcz d zone off = ByteArray.empty := by simp only [Qcz, h2, if_neg h1]
  exact RM.imm rfl (wkS.t ⟨wkC.str (by rw [this]; rfl), wkC.int h2.symm, trivial⟩)
 ·obtain ⟨hok, hz0, hz1⟩ := Qan h1
  have hk : zone.toNat < d.zones.length := by omega
  have hrE : ∀ e : Int, (if decide (0 ≤ off ∧ off < (d.zones.getD zone.toNat default).sectors.length) then 0 else 10) = e → QfD d zone off = e := by
   intro e h; simp only [QfD, if_pos h1]; exact h
  ((conv=>whnf);(repeat' ((first|refine Nd ?_|refine Hv fun _h=>?_);conv=>whnf)))
  (first|refine Br.od (fun h2=>?_) (fun h2=>?_)|refine Br.mk (fun h2=>?_) (fun h2=>?_)<;>simp [-List.length_eq_zero_iff,-List.getD_eq_getElem?_getD] at h2)<;>(try simp only [Int.toNat_natCast] at h2)<;>(conv=>whnf)
  ·((conv=>whnf);(repeat' ((first|refine Nd ?_|refine Hv fun _h=>?_);conv=>whnf)))
   have : decide (0 ≤ off ∧ off < (d.zones.getD zone.toNat default).sectors.length) = false := by simp only [decide_eq_false_iff_not]; omega
   have h10 := hrE 10 (by rw [this]; rfl)
   exact RM.imm rfl (wkS.t ⟨wkC.str (by simp only [Qcz, h10]; rfl), wkC.int h10.symm, trivial⟩)
  ·((conv=>whnf);(repeat' ((first|refine Nd ?_|refine Hv fun _h=>?_);conv=>whnf)))
   have : decide (0 ≤ off ∧ off < (d.zones.getD zone.toNat default).sectors.length) = true := by simp only [decide_eq_true_eq]; omega
   have h0 := hrE 0 (by rw [this]; rfl)
   exact RM.imm rfl (wkS.t ⟨wkC.str (by simp only [Qcz, h0]; rfl), wkC.int h0.symm, trivial⟩)
theorem QkH : HB 22 := hB Tryz.func22
theorem Qjd (d : Dev) (hd : d.small) (zone : Int) : PS 78 [d.s, .c (.int .i64 zone)] (Dev.out (Qa9 d zone) (Q0 d zone)) := by
 refine PSpec.rm ?_
 refine ov hΓ Tryz.func78 18 0 [.cell 4 29, .tmp 5] Tryz.ntmps78 Tryz.results78 ?_
 conv=>whnf
 refine CallN.pure Qc9 (Qc8 d zone ) (leA.refl rfl) rfl ?_
 ((conv=>whnf);(repeat' ((first|refine Nd ?_|refine Hv fun _h=>?_);conv=>whnf)))
 refine Br.of (fun h1=>?_) (fun h1=>?_)<;>(try simp only [Int.toNat_natCast] at h1)<;>(conv=>whnf)
 ·((conv=>whnf);(repeat' ((first|refine Nd ?_|refine Hv fun _h=>?_);conv=>whnf)))
  rw [show Qa9 d zone = d by simp only [Qa9, if_neg h1]]
  exact RM.imm rfl (wkS.imm rfl)
 ·obtain ⟨hok, hz0, hz1⟩ := Qan h1
  have hz := hd.z
  ((conv=>whnf);(repeat' ((first|refine Nd ?_|refine Hv fun _h=>?_);conv=>whnf)))
  refine CallN.pureA Qco (Qci d hz zone ⟨hz0, hz1⟩ zone0 ) ?_
  ((conv=>whnf);(repeat' ((first|refine Nd ?_|refine Hv fun _h=>?_);conv=>whnf)))
  rw [show Qa9 d zone = { d with zones := d.zones.set zone.toNat zone0 } by simp only [Qa9, if_pos h1], h1]
  exact RM.imm rfl (wkS.imm rfl)
theorem Qja : HB 78 := hB Tryz.func78
theorem Qpa {z : Zone} {size : Int} (h : right z size = true) (h4 : z.state = 4) : z.durable = z.sectors.length := by
 simp only [right, Bool.and_eq_true, decide_eq_true_eq] at h
 exact h.1.2.2.2.2.2.2.1 h4
theorem QiC (d : Dev) (hd : d.small) (zone : Int) : PS 79 [d.s, .c (.int .i64 zone)] (Dev.out (QaN d zone) (Q0 d zone)) := by
 refine PSpec.rm ?_
 refine ov hΓ Tryz.func79 29 0 [.cell 4 29, .tmp 5] Tryz.ntmps79 Tryz.results79 ?_
 conv=>whnf
 refine CallN.pure Qc9 (Qc8 d zone ) (leA.refl rfl) rfl ?_
 ((conv=>whnf);(repeat' ((first|refine Nd ?_|refine Hv fun _h=>?_);conv=>whnf)))
 refine Br.of (fun h1=>?_) (fun h1=>?_)<;>(try simp only [Int.toNat_natCast] at h1)<;>(conv=>whnf)
 ·((conv=>whnf);(repeat' ((first|refine Nd ?_|refine Hv fun _h=>?_);conv=>whnf)))
  rw [show QaN d zone = d by simp only [QaN, if_neg h1]]
  exact RM.imm rfl (wkS.imm rfl)
 ·obtain ⟨hok, hz0, hz1⟩ := Qan h1
  have hz := hd.z
  have hk : zone.toNat < d.zones.length := by omega
  ((conv=>whnf);(repeat' ((first|refine Nd ?_|refine Hv fun _h=>?_);conv=>whnf)))
  have e : Qbi (d.zones.getD zone.toNat default) = ⟨4, (d.zones.getD zone.toNat default).sectors.length, (d.zones.getD zone.toNat default).sectors⟩ := by
   simp only [Qbi]
   split
   ·rename_i h4
    have hm : d.zones.getD zone.toNat default ∈ d.zones := by
     rw [Qdf _ _ hk]; exact List.getElem_mem hk
    have := Qpa (hok.zones _ hm) h4
    generalize d.zones.getD zone.toNat default = z at *
    cases z
    simp_all
   ·rfl
  refine CallN.pure Qco (Qci d hz zone ⟨hz0, hz1⟩ ⟨4, (d.zones.getD zone.toNat default).sectors.length, (d.zones.getD zone.toNat default).sectors⟩ ) (leA.refl rfl) rfl ?_
  ((conv=>whnf);(repeat' ((first|refine Nd ?_|refine Hv fun _h=>?_);conv=>whnf)))
  rw [show QaN d zone = { d with zones := d.zones.set zone.toNat (Qbi (d.zones.getD zone.toNat default)) } by simp only [QaN, if_pos h1], h1, e]
  exact RM.imm rfl (wkS.imm rfl)
theorem QiH : HB 79 := hB Tryz.func79
theorem Qiy (n : Int) : PS 16 [.c (.int .i64 n)] (.c (.str (Qie n))) := by
 refine PSpec.rm ?_
 refine ov hΓ Tryz.func16 30 0 [.tmp 2] Tryz.ntmps16 Tryz.results16 ?_
 ((conv=>whnf);(repeat' ((first|refine Nd ?_|refine Hv fun _h=>?_);conv=>whnf)))
 refine Lp.mkK hΓ (ι := Nat) [0] (fun k => [(4, .c (.int .i64 k)), (3, .c (.sl 0 1 16 16 true))]) (fun k => [.arr 5 1 16 (genG (fun i => if i < k then Qsb n i else 0))]) (fun k => k ≤ 16) (fun k => 16 - k) 0 (Nat.zero_le _) ?_ ?_
 ·refine Mv.k1 ?_
  intro i hi j hj
  have hj' : j < 1 := hj
  have : j = 0 := by omega
  subst this
  exact WC.eq (by simp [QcB, Qz, lget, getL, genG, Z.toC]) rfl
 ·intro k hk
  ((conv=>whnf);(repeat' ((first|refine Nd ?_|refine Hv fun _h=>?_);conv=>whnf)))
  refine Br.of (fun h1=>?_) (fun h1=>?_)<;>(try simp only [Int.toNat_natCast] at h1)<;>(conv=>whnf)
  ·((conv=>whnf);(repeat' ((first|refine Nd ?_|refine Hv fun _h=>?_);conv=>whnf)))
   refine CallN.pureA Qdi (Qdh _ _ ) ?_
   ((conv=>whnf);(repeat' ((first|refine Nd ?_|refine Hv fun _h=>?_);conv=>whnf)))
   refine ⟨k + 1, by omega, by omega, ?_⟩
   refine Mv.k1 ?_
   intro i hi j hj
   refine WC.eq ((QlX i j hj).trans ?_) rfl
   simp only [genG, Int.toNat_natCast]
   congr 1
   by_cases c : i = k
   ·subst c
    rw [if_pos rfl, if_pos (by omega)]; rfl
   ·rw [if_neg c]
    by_cases c2 : i < k
    ·rw [if_pos c2, if_pos (by omega)]
    ·rw [if_neg c2, if_neg (by omega)]
  ·((conv=>whnf);(repeat' ((first|refine Nd ?_|refine Hv fun _h=>?_);conv=>whnf)))
   have : k = 16 := by omega
   subst this
   refine CallN.pureA Qdi (Qdh _ _ ) ?_
   ((conv=>whnf);(repeat' ((first|refine Nd ?_|refine Hv fun _h=>?_);conv=>whnf)))
   refine Need.mk (fun i hi => ⟨_, QlX i 0 (by decide)⟩) ?_
   ((conv=>whnf);(repeat' ((first|refine Nd ?_|refine Hv fun _h=>?_);conv=>whnf)))
   exact RM.i0
theorem Qi2 : HB 16 := hB Tryz.func16
theorem Qnv (d : DiceM) (hd : d.ok) (blocks version : Int) : CS 33 [.c (.ptr 0 0), .c (.int .i64 blocks), .c (.int .i64 version)] [.vr d.cells] fun s H => s = (recR d blocks version).s ∧ H = [.vr (recD d).cells] := by
 refine CSpec.rm ?_
 refine ov hΓ Tryz.func33 22 1 [.cell 6 50] Tryz.ntmps33 Tryz.results33 ?_
 ((conv=>whnf);(repeat' ((first|refine Nd ?_|refine Hv fun _h=>?_);conv=>whnf)))
 refine CallN.autoQ [0] QaA (QaE d hd blocks) ?_; conv=>whnf
 ((conv=>whnf);(repeat' ((first|refine Nd ?_|refine Hv fun _h=>?_);conv=>whnf)))
 refine CallN.autoQ [0] QaA (QaE d.step hd.step 200) ?_; conv=>whnf
 ((conv=>whnf);(repeat' ((first|refine Nd ?_|refine Hv fun _h=>?_);conv=>whnf)))
 refine CallN.pure Qi2 (Qiy _ ) (leA.refl rfl) rfl ?_
 ((conv=>whnf);(repeat' ((first|refine Nd ?_|refine Hv fun _h=>?_);conv=>whnf)))
 refine CallN.autoQ [0] QaA (QaE d.step.step hd.step.step 4) ?_; conv=>whnf
 ((conv=>whnf);(repeat' ((first|refine Nd ?_|refine Hv fun _h=>?_);conv=>whnf)))
 refine Br.of (fun h=>?_) (fun h=>?_)<;>(try simp only [Int.toNat_natCast] at h)<;>(conv=>whnf)
 ·((conv=>whnf);(repeat' ((first|refine Nd ?_|refine Hv fun _h=>?_);conv=>whnf)))
  refine ⟨_, _, RM.wkW (H' := [.vr (recD d).cells]) (s' := (recR d blocks version).s) ?_ ?_ (Nat.le_refl _), rfl, rfl⟩
  ·exact wb0
  ·rw [show recR d blocks version = ⟨2, d.next blocks, version, 0, ByteArray.empty⟩ from if_pos h]
   exact wb0
 ·((conv=>whnf);(repeat' ((first|refine Nd ?_|refine Hv fun _h=>?_);conv=>whnf)))
  refine ⟨_, _, RM.wkW (H' := [.vr (recD d).cells]) (s' := (recR d blocks version).s) ?_ ?_ (Nat.le_refl _), rfl, rfl⟩
  ·exact wb0
  ·rw [show recR d blocks version = ⟨1, d.next blocks, version, 0, Qie (d.step.next 200)⟩ from if_neg h]
   exact wb0
theorem Qok : HB 33 := hB Tryz.func33
def _root_.Go.Am.Rec.cells (r : Rec) : List C := [.int .i64 r.kind, .int .i64 r.block, .int .i64 r.version, .int .i64 r.move, .str r.payload]
theorem Qpr {b : ByteArray} {p n k : Nat} : QeZ b p n (k + 1) = orW (shW (QeZ b p n k)) (QbV b (p + (n - 1 - k))) := rfl
set_option maxHeartbeats 1000000 in
theorem Qj3 (b : ByteArray) (p n : Nat) (h1 : 1 ≤ n) (h7 : n ≤ 7) (hp : p ≤ 1000) (hb : b.size ≤ 10000000) : PS 108 [.c (.str b), .c (.int .i64 p), .c (.int .i64 n)] (.t [.inl (.int .i64 (getS b p n)), .inl (.int .i64 (getE b p n))]) := by
 refine PSpec.rm ?_
 refine ov hΓ Tryz.func108 48 0 [.tmp 6, .tmp 7] Tryz.ntmps108 Tryz.results108 ?_
 ((conv=>whnf);(repeat' ((first|refine Nd ?_|refine Hv fun _h=>?_);conv=>whnf)))
 refine Br.no (by simp; omega) ?_
 ((conv=>whnf);(repeat' ((first|refine Nd ?_|refine Hv fun _h=>?_);conv=>whnf)))
 have w0 := Qa ((b.size : Int) - p) (by omega) (by omega)
 by_cases h : b.size < p + n
 ·refine Br.yes (by rw [w0]; simp; omega) ?_
  ((conv=>whnf);(repeat' ((first|refine Nd ?_|refine Hv fun _h=>?_);conv=>whnf)))
  rw [show getS b p n = 0 from if_pos h, show getE b p n = 2 from if_pos h]
  exact RM.i0
 ·refine Br.no (by rw [w0]; simp; omega) ?_
  ((conv=>whnf);(repeat' ((first|refine Nd ?_|refine Hv fun _h=>?_);conv=>whnf)))
  have w1 := Qa ((n : Int) - 1) (by omega) (by omega)
  refine Lp.mkK hΓ (ι := Nat) [0, 1, 6, 7] (fun k => [(9, .c (.int .i64 ((n : Int) - 1 - k))), (8, .c (.int .i64 (QeZ b p n k)))]) (fun k => []) (fun k => k ≤ n) (fun k => n - k) 0 (Nat.zero_le _) ?_ ?_
  ·exact Mv.k0
  ·intro k hk
   ((conv=>whnf);(repeat' ((first|refine Nd ?_|refine Hv fun _h=>?_);conv=>whnf)))
   refine Br.of (fun h2=>?_) (fun h2=>?_)<;>(try simp only [Int.toNat_natCast] at h2)<;>(conv=>whnf)
   ·have e1 : IntKind.i64.wrap ((p : Int) + ((n : Int) - 1 - k)) = ((p + (n - 1 - k) : Nat) : Int) := by rw [Qa _ (by omega) (by omega)]; omega
    have w2 := Qa ((n : Int) - 1 - k - 1) (by omega) (by omega)
    ((conv=>whnf);(repeat' ((first|refine Nd ?_|refine Hv fun _h=>?_);conv=>whnf)))
    rw [e1]
    ((conv=>whnf);(repeat' ((first|refine Nd ?_|refine Hv fun _h=>?_);conv=>whnf)))
    refine ⟨k + 1, by omega, by omega, ?_⟩
    exact Mv.k0
   ·((conv=>whnf);(repeat' ((first|refine Nd ?_|refine Hv fun _h=>?_);conv=>whnf)))
    have : k = n := by omega
    subst this
    rw [show getS b p k = QeZ b p k k from if_neg h, show getE b p k = 0 from if_neg h]
    exact RM.i0
theorem Qjw : HB 108 := hB Tryz.func108
theorem Qdd (b : ByteArray) (p n : Nat) (h1 : 1 ≤ n) (h7 : n ≤ 7) (hp : p ≤ 1000) (hb : b.size ≤ 10000000) : PS 70 [.c (.str b), .c (.int .i64 p), .c (.int .i64 n)] (.c (.int .i64 (getS b p n))) := by
 refine PSpec.rm ?_
 refine ov hΓ Tryz.func70 17 0 [.tmp 6] Tryz.ntmps70 Tryz.results70 ?_
 ((conv=>whnf);(repeat' ((first|refine Nd ?_|refine Hv fun _h=>?_);conv=>whnf)))
 refine CallN.pureA Qjw (Qj3 b p n h1 h7 hp hb ) ?_
 ((conv=>whnf);(repeat' ((first|refine Nd ?_|refine Hv fun _h=>?_);conv=>whnf)))
 exact RM.i0
theorem Qc7 : HB 70 := hB Tryz.func70
theorem QnH (b : ByteArray) (k : Nat) : 0 ≤ QbV b k ∧ QbV b k < 256 := by
 have h : (b.data.toList.getD k 0).toNat < 256 := UInt8.toNat_lt _
 unfold QbV
 rw [Qa _ (by omega) (by omega)]
 omega
theorem QsV {y : Int} (h : 0 ≤ y ∧ y < 256) : orW (shW 0) y = y := by
 obtain ⟨n, rfl⟩ := Int.eq_ofNat_of_zero_le h.1
 have e0 : shW 0 = 0 := by decide
 rw [e0]
 unfold orW
 have e1 : (BitVec.ofInt IntKind.i64.bits 0 ||| BitVec.ofInt IntKind.i64.bits (n : Int)).toNat = n := by
  show (BitVec.ofInt 64 0 ||| BitVec.ofInt 64 (n : Int)).toNat = n
  rw [show BitVec.ofInt 64 0 = 0#64 from rfl, BitVec.zero_or]
  rw [BitVec.toNat_ofInt]
  omega
 rw [e1]
 exact Qa _ (by omega) (by omega)
theorem Qu8 (s : ByteArray) (p : Nat) : 0 ≤ getS s p 1 ∧ getS s p 1 < 256 := by
 unfold getS
 split
 ·omega
 ·show 0 ≤ orW (shW 0) (QbV s (p + (1 - 1 - 0))) ∧ _
  have := QnH s (p + (1 - 1 - 0))
  rw [Qpr]
  show 0 ≤ orW (shW 0) (QbV s (p + (1 - 1 - 0))) ∧ orW (shW 0) (QbV s (p + (1 - 1 - 0))) < 256
  rw [QsV this]
  exact this
set_option maxHeartbeats 4000000 in
theorem Qd6 (s : ByteArray) : PS 36 [.c (.str s)] (.t [.inr (decR s).cells, .inl (.int .i64 (decE s))]) := by
 refine PSpec.rm ?_
 refine ov hΓ Tryz.func36 48 0 [.cell 2 50, .tmp 3] Tryz.ntmps36 Tryz.results36 ?_
 ((conv=>whnf);(repeat' ((first|refine Nd ?_|refine Hv fun _h=>?_);conv=>whnf)))
 by_cases h0 : s.size = 40
 ·refine Br.no (by simp [h0]) ?_
  ((conv=>whnf);(repeat' ((first|refine Nd ?_|refine Hv fun _h=>?_);conv=>whnf)))
  have hb : s.size ≤ 10000000 := by omega
  refine Dr.mk hΓ hMix (by kernel_rfl) ?_; conv=>whnf
  ((conv=>whnf);(repeat' ((first|refine Nd ?_|refine Hv fun _h=>?_);conv=>whnf)))
  refine CallP.auto Qc7 (Qdd s 36 4 (by decide) (by decide) (by decide) hb ) ?_
  ((conv=>whnf);(repeat' ((first|refine Nd ?_|refine Hv fun _h=>?_);conv=>whnf)))
  refine CallP.auto QhN (QhJ (s.extract 0 36) (by rw [ByteArray.size_extract]; omega) ) ?_
  ((conv=>whnf);(repeat' ((first|refine Nd ?_|refine Hv fun _h=>?_);conv=>whnf)))
  have hz : s.size = 40 → (s.extract 0 36).size = 36 := fun h => by rw [ByteArray.size_extract]; omega
  by_cases h1 : getS s 36 4 = sumW (s.extract 0 36)
  ·refine Br.no (by rw [h1]; exact bne_self_eq_false _) ?_
   ((conv=>whnf);(repeat' ((first|refine Nd ?_|refine Hv fun _h=>?_);conv=>whnf)))
   refine CallN.pureA Qc7 (Qdd s 2 1 (by decide) (by decide) (by decide) hb ) ?_
   ((conv=>whnf);(repeat' ((first|refine Nd ?_|refine Hv fun _h=>?_);conv=>whnf)))
   refine CallN.pureA Qc7 (Qdd s 4 4 (by decide) (by decide) (by decide) hb ) ?_
   ((conv=>whnf);(repeat' ((first|refine Nd ?_|refine Hv fun _h=>?_);conv=>whnf)))
   refine CallN.pureA Qc7 (Qdd s 8 6 (by decide) (by decide) (by decide) hb ) ?_
   ((conv=>whnf);(repeat' ((first|refine Nd ?_|refine Hv fun _h=>?_);conv=>whnf)))
   refine CallN.pureA Qc7 (Qdd s 14 1 (by decide) (by decide) (by decide) hb ) ?_
   ((conv=>whnf);(repeat' ((first|refine Nd ?_|refine Hv fun _h=>?_);conv=>whnf)))
   refine CallN.pureA Qc7 (Qdd s 3 1 (by decide) (by decide) (by decide) hb ) ?_
   ((conv=>whnf);(repeat' ((first|refine Nd ?_|refine Hv fun _h=>?_);conv=>whnf)))
   have g3 := Qu8 s 3
   have w3 : IntKind.i64.wrap (16 + min (getS s 3 1) 20) = 16 + min (getS s 3 1) 20 := Qa _ (by omega) (by omega)
   rw [w3]
   ((conv=>whnf);(repeat' ((first|refine Nd ?_|refine Hv fun _h=>?_);conv=>whnf)))
   refine CallN.pureA Qfb (Qfc (rawR s) ) ?_
   ((conv=>whnf);(repeat' ((first|refine Nd ?_|refine Hv fun _h=>?_);conv=>whnf)))
   by_cases h2 : QB (rawR s) = 0 ∧ encR (rawR s) = s
   ·refine Br.no (by rw [h2.1, h2.2]; simp) ?_
    ((conv=>whnf);(repeat' ((first|refine Nd ?_|refine Hv fun _h=>?_);conv=>whnf)))
    have e : decE s = 0 := by unfold decE; rw [if_pos h0, if_pos h1, if_pos h2]
    rw [show decR s = rawR s from if_pos e, e]
    exact RM.i0
   ·refine Br.yes (by
     refine Decidable.byContradiction fun z => h2 ?_
     simp at z
     exact z) ?_
    ((conv=>whnf);(repeat' ((first|refine Nd ?_|refine Hv fun _h=>?_);conv=>whnf)))
    have e : decE s = 3 := by unfold decE; rw [if_pos h0, if_pos h1, if_neg h2]
    rw [show decR s = default from if_neg (by rw [e]; decide), e]
    exact RM.i0
  ·refine Br.yes (bne_iff_ne.2 h1) ?_
   ((conv=>whnf);(repeat' ((first|refine Nd ?_|refine Hv fun _h=>?_);conv=>whnf)))
   have e : decE s = 4 := by unfold decE; rw [if_pos h0, if_neg h1]
   rw [show decR s = default from if_neg (by rw [e]; decide), e]
   exact RM.i0
 ·refine Br.yes (by simp; omega) ?_
  ((conv=>whnf);(repeat' ((first|refine Nd ?_|refine Hv fun _h=>?_);conv=>whnf)))
  have e : decE s = 2 := if_neg h0
  rw [show decR s = default from if_neg (by rw [e]; decide), e]
  exact RM.i0
theorem Qey : HB 36 := hB Tryz.func36
theorem QpG (r : Rec) : PS 37 [.a r.cells] (.t [.inr (QfC r).1.cells, .inl (.bool (QfC r).2)]) := by
 refine PSpec.rm ?_
 refine ov hΓ Tryz.func37 24 0 [.cell 2 50, .tmp 3] Tryz.ntmps37 Tryz.results37 ?_
 ((conv=>whnf);(repeat' ((first|refine Nd ?_|refine Hv fun _h=>?_);conv=>whnf)))
 refine CallN.pureA Qhx (Qhl r ) ?_
 ((conv=>whnf);(repeat' ((first|refine Nd ?_|refine Hv fun _h=>?_);conv=>whnf)))
 by_cases h : QB r = 0 ∧ Qdq r = true
 ·have hk : r.kind = 1 ∨ r.kind = 2 := of_decide_eq_true h.2
  have hm := (QaC h.1).2.1
  have w := Qa (r.move + 1) (by omega) (by omega)
  refine Br.no (by rw [h.1]; simp; omega) ?_
  ((conv=>whnf);(repeat' ((first|refine Nd ?_|refine Hv fun _h=>?_);conv=>whnf)))
  rw [show QfC r = ({ r with move := min (r.move + 1) 255 }, true) from if_pos h]
  exact RM.i0
 ·have hk : QB r = 0 → ¬ (r.kind = 1 ∨ r.kind = 2) := fun a b => h ⟨a, decide_eq_true b⟩
  refine Br.yes (by
   refine Decidable.byContradiction fun z => ?_
   simp at z
   have := hk z.1
   omega) ?_
  ((conv=>whnf);(repeat' ((first|refine Nd ?_|refine Hv fun _h=>?_);conv=>whnf)))
  rw [show QfC r = (default, false) from if_neg h]
  exact RM.i0
theorem QpC : HB 37 := hB Tryz.func37
theorem QrW {s : ByteArray} (h : decE s = 0) : s.size = 40 := by
 unfold decE at h
 by_cases q : s.size = 40
 ·exact q
 ·rw [if_neg q] at h; cases h
theorem QkO (l : List ByteArray) : ∀ k, (∀ i, i < k → decE (l.getD i ByteArray.empty) = 0) → 0 ≤ Qd2 l k ∧ Qd2 l k ≤ 1099511627776 ∧ 0 ≤ Qd0 l k ∧ Qd0 l k ≤ 1099511627776
 | 0, _ => by simp [Qd2, Qd0]
 | k + 1, h => by
  have h1 := QkO l k fun i hi => h i (by omega)
  have h2 := h k (by omega)
  have h3 : QB (decR (l.getD k ByteArray.empty)) = 0 := by
   rw [show decR (l.getD k ByteArray.empty) = rawR (l.getD k ByteArray.empty) from if_pos h2]
   unfold decE at h2
   split at h2
   ·split at h2
    ·split at h2
     ·rename_i q; exact q.1
     ·cases h2
    ·cases h2
   ·cases h2
  have h4 := (QaC h3).2.1
  simp only [Qd2, Qd0]
  omega
theorem QmP (l : List ByteArray) : ∀ k, (∀ i, i < k → decE (l.getD i ByteArray.empty) = 0) → (Qha l k).size = 36 * k
 | 0, _ => rfl
 | k + 1, h => by
  have h1 := QmP l k fun i hi => h i (by omega)
  have h2 := QrW (h k (by omega))
  simp only [Qha]
  rw [ByteArray.size_append, h1, ByteArray.size_extract]
  omega
theorem Ql7 {l : List ByteArray} : ∀ {k}, QbZ l k = 0 → ∀ i, i < k → blkE (l.getD i ByteArray.empty) = 0
 | 0, _ => fun i hi => absurd hi (Nat.not_lt_zero _)
 | k + 1, h => by
  simp only [QbZ] at h
  split at h
  ·rename_i h1
   exact QbU (Ql7 h1) h
  ·rename_i h1; exact absurd h h1
theorem Qmk {l : List ByteArray} {k : Nat} (h : QbZ l k ≠ 0) : ∀ d, QbZ l (k + d) = QbZ l k
 | 0 => rfl
 | d + 1 => by
  have h1 := Qmk h d
  show QbZ l ((k + d) + 1) = _
  simp only [QbZ]
  rw [h1, if_neg h]
def bitN (x : Nat) : Nat := if x % 2 = 1 then (x / 2) ^^^ 3988292384 else x / 2
def Qcp : Nat → Nat → Nat
 | 0, x => x
 | n + 1, x => bitN (Qcp n x)
theorem QfY {a b : Nat} (ha : a < 4294967296) (hb : b < 4294967296) : a ^^^ b < 4294967296 := Nat.xor_lt_two_pow (n := 32) ha hb
theorem Que {x : Nat} (h : x < 4294967296) : bitN x < 4294967296 := by
 unfold bitN
 split
 ·exact QfY (by omega) (by decide)
 ·omega
theorem Qtf (a b : Nat) : bitN (a ^^^ b) = bitN a ^^^ bitN b := by
 have h2 : (a ^^^ b) / 2 = a / 2 ^^^ b / 2 := Nat.xor_div_two
 have h3 : (a ^^^ b) % 2 = (a + b) % 2 := by
  have h4 := Nat.testBit_xor a b 0
  simp only [Nat.testBit_zero] at h4
  have h5 := Nat.mod_two_eq_zero_or_one (a ^^^ b)
  rcases Nat.mod_two_eq_zero_or_one a with e | e <;> rcases Nat.mod_two_eq_zero_or_one b with f | f <;> rcases h5 with g | g <;> simp [e, f, g] at h4 <;> omega
 unfold bitN
 rw [h2, h3]
 have hc : ∀ x y p : Nat, (x ^^^ p) ^^^ (y ^^^ p) = x ^^^ y := fun x y p => by
  rw [Nat.xor_comm y p, Nat.xor_assoc, ← Nat.xor_assoc p p y, Nat.xor_self, Nat.zero_xor]
 rcases Nat.mod_two_eq_zero_or_one a with e | e <;> rcases Nat.mod_two_eq_zero_or_one b with f | f
 ·rw [if_neg (by omega), if_neg (by omega), if_neg (by omega)]
 ·rw [if_pos (by omega), if_neg (by omega), if_pos (by omega), Nat.xor_assoc]
 ·rw [if_pos (by omega), if_pos (by omega), if_neg (by omega), Nat.xor_assoc, Nat.xor_assoc, Nat.xor_comm 3988292384]
 ·rw [if_neg (by omega), if_pos (by omega), if_pos (by omega), hc]
theorem Qsd (n a b : Nat) : Qcp n (a ^^^ b) = Qcp n a ^^^ Qcp n b := by
 induction n with
 | zero => rfl
 | succ n ih => simp only [Qcp]; rw [ih, Qtf]
theorem QhH {n x : Nat} (h : x < 4294967296) : Qcp n x < 4294967296 := by
 induction n with
 | zero => exact h
 | succ n ih => exact Que ih
theorem Qns (n z : Nat) : Qcp n (z * 2 ^ n) = z := by
 have key : ∀ n m z, Qcp n (z * 2 ^ (n + m)) = z * 2 ^ m := by
  intro n
  induction n with
  | zero => intro m z; rw [Nat.zero_add]; rfl
  | succ n ih =>
   intro m z
   simp only [Qcp]
   rw [show n + 1 + m = n + (m + 1) by omega, ih (m + 1) z]
   unfold bitN
   rw [Nat.pow_succ, ← Nat.mul_assoc, if_neg (by omega), Nat.mul_div_cancel _ (by omega)]
 have := key n 0 z
 simpa using this
theorem QtC {x b : Nat} (hb : b < 256) : Qcp 8 (x ^^^ b) = (x / 256) ^^^ Qcp 8 ((x % 256) ^^^ b) := by
 have e : x ^^^ b = (x / 256 * 2 ^ 8) ^^^ ((x % 256) ^^^ b) := by
  rw [← Nat.xor_assoc]
  congr 1
  apply Nat.eq_of_testBit_eq
  intro i
  rw [Nat.testBit_xor, Nat.testBit_mul_two_pow, show (256 : Nat) = 2 ^ 8 by decide, Nat.testBit_mod_two_pow, Nat.testBit_div_two_pow]
  by_cases c : i < 8
  ·simp [c, Nat.not_le.2 c]
  ·have : 8 ≤ i := by omega
   simp [c, this]
 rw [e, Qsd, Qns]
theorem Qes {a b : Nat} (ha : a < 4294967296) (hb : b < 4294967296) : xorU a b = ((a ^^^ b : Nat) : Int) := by
 have := QfY ha hb
 unfold xorU
 rw [IntKind.wrap_u32]
 have e : (BitVec.ofInt IntKind.u32.bits (a : Int) ^^^ BitVec.ofInt IntKind.u32.bits (b : Int)).toNat = a ^^^ b := by
  show (BitVec.ofInt 32 (a : Int) ^^^ BitVec.ofInt 32 (b : Int)).toNat = _
  rw [BitVec.toNat_xor, BitVec.toNat_ofInt, BitVec.toNat_ofInt]
  congr 1 <;> omega
 rw [e]
 omega
theorem Qpn {a : Nat} (ha : a < 4294967296) : QaJ a = (bitN a : Nat) := by
 have h1 : andU a 1 = ((a % 2 : Nat) : Int) := by
  unfold andU
  rw [IntKind.wrap_u32]
  have e : (BitVec.ofInt IntKind.u32.bits (a : Int) &&& BitVec.ofInt IntKind.u32.bits (1 : Int)).toNat = a % 2 := by
   show (BitVec.ofInt 32 (a : Int) &&& BitVec.ofInt 32 (1 : Int)).toNat = _
   rw [BitVec.toNat_and, BitVec.toNat_ofInt, BitVec.toNat_ofInt]
   have q : ((a : Int) % ((2 ^ 32 : Nat) : Int)).toNat = a := by omega
   rw [q]
   show a &&& 1 = _
   exact Nat.and_one_is_mod a
  rw [e]
  omega
 have h2 : QgZ a = ((a / 2 : Nat) : Int) := by
  unfold QgZ
  show (a : Int).fdiv 2 = _
  rw [Int.fdiv_eq_ediv_of_nonneg _ (by omega)]
  omega
 unfold QaJ bitN
 rw [h1, h2]
 by_cases c : a % 2 = 1
 ·rw [if_pos (by omega), if_pos c]
  exact Qes (by omega) (by decide)
 ·rw [if_neg (by omega), if_neg c]
theorem Qgg {a : Nat} (ha : a < 4294967296) (n : Nat) : QaV QaJ n a = (Qcp n a : Nat) := by
 induction n with
 | zero => rfl
 | succ n ih => simp only [QaV, Qcp]; rw [ih]; exact Qpn (QhH ha)
def tabI (i : Int) : Int := QaV QaJ 8 i
theorem Qtp {x : Int} (h0 : 0 ≤ x) (h1 : x < 4294967296) {b : Nat} (hb : b < 256) : xorU (x.fdiv 256) (tabI ((x.toNat % 256 ^^^ b : Nat) : Int)) = QaV QaJ 8 (xorU x b) := by
 obtain ⟨a, rfl⟩ : ∃ a : Nat, x = a := ⟨x.toNat, by omega⟩
 have ha : a < 4294967296 := by omega
 have hm : a % 256 ^^^ b < 256 := Nat.xor_lt_two_pow (n := 8) (by omega) hb
 rw [Qes ha (by omega), Qgg (QfY ha (by omega)), QtC hb]
 unfold tabI
 rw [show ((a : Int)).toNat = a from rfl, Qgg (by omega), Int.fdiv_eq_ediv_of_nonneg _ (by omega), show (a : Int) / 256 = ((a / 256 : Nat) : Int) by omega, Qes (by omega) (QhH (by omega))]
set_option maxHeartbeats 1000000 in
theorem Qcg (b : ByteArray) (p n : Nat) (h1 : 1 ≤ n) (h7 : n ≤ 7) (hp : p ≤ 1000) (hb : b.size ≤ 10000000) : PS 150 [.c (.str b), .c (.int .i64 p), .c (.int .i64 n)] (.t [.inl (.int .i64 (getS b p n)), .inl (.int .i64 (getE b p n))]) := by
 refine PSpec.rm ?_
 refine ov hΓ Tryz.func150 50 0 [.tmp 6, .tmp 7] Tryz.ntmps150 Tryz.results150 ?_
 ((conv=>whnf);(repeat' ((first|refine Nd ?_|refine Hv fun _h=>?_);conv=>whnf)))
 refine Br.no (by simp; omega) ?_
 ((conv=>whnf);(repeat' ((first|refine Nd ?_|refine Hv fun _h=>?_);conv=>whnf)))
 have w0 := Qa ((b.size : Int) - p) (by omega) (by omega)
 by_cases h : b.size < p + n
 ·refine Br.yes (by rw [w0]; simp; omega) ?_
  ((conv=>whnf);(repeat' ((first|refine Nd ?_|refine Hv fun _h=>?_);conv=>whnf)))
  rw [show getS b p n = 0 from if_pos h, show getE b p n = 2 from if_pos h]
  exact RM.i0
 ·refine Br.no (by rw [w0]; simp; omega) ?_
  ((conv=>whnf);(repeat' ((first|refine Nd ?_|refine Hv fun _h=>?_);conv=>whnf)))
  have w1 := Qa ((n : Int) - 1) (by omega) (by omega)
  refine Lp.mkK hΓ (ι := Nat) [0, 1, 6, 7] (fun k => [(9, .c (.int .i64 ((n : Int) - 1 - k))), (8, .c (.int .i64 (QeZ b p n k)))]) (fun k => []) (fun k => k ≤ n) (fun k => n - k) 0 (Nat.zero_le _) ?_ ?_
  ·exact Mv.k0
  ·intro k hk
   ((conv=>whnf);(repeat' ((first|refine Nd ?_|refine Hv fun _h=>?_);conv=>whnf)))
   refine Br.of (fun h2=>?_) (fun h2=>?_)<;>(try simp only [Int.toNat_natCast] at h2)<;>(conv=>whnf)
   ·have e1 : IntKind.i64.wrap ((p : Int) + ((n : Int) - 1 - k)) = ((p + (n - 1 - k) : Nat) : Int) := by rw [Qa _ (by omega) (by omega)]; omega
    have w2 := Qa ((n : Int) - 1 - k - 1) (by omega) (by omega)
    ((conv=>whnf);(repeat' ((first|refine Nd ?_|refine Hv fun _h=>?_);conv=>whnf)))
    rw [e1]
    ((conv=>whnf);(repeat' ((first|refine Nd ?_|refine Hv fun _h=>?_);conv=>whnf)))
    refine ⟨k + 1, by omega, by omega, ?_⟩
    exact Mv.k0
   ·((conv=>whnf);(repeat' ((first|refine Nd ?_|refine Hv fun _h=>?_);conv=>whnf)))
    have : k = n := by omega
    subst this
    rw [show getS b p k = QeZ b p k k from if_neg h, show getE b p k = 0 from if_neg h]
    exact RM.i0
theorem Qce : HB 150 := hB Tryz.func150
def tabC (k : Nat) : List C := (List.range 256).map fun i => .int .u32 (if i < k then tabI i else 0)
theorem WL.same {ρ : Nat → Nat} {n : Nat} : ∀ (cs : List C), (∀ x ∈ cs, x.imm = true) → WL ρ n cs cs
 | [], _ => WL.nil
 | x :: r, h => WL.cons (WC.imm (h x (List.mem_cons_self ..))) (WL.same r fun y hy => h y (List.mem_cons_of_mem _ hy))
theorem Qmn (k : Nat) : ∀ x ∈ tabC k, x.imm = true := fun x hx => by
 unfold tabC at hx
 obtain ⟨i, -, rfl⟩ := List.mem_map.1 hx
 rfl
theorem WO.tab {ρ : Nat → Nat} {n k : Nat} : WO ρ n (.vr (tabC k)) (.vr (tabC k)) := WO.vr (WL.same _ (Qmn k))
theorem Qh1 {α : Type} : ∀ (l : List α) (k : Nat) (y : α), k < l.length → splice l k [y] = some (l.set k y)
 | [], _, _, h => absurd h (Nat.not_lt_zero _)
 | _ :: r, 0, y, _ => by
  cases r <;> rfl
 | x :: r, k + 1, y, h => by
  show (match splice r k [y] with | some l => some (x :: l) | none => none) = _
  rw [Qh1 r k y (by simpa using h)]
  rfl
theorem QtD {k : Nat} (hk : k < 256) : splice (tabC k) k [.int .u32 (tabI k)] = some (tabC (k + 1)) := by
 rw [Qh1 _ _ _ (by simpa [tabC] using hk)]
 congr 1
 refine List.ext_getElem (by simp [tabC]) fun i h1 h2 => ?_
 simp only [tabC, List.getElem_set, List.getElem_map, List.getElem_range]
 by_cases c : k = i
 ·subst c
  simp
 ·rw [if_neg c]
  by_cases d : i < k
  ·rw [if_pos d, if_pos (by omega)]
  ·rw [if_neg d, if_neg (by omega)]
theorem QuY {Γ : Env} {ts : Ts} {t : Nat} {a x : Operand} {i : TI} {id off : Nat} {cs cs' ys : List C} {H H' : List O} {s : S} (ht : Γ.at t = some i) (ha : bare (opnd ts a) = ([], .c (.ptr id off))) (hx : bare (opnd ts x) = ([], s)) (hs : s.cells = some ys)
  (hl : Nat.beq ys.length i.size = true) (hg : getL H id = some (.vr cs)) (hH : setL H id (.vr cs') = some H') (hsp : splice cs off ys = some cs') : eff Γ ts H (.store t a x) = some ([], .u, H') := by
 simp only [eff, ht, ha, hx, hs, hl, Qev, hg, hsp, hH, List.append_nil]
set_option maxHeartbeats 4000000 in
theorem QoV : PS 178 [] (.a (tabC 256)) := by
 refine PSpec.rm ?_
 refine ov hΓ Tryz.func178 26 0 [.cell 0 217] Tryz.ntmps178 Tryz.results178 ?_
 ((conv=>whnf);(repeat' ((first|refine Nd ?_|refine Hv fun _h=>?_);conv=>whnf)))
 refine Lp.mkK hΓ (ι := Nat) [0, 1] (fun k => [(5, .c (.int .i64 k))]) (fun k => [.vr (tabC 0), .vr (tabC k)]) (fun k => k ≤ 256) (fun k => 256 - k) 0 (Nat.zero_le _) ?_ ?_
 ·exact Mv.mkW (WH.cons (WO.tab (k := 0)) (WH.cons (WO.tab (k := 0)) WH.nil)) wb0 leN
 ·intro k hk
  ((conv=>whnf);(repeat' ((first|refine Nd ?_|refine Hv fun _h=>?_);conv=>whnf)))
  refine Br.of (fun h1=>?_) (fun h1=>?_)<;>(try simp only [Int.toNat_natCast] at h1)<;>(conv=>whnf)
  ·((conv=>whnf);(repeat' ((first|refine Nd ?_|refine Hv fun _h=>?_);conv=>whnf)))
   have w0 := Qa (↑k + 1) (by omega) (by omega)
   have w1 : IntKind.u32.wrap (k : Int) = k := by rw [IntKind.wrap_u32]; omega
   refine Lp.mkK hΓ (ι := Nat) [0, 1, 2, 5] (fun j => [(10, .c (.int .i64 j)), (3, .c (.int .u32 (QaV QaJ j k)))]) (fun _ => [.vr (tabC 0), .vr (tabC k)]) (fun j => j ≤ 8) (fun j => 8 - j) 0 (Nat.zero_le _) ?_ ?_
   ·exact Mv.mkW (WH.cons WO.tab (WH.cons WO.tab WH.nil)) (by rw [w1]; exact wb0) leN
   ·intro j hj
    ((conv=>whnf);(repeat' ((first|refine Nd ?_|refine Hv fun _h=>?_);conv=>whnf)))
    have w2 := Qa (↑j + 1) (by omega) (by omega)
    refine Br.of (fun h2=>?_) (fun h2=>?_)<;>(try simp only [Int.toNat_natCast] at h2)<;>(conv=>whnf)
    ·((conv=>whnf);(repeat' ((first|refine Nd ?_|refine Hv fun _h=>?_);conv=>whnf)))
     refine Br.of (fun h3=>?_) (fun h3=>?_)<;>(try simp only [Int.toNat_natCast] at h3)<;>(conv=>whnf)
     ·((conv=>whnf);(repeat' ((first|refine Nd ?_|refine Hv fun _h=>?_);conv=>whnf)))
      refine ⟨j + 1, by omega, by omega, Mv.mkW (WH.cons WO.tab (WH.cons WO.tab WH.nil)) ?_ leN⟩
      rw [w2, show QaV QaJ (j + 1) k = xorU (QgZ (QaV QaJ j k)) 3988292384 from if_pos h3]
      exact wb0
     ·((conv=>whnf);(repeat' ((first|refine Nd ?_|refine Hv fun _h=>?_);conv=>whnf)))
      refine ⟨j + 1, by omega, by omega, Mv.mkW (WH.cons WO.tab (WH.cons WO.tab WH.nil)) ?_ leN⟩
      rw [w2, show QaV QaJ (j + 1) k = QgZ (QaV QaJ j k) from if_neg h3]
      exact wb0
    ·((conv=>whnf);(repeat' ((first|refine Nd ?_|refine Hv fun _h=>?_);conv=>whnf)))
     have : j = 8 := by omega
     subst this
     generalize hE : eff _ _ _ _ = E
     obtain rfl : E = some ([], .u, [.vr (tabC 0), .vr (tabC (k + 1))]) := hE.symm.trans (QuY (cs := tabC k) rfl rfl rfl rfl rfl rfl rfl (by
      rw [show 0 + ((k : Nat) : Int).toNat * 1 = k by omega]
      exact QtD (by omega)))
     ((conv=>whnf);(repeat' ((first|refine Nd ?_|refine Hv fun _h=>?_);conv=>whnf)))
     rw [w0]
     refine ⟨k + 1, by omega, by omega, Mv.mkW (WH.cons WO.tab (WH.cons WO.tab WH.nil)) wb0 leN⟩
  ·((conv=>whnf);(repeat' ((first|refine Nd ?_|refine Hv fun _h=>?_);conv=>whnf)))
   have : k = 256 := by omega
   subst this
   show RM 0 (.a (tabC 256)) _ _ _
   exact RM.immW rfl (WS.a (WL.same _ (Qmn 256)))
theorem Qqf : HB 178 := hB Tryz.func178
theorem QhA (sum : Int) (b : ByteArray) : ∀ k, 0 ≤ QW sum b k ∧ QW sum b k < 4294967296
 | 0 => QhR _
 | k + 1 => by
  have h := QhR (BitVec.ofInt IntKind.u32.bits (QW sum b k) ^^^ BitVec.ofInt IntKind.u32.bits (Qau b k)).toNat
  show 0 ≤ QaV QaJ 8 (xorU (QW sum b k) (Qau b k)) ∧ QaV QaJ 8 (xorU (QW sum b k) (Qau b k)) < 4294967296
  have h : 0 ≤ xorU (QW sum b k) (Qau b k) ∧ xorU (QW sum b k) (Qau b k) < 4294967296 := h
  generalize xorU (QW sum b k) (Qau b k) = y at *
  obtain ⟨a, rfl⟩ : ∃ a : Nat, y = a := ⟨y.toNat, by omega⟩
  have := QhH (n := 8) (x := a) (by omega)
  rw [Qgg (by omega)]
  omega
theorem Qu2 {x : Int} (h0 : 0 ≤ x) {n : Nat} (hn : n < 256) : IntKind.u8.wrap (BitVec.ofInt IntKind.u8.bits (IntKind.u8.wrap x) ^^^ BitVec.ofInt IntKind.u8.bits (n : Int)).toNat = ((x.toNat % 256 ^^^ n : Nat) : Int) := by
 have hm : x.toNat % 256 ^^^ n < 256 := Nat.xor_lt_two_pow (n := 8) (by omega) hn
 have e : (BitVec.ofInt IntKind.u8.bits (IntKind.u8.wrap x) ^^^ BitVec.ofInt IntKind.u8.bits (n : Int)).toNat = x.toNat % 256 ^^^ n := by
  show (BitVec.ofInt 8 (IntKind.u8.wrap x) ^^^ BitVec.ofInt 8 (n : Int)).toNat = _
  rw [BitVec.toNat_xor, BitVec.toNat_ofInt, BitVec.toNat_ofInt, IntKind.wrap_u8]
  congr 1 <;> omega
 rw [e, IntKind.wrap_u8]
 omega
theorem QsE {m : Nat} (h : m < 256) : getL (tabC 256) m = some (.int .u32 (tabI m)) := by
 rw [Qd]
 simp [tabC, h]
theorem QoE {α : Type} : ∀ (l : List α) (m : Nat) (c : α), getL l m = some c → cut l m 1 = some [c]
 | [], _, _, h => by cases h
 | x :: r, 0, c, h => by
  cases h
  cases r <;> rfl
 | _ :: r, m + 1, c, h => QoE r m c h
theorem QuH {Γ : Env} {ts : Ts} {t : Nat} {a : Operand} {i : TI} {id off : Nat} {cs xs : List C} {H : List O} {s : S} (ht : Γ.at t = some i) (ha : bare (opnd ts a) = ([], .c (.ptr id off))) (hg : getL H id = some (.vr cs)) (hs : mkS i.agg xs = some s) (hc : cut cs off i.size = some xs) : val Γ ts H (.load t a) = some ([], s) := by
 simp only [val, ht, ha, Qb3, hg, hc, hs, List.append_nil]
set_option maxHeartbeats 4000000 in
theorem QjE (sum : Int) (b : ByteArray) (hb : b.size ≤ 10000000) : PS 167 [.c (.int .u32 sum), .c (.str b)] (.c (.int .u32 (addU sum b))) := by
 refine PSpec.rm ?_
 refine ov hΓ Tryz.func167 30 0 [.tmp 4] Tryz.ntmps167 Tryz.results167 ?_
 ((conv=>whnf);(repeat' ((first|refine Nd ?_|refine Hv fun _h=>?_);conv=>whnf)))
 refine CallN.pureA Qqf (QoV ) ?_
 ((conv=>whnf);(repeat' ((first|refine Nd ?_|refine Hv fun _h=>?_);conv=>whnf)))
 refine Lp.mkK hΓ (ι := Nat) [1, 4, 5] (fun k => [(7, .c (.int .i64 k)), (6, .c (.int .u32 (QW sum b k)))]) (fun _ => [.vr (tabC 256)]) (fun k => k ≤ b.size) (fun k => b.size - k) 0 (Nat.zero_le _) ?_ ?_
 ·exact Mv.mkW (WH.cons (WO.tab (k := 256)) WH.nil) wb0 leN
 ·intro k hk
  ((conv=>whnf);(repeat' ((first|refine Nd ?_|refine Hv fun _h=>?_);conv=>whnf)))
  refine Br.of (fun h1=>?_) (fun h1=>?_)<;>(try simp only [Int.toNat_natCast] at h1)<;>(conv=>whnf)
  ·have hr := QhA sum b k
   have hn : (b.data.toList.getD k 0).toNat < 256 := UInt8.toNat_lt _
   have ix := Qu2 hr.1 hn
   have hm : (QW sum b k).toNat % 256 ^^^ (b.data.toList.getD k 0).toNat < 256 := Nat.xor_lt_two_pow (n := 8) (by omega) hn
   have w0 := Qa (↑k + 1) (by omega) (by omega)
   ((conv=>whnf);(repeat' ((first|refine Nd ?_|refine Hv fun _h=>?_);conv=>whnf)))
   rw [Int.toNat_natCast, ix]
   ((conv=>whnf);(repeat' ((first|refine Nd ?_|refine Hv fun _h=>?_);conv=>whnf)))
   generalize hE : val _ _ _ _ = E
   obtain rfl : E = some ([], .c (.int .u32 (tabI (((QW sum b k).toNat % 256 ^^^ (b.data.toList.getD k 0).toNat : Nat) : Int)))) := hE.symm.trans (QuH (cs := tabC 256) (xs := [.int .u32 (tabI (((QW sum b k).toNat % 256 ^^^ (b.data.toList.getD k 0).toNat : Nat) : Int))]) rfl rfl rfl rfl (by
    rw [show 0 + (((QW sum b k).toNat % 256 ^^^ (b.data.toList.getD k 0).toNat : Nat) : Int).toNat * 1 = (QW sum b k).toNat % 256 ^^^ (b.data.toList.getD k 0).toNat by omega]
    exact QoE _ _ _ (QsE hm)))
   ((conv=>whnf);(repeat' ((first|refine Nd ?_|refine Hv fun _h=>?_);conv=>whnf)))
   have hby : Qau b k = ((b.data.toList.getD k 0).toNat : Int) := by
    unfold Qau
    rw [IntKind.wrap_u32]; omega
   have hst : QW sum b (k + 1) = xorU ((QW sum b k).fdiv 256) (tabI (((QW sum b k).toNat % 256 ^^^ (b.data.toList.getD k 0).toNat : Nat) : Int)) := by
    rw [Qtp hr.1 hr.2 hn]
    show QaV QaJ 8 (xorU (QW sum b k) (Qau b k)) = _
    rw [hby]
   rw [w0]
   refine ⟨k + 1, by omega, by omega, Mv.mkW (WH.cons WO.tab WH.nil) ?_ leN⟩
   rw [hst]
   exact wb0
  ·((conv=>whnf);(repeat' ((first|refine Nd ?_|refine Hv fun _h=>?_);conv=>whnf)))
   have : k = b.size := by omega
   subst this
   exact RM.i0
theorem Qjs : HB 167 := hB Tryz.func167
end Go.Proofs
end

section
namespace Go.Proofs
open Go.Shelf
def Tryz.layRepeat_ren : Go.Shelf.Ren := ⟨fun | 105 => 182 | 212 => 186 | 99 => 187 | 165 => 183 | 166 => 184 | 170 => 188 | 169 => 185 | 263 => 191 | 264 => 192 | 206 => 193 | 240 => 189 | 241 => 190 | 276 => 194 | 277 => 195 | n => n, fun | 9 => 9 | 3 => 3 | 4 => 4 | 20 => 20 | 0 => 0 | 46 => 115 | 109 => 230 | 5 => 5 | 72 => 223 | 76 => 227 | 51 => 131 | 146 => 233 | 53 => 189 | 148 => 235 | 70 => 221 | 37 => 114 | 75 => 226 | 127 => 219 | 164 => 149 | 80 => 229 | n => n, fun | n => n⟩
theorem Tryz.layRepeat : Go.Proofs.Lays.n105 Tryz.prog Tryz.layRepeat_ren := {
 mixed := by kernel_rfl,
 f99 := Tryz.func187.trans (congrArg some (by kernel_rfl)),
 f105 := Tryz.func182.trans (congrArg some (by kernel_rfl)),
 f165 := Tryz.func183.trans (congrArg some (by kernel_rfl)),
 f166 := Tryz.func184.trans (congrArg some (by kernel_rfl)),
 f169 := Tryz.func185.trans (congrArg some (by kernel_rfl)),
 f170 := Tryz.func188.trans (congrArg some (by kernel_rfl)),
 f206 := Tryz.func193.trans (congrArg some (by kernel_rfl)),
 f212 := Tryz.func186.trans (congrArg some (by kernel_rfl)),
 f240 := Tryz.func189.trans (congrArg some (by kernel_rfl)),
 f241 := Tryz.func190.trans (congrArg some (by kernel_rfl)),
 f263 := Tryz.func191.trans (congrArg some (by kernel_rfl)),
 f264 := Tryz.func192.trans (congrArg some (by kernel_rfl)),
 f276 := Tryz.func194.trans (congrArg some (by kernel_rfl)),
 f277 := Tryz.func195.trans (congrArg some (by kernel_rfl)),
 t0 := Tryz.underlying0,
 a0 := Tryz.isAgg0,
 z0 := Tryz.sizeOf0,
 v0 := Tryz.zeroValue0,
 t3 := Tryz.underlying3,
 a3 := Tryz.isAgg3,
 z3 := Tryz.sizeOf3,
 v3 := Tryz.zeroValue3,
 t4 := Tryz.underlying4,
 a4 := Tryz.isAgg4,
 z4 := Tryz.sizeOf4,
 v4 := Tryz.zeroValue4,
 t5 := Tryz.underlying5,
 a5 := Tryz.isAgg5,
 z5 := Tryz.sizeOf5,
 v5 := Tryz.zeroValue5,
 t9 := Tryz.underlying9,
 a9 := Tryz.isAgg9,
 z9 := Tryz.sizeOf9,
 v9 := Tryz.zeroValue9,
 t20 := Tryz.underlying20,
 a20 := Tryz.isAgg20,
 z20 := Tryz.sizeOf20,
 v20 := Tryz.zeroValue20,
 t37 := Tryz.underlying114,
 a37 := Tryz.isAgg114,
 z37 := Tryz.sizeOf114,
 v37 := Tryz.zeroValue114,
 t46 := Tryz.underlying115,
 a46 := Tryz.isAgg115,
 z46 := Tryz.sizeOf115,
 v46 := Tryz.zeroValue115,
 t51 := Tryz.underlying131,
 a51 := Tryz.isAgg131,
 z51 := Tryz.sizeOf131,
 v51 := Tryz.zeroValue131,
 t53 := Tryz.underlying189,
 a53 := Tryz.isAgg189,
 z53 := Tryz.sizeOf189,
 v53 := Tryz.zeroValue189,
 t70 := Tryz.underlying221,
 a70 := Tryz.isAgg221,
 z70 := Tryz.sizeOf221,
 v70 := Tryz.zeroValue221,
 t72 := Tryz.underlying223,
 a72 := Tryz.isAgg223,
 z72 := Tryz.sizeOf223,
 v72 := Tryz.zeroValue223,
 t75 := Tryz.underlying226,
 a75 := Tryz.isAgg226,
 z75 := Tryz.sizeOf226,
 v75 := Tryz.zeroValue226,
 t76 := Tryz.underlying227,
 a76 := Tryz.isAgg227,
 z76 := Tryz.sizeOf227,
 v76 := Tryz.zeroValue227,
 t109 := Tryz.underlying230,
 a109 := Tryz.isAgg230,
 z109 := Tryz.sizeOf230,
 v109 := Tryz.zeroValue230,
 t127 := Tryz.underlying219,
 a127 := Tryz.isAgg219,
 z127 := Tryz.sizeOf219,
 v127 := Tryz.zeroValue219,
 t146 := Tryz.underlying233,
 a146 := Tryz.isAgg233,
 z146 := Tryz.sizeOf233,
 v146 := Tryz.zeroValue233,
 t148 := Tryz.underlying235,
 a148 := Tryz.isAgg235,
 z148 := Tryz.sizeOf235,
 v148 := Tryz.zeroValue235,
 t164 := Tryz.underlying149,
 a164 := Tryz.isAgg149,
 z164 := Tryz.sizeOf149,
 v164 := Tryz.zeroValue149 }
def Tryz.layJoin_ren : Go.Shelf.Ren := ⟨fun | 156 => 179 | 165 => 183 | 166 => 184 | 169 => 185 | 240 => 189 | 241 => 190 | 276 => 194 | 277 => 195 | n => n, fun | 31 => 44 | 9 => 9 | 3 => 3 | 4 => 4 | 0 => 0 | 20 => 20 | 72 => 223 | 76 => 227 | 70 => 221 | 37 => 114 | 75 => 226 | 127 => 219 | 164 => 149 | 5 => 5 | 80 => 229 | n => n, fun | n => n⟩
theorem Tryz.layJoin : Go.Proofs.Lays.n156 Tryz.prog Tryz.layJoin_ren := {
 mixed := by kernel_rfl,
 f156 := Tryz.func179.trans (congrArg some (by kernel_rfl)),
 f165 := Tryz.func183.trans (congrArg some (by kernel_rfl)),
 f166 := Tryz.func184.trans (congrArg some (by kernel_rfl)),
 f169 := Tryz.func185.trans (congrArg some (by kernel_rfl)),
 f240 := Tryz.func189.trans (congrArg some (by kernel_rfl)),
 f241 := Tryz.func190.trans (congrArg some (by kernel_rfl)),
 f276 := Tryz.func194.trans (congrArg some (by kernel_rfl)),
 f277 := Tryz.func195.trans (congrArg some (by kernel_rfl)),
 t0 := Tryz.underlying0,
 a0 := Tryz.isAgg0,
 z0 := Tryz.sizeOf0,
 v0 := Tryz.zeroValue0,
 t3 := Tryz.underlying3,
 a3 := Tryz.isAgg3,
 z3 := Tryz.sizeOf3,
 v3 := Tryz.zeroValue3,
 t4 := Tryz.underlying4,
 a4 := Tryz.isAgg4,
 z4 := Tryz.sizeOf4,
 v4 := Tryz.zeroValue4,
 t9 := Tryz.underlying9,
 a9 := Tryz.isAgg9,
 z9 := Tryz.sizeOf9,
 v9 := Tryz.zeroValue9,
 t20 := Tryz.underlying20,
 a20 := Tryz.isAgg20,
 z20 := Tryz.sizeOf20,
 v20 := Tryz.zeroValue20,
 t31 := Tryz.underlying44,
 a31 := Tryz.isAgg44,
 z31 := Tryz.sizeOf44,
 v31 := Tryz.zeroValue44,
 t37 := Tryz.underlying114,
 a37 := Tryz.isAgg114,
 z37 := Tryz.sizeOf114,
 v37 := Tryz.zeroValue114,
 t70 := Tryz.underlying221,
 a70 := Tryz.isAgg221,
 z70 := Tryz.sizeOf221,
 v70 := Tryz.zeroValue221,
 t72 := Tryz.underlying223,
 a72 := Tryz.isAgg223,
 z72 := Tryz.sizeOf223,
 v72 := Tryz.zeroValue223,
 t75 := Tryz.underlying226,
 a75 := Tryz.isAgg226,
 z75 := Tryz.sizeOf226,
 v75 := Tryz.zeroValue226,
 t76 := Tryz.underlying227,
 a76 := Tryz.isAgg227,
 z76 := Tryz.sizeOf227,
 v76 := Tryz.zeroValue227,
 t127 := Tryz.underlying219,
 a127 := Tryz.isAgg219,
 z127 := Tryz.sizeOf219,
 v127 := Tryz.zeroValue219,
 t164 := Tryz.underlying149,
 a164 := Tryz.isAgg149,
 z164 := Tryz.sizeOf149,
 v164 := Tryz.zeroValue149 }
def Tryz.layClone_ren : Go.Shelf.Ren := ⟨fun | 316 => 168 | n => n, fun | 9 => 9 | 3 => 3 | 4 => 4 | 37 => 114 | 0 => 0 | 127 => 219 | 5 => 5 | n => n, fun | n => n⟩
theorem Tryz.layClone : Go.Proofs.LaysM.n316 Tryz.prog Tryz.layClone_ren := {
 mixed := by kernel_rfl,
 f316 := Tryz.func168.trans (congrArg some (by kernel_rfl)),
 t0 := Tryz.underlying0,
 a0 := Tryz.isAgg0,
 z0 := Tryz.sizeOf0,
 v0 := Tryz.zeroValue0,
 t3 := Tryz.underlying3,
 a3 := Tryz.isAgg3,
 z3 := Tryz.sizeOf3,
 v3 := Tryz.zeroValue3,
 t4 := Tryz.underlying4,
 a4 := Tryz.isAgg4,
 z4 := Tryz.sizeOf4,
 v4 := Tryz.zeroValue4,
 t9 := Tryz.underlying9,
 a9 := Tryz.isAgg9,
 z9 := Tryz.sizeOf9,
 v9 := Tryz.zeroValue9,
 t37 := Tryz.underlying114,
 a37 := Tryz.isAgg114,
 z37 := Tryz.sizeOf114,
 v37 := Tryz.zeroValue114,
 t127 := Tryz.underlying219,
 a127 := Tryz.isAgg219,
 z127 := Tryz.sizeOf219,
 v127 := Tryz.zeroValue219,
 t5 := Tryz.underlying5,
 a5 := Tryz.isAgg5,
 z5 := Tryz.sizeOf5,
 v5 := Tryz.zeroValue5,
 i0 := by kernel_rfl,
 i3 := by kernel_rfl,
 i4 := by kernel_rfl,
 i5 := by kernel_rfl,
 i9 := by kernel_rfl,
 i37 := by kernel_rfl,
 i127 := by kernel_rfl }
end Go.Proofs
end

section
open Go Go.Am
namespace Go.Proofs
set_option maxRecDepth 20000
open Go.Sort
theorem PSpec.ofCallsF {P : Program} {f : FuncId} {args : List S} {r : S}
  (h : ∀ F μ w vs, (∀ b o, F b = some o → w.heap[b]? = some o) → RepA F [] μ args vs → ∃ v, (∀ F' μ', RepS F' [] μ' r v) ∧ Calls P f vs w fun e w' => e = .returned v ∧ Go.RowKit.Below w.heap.size w w') : PSpec P f args r := by
 intro K F μ w vs hw hA
 obtain ⟨v, v1, v2⟩ := h F μ w vs hw.fr hA
 refine v2.mono ?_
 rintro e w' ⟨rfl, hb⟩
 have hh : ∀ (b : Nat) (o : Obj), w.heap[b]? = some o → w'.heap[b]? = some o := fun b o e => by
  rw [hb.block b (Array.getElem?_eq_some_iff.1 e).1]; exact e
 exact ⟨v, F, μ, r, [], rfl, Mem.le_refl F, hw.later hb.os hb.tape hb.output hh, Ext.refl [] μ, v1 F μ, rfl⟩
theorem Qu3 {vs : Array Value} {a : Value} (h : vs.size = 1) (h0 : vs[0]? = some a) : vs = #[a] := by
 apply Array.ext_getElem?
 intro j
 match j with
 | 0 => rw [h0]; rfl
 | j + 1 => rw [Array.getElem?_eq_none (by omega), Array.getElem?_eq_none (by simp)]
theorem QtR {vs : Array Value} {a b : Value} (h : vs.size = 2) (h0 : vs[0]? = some a) (h1 : vs[1]? = some b) : vs = #[a, b] := by
 apply Array.ext_getElem?
 intro j
 match j with
 | 0 => rw [h0]; rfl
 | 1 => rw [h1]; rfl
 | j + 2 => rw [Array.getElem?_eq_none (by omega), Array.getElem?_eq_none (by simp)]
theorem QuV : Go.Proofs.Builder.Extra Tryz.prog Tryz.layRepeat_ren where
 sizeBuilder := by kernel_rfl
 liesBuilder := by kernel_rfl
 t5 := Tryz.layRepeat.t5
 a5 := Tryz.layRepeat.a5
 z5 := Tryz.layRepeat.z5
 v5 := Tryz.layRepeat.v5
 infoByte := by kernel_rfl
 cellsByte := by kernel_rfl
 sizeByte := by kernel_rfl
 neB5 := by decide
theorem QlA : Go.Proofs.Builder.Extra Tryz.prog Tryz.layJoin_ren where
 sizeBuilder := by kernel_rfl
 liesBuilder := by kernel_rfl
 t5 := Tryz.layRepeat.t5
 a5 := Tryz.layRepeat.a5
 z5 := Tryz.layRepeat.z5
 v5 := Tryz.layRepeat.v5
 infoByte := by kernel_rfl
 cellsByte := by kernel_rfl
 sizeByte := by kernel_rfl
 neB5 := by decide
theorem QsI (n : Nat) (hn : n ≤ 1000) : PS 182 [.c (.str ⟨#[0]⟩), .c (.int .i64 n)] (.c (.str (QJ n fun _ _ => .int .u8 0))) := by
 refine PSpec.ofCalls fun F μ w vs hA => ?_
 obtain ⟨v0, a1, a2, -⟩ := hA.2 0 _ rfl
 obtain ⟨v1, b1, b2⟩ := hA.2 1 _ rfl
 rw [a2] at a1
 rw [show v1 = _ from b2] at b1
 obtain rfl := QtR hA.1 a1 b1
 have e : ∀ n, (Lib.repeatL [0] n) = (List.range n).map fun _ => (0 : UInt8) := by
  intro n
  induction n with
  | zero => rfl
  | succ n ih => rw [List.range_succ_eq_map, List.map_cons, List.map_map]; simp only [Lib.repeatL, ih]; rfl
 refine ⟨.string (QJ n fun _ _ => .int .u8 0), fun F' μ' => ⟨rfl, by rw [QaZ]; unfold maxLen; omega⟩, ?_⟩
 refine (Any.strings_Repeat Tryz.layRepeat QuV ⟨#[0]⟩ n w (by omega) (by show 1 * n ≤ _; omega)).mono ?_
 rintro e' w' ⟨rfl, hb⟩
 refine ⟨?_, hb⟩
 rw [show (⟨#[0]⟩ : ByteArray).data.toList = [0] from rfl, e]
 rfl
theorem Qty : HB 182 := hB Tryz.func182
theorem QmI (s : ByteArray) (hs : s.size ≤ 1000000) : PS 168 [.c (.str s)] (.c (.str s)) := by
 refine PSpec.ofCalls fun F μ w vs hA => ?_
 obtain ⟨v0, a1, a2, a3⟩ := hA.2 0 _ rfl
 rw [a2] at a1
 obtain rfl := Qu3 hA.1 a1
 exact ⟨.string s, fun F' μ' => ⟨rfl, a3⟩, Any.stringslite_Clone Tryz.layClone s w (by omega)⟩
theorem Qlr : HB 168 := hB Tryz.func168
theorem QnQ (s : ByteArray) (hs : s.size ≤ 1000000) : PS 152 [.c (.str s)] (.c (.str s)) := by
 refine PSpec.rm ?_
 refine ov hΓ Tryz.func152 5 0 [.tmp 2] Tryz.ntmps152 Tryz.results152 ?_
 ((conv=>whnf);(repeat' ((first|refine Nd ?_|refine Hv fun _h=>?_);conv=>whnf)))
 refine CallN.pureA Qlr (QmI s hs ) ?_
 ((conv=>whnf);(repeat' ((first|refine Nd ?_|refine Hv fun _h=>?_);conv=>whnf)))
 exact RM.i0
theorem Qny : HB 152 := hB Tryz.func152
def catB (l : List ByteArray) : ByteArray := l.foldl (· ++ ·) ByteArray.empty
theorem QjB (l : List (List UInt8)) : Lib.join l [] = l.flatten := by
 cases l with
 | nil => rfl
 | cons x r =>
  rw [Lib.join_cons]
  show x ++ (r.map fun y => [] ++ y).flatten = _
  simp
theorem Qlo : ∀ (l : List ByteArray), (∀ x ∈ l, x.size ≤ 1000) → (l.map (·.data.toList)).flatten.length ≤ l.length * 1000
 | [], _ => Nat.zero_le _
 | x :: r, h => by
  have h1 := h x (List.mem_cons_self ..)
  have h2 := Qlo r fun y hy => h y (List.mem_cons_of_mem _ hy)
  have e : x.data.toList.length = x.size := rfl
  simp only [List.map_cons, List.flatten_cons, List.length_append, List.length_cons]
  omega
theorem Qj6 (l : List ByteArray) : (⟨(Lib.join (l.map (·.data.toList)) []).toArray⟩ : ByteArray) = catB l := by
 have hf : ∀ (l : List ByteArray) (a : ByteArray), (l.foldl (· ++ ·) a).data.toList = a.data.toList ++ (l.map (·.data.toList)).flatten := by
  intro l
  induction l with
  | nil => intro a; simp
  | cons x r ih => intro a; rw [List.foldl_cons, ih, ByteArray.data_append]; simp
 apply ByteArray.ext
 apply Array.toList_inj.1
 rw [QjB]
 unfold catB
 rw [hf]
 simp
theorem QjH (l : List ByteArray) (hl : l.length ≤ 100) (hs : ∀ x ∈ l, x.size ≤ 1000) : PS 179 [.c (Qcs l), .c (.str ByteArray.empty)] (.c (.str (catB l))) := by
 have hsz : (Lib.join (l.map (·.data.toList)) []).length ≤ 100000 := by
  rw [QjB]
  have := Qlo l hs
  omega
 refine PSpec.ofCallsF fun F μ w vs hfr hA => ?_
 obtain ⟨v0, a1, a2⟩ := hA.2 0 _ rfl
 obtain ⟨v1, b1, b2, -⟩ := hA.2 1 _ rfl
 rw [b2] at b1
 obtain ⟨a, cap, rfl, h1, h2, h3, h4, h5⟩ := a2
 obtain rfl := QtR hA.1 a1 b1
 have hcat : (catB l).size ≤ maxLen := by
  rw [← Qj6]
  show (Lib.join (l.map (·.data.toList)) []).toArray.size ≤ _
  rw [List.size_toArray]
  unfold maxLen
  omega
 refine ⟨.string (catB l), fun F' μ' => ⟨rfl, hcat⟩, ?_⟩
 rw [← Qj6]
 rcases h5 with h5 | ⟨b, off, rfl, h5⟩
 ·obtain rfl := List.eq_nil_of_length_eq_zero h5
  refine (Any.strings_Join_none Tryz.layJoin QlA a cap ByteArray.empty w).mono ?_
  rintro e w' ⟨rfl, rfl⟩
  exact ⟨rfl, Go.RowKit.Below.refl _ _⟩
 ·have hcell : ∀ j, j < l.length → F.cell b (off + j) = some (.string (l.getD j ByteArray.empty)) := fun j hj => by
   obtain ⟨x, x1, x2, -⟩ := h5 j hj 0 (by omega)
   rw [x2] at x1
   simpa using x1
  have hw : ∀ j, j < l.length → w.cell? ⟨b, off + j, none⟩ = some (.string (l.getD j ByteArray.empty)) := fun j hj => by
   have := hcell j hj
   unfold Mem.cell at this
   unfold World.cell?
   cases hF : F b with
   | none => rw [hF] at this; cases this
   | some o =>
    rw [hF] at this
    rw [hfr b o hF]
    cases o <;> simp_all
  by_cases h0 : l.length = 0
  ·obtain rfl := List.eq_nil_of_length_eq_zero h0
   refine (Any.strings_Join_none Tryz.layJoin QlA _ cap ByteArray.empty w).mono ?_
   rintro e w' ⟨rfl, rfl⟩
   exact ⟨rfl, Go.RowKit.Below.refl _ _⟩
  have hb : b < w.heap.size := by
   have := hcell 0 (by omega)
   unfold Mem.cell at this
   cases hF : F b with
   | none => rw [hF] at this; cases this
   | some o => exact (Array.getElem?_eq_some_iff.1 (hfr b o hF)).1
  exact Any.strings_Join Tryz.layJoin QlA b off cap l ByteArray.empty w (fun j x hx => by
   obtain ⟨hj, rfl⟩ := List.getElem?_eq_some_iff.1 hx
   rw [hw j hj]
   simp [List.getD, hj]) hb (by omega) h2 (by
    show (Lib.join (l.map (·.data.toList)) []).length ≤ _
    omega)
theorem QjT : HB 179 := hB Tryz.func179
end Go.Proofs
end
