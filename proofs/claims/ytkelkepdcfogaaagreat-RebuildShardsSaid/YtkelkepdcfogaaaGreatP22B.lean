/- Contracts, lemmas; no condition. -/
import Derived.Test.YtkelkepdcfogaaaGreatP21B
import Derived.Test.YtkelkepdcfogaaaGreatA38B
import Derived.Test.YtkelkepdcfogaaaGreatP13B
import Derived.Test.YtkelkepdcfogaaaGreatEnvB
import Derived.Shelf.SlSortFuncK.WholeK
import Derived.Test.YtkelkepdcfogaaaGreatP20B
import Derived.Test.YtkelkepdcfogaaaGreatP16B
set_option linter.all false
section
open Go Go.Am
namespace Go.Proofs
set_option maxRecDepth 20000
def hitE (f : Fnd) (e : Ent) : Bool := decide (e.block = f.r.block ∧ e.version = f.r.version)
theorem Qit (b : Bas) (f : Fnd) : Q6 b f = (decide (b.cut ≤ f.r.version) || b.ents.any (hitE f)) := rfl
theorem QeY {α : Type} [Inhabited α] {l : List α} {p : α → Bool} (h : ∀ j, j < l.length → p (l.getD j default) = false) : l.any p = false := by
 rw [List.any_eq_false]
 intro x hx
 obtain ⟨i, hi, rfl⟩ := List.getElem_of_mem hx
 have := h i hi
 rw [Qb1 l i hi] at this
 rw [this]
 exact Bool.false_ne_true
theorem hit_cond {f : Fnd} {e : Ent} : (bif e.block == f.r.block then e.version == f.r.version else false) = hitE f e := by
 unfold hitE
 by_cases h1 : e.block = f.r.block <;> simp [h1] <;> rfl
set_option maxHeartbeats 2000000 in
theorem Qew (b : Bas) (f : Fnd) (hb : b.ents.length ≤ 1000000) : PS 24 [.a b.cells, .a f.cells] (.c (.bool (Q6 b f))) := by
 refine PSpec.rm ?_
 refine ov hΓ Tryz.func24 35 0 [.tmp 4] Tryz.ntmps24 Tryz.results24 ?_
 ((conv=>whnf);(repeat' ((first|refine Nd ?_|refine Hv fun _h=>?_);conv=>whnf)))
 by_cases h : b.cut ≤ f.r.version
 ·refine Br.yes (by simpa using h) ?_
  ((conv=>whnf);(repeat' ((first|refine Nd ?_|refine Hv fun _h=>?_);conv=>whnf)))
  rw [show Q6 b f = true by rw [Qit, decide_eq_true h]; rfl]
  exact RM.i0
 ·refine Br.no (by simpa using h) ?_
  ((conv=>whnf);(repeat' ((first|refine Nd ?_|refine Hv fun _h=>?_);conv=>whnf)))
  have hc : Q6 b f = b.ents.any (hitE f) := by rw [Qit, decide_eq_false h]; rfl
  refine Lp.mkK hΓ (ι := Nat) [2,3,14,15] (fun k => [(16, .c (.int .i64 k))]) (fun k => [.vr b.cells, .vr f.cells]) (fun k => k ≤ b.ents.length ∧ ∀ j, j < k → hitE f (b.ents.getD j default) = false) (fun k => b.ents.length - k) 0 ⟨Nat.zero_le _, fun i hi => absurd hi (Nat.not_lt_zero _)⟩ ?_ ?_
  ·exact Mv.k0
  ·rintro k ⟨hk, hk2⟩
   ((conv=>whnf);(repeat' ((first|refine Nd ?_|refine Hv fun _h=>?_);conv=>whnf)))
   refine Br.of (fun h1=>?_) (fun h1=>?_)<;>(try simp only [Int.toNat_natCast] at h1)<;>(conv=>whnf)
   ·((conv=>whnf);(repeat' ((first|refine Nd ?_|refine Hv fun _h=>?_);conv=>whnf)))
    have w0 := Qa (↑k + 1) (by omega) (by omega)
    skip
    cases c : hitE f (b.ents.getD k default) with
    | true =>
     refine Br.yes (hit_cond.trans c) ?_
     ((conv=>whnf);(repeat' ((first|refine Nd ?_|refine Hv fun _h=>?_);conv=>whnf)))
     rw [hc, (Qek (by omega) c hk2).1]
     exact RM.i0
    | false =>
     refine Br.no (hit_cond.trans c) ?_
     ((conv=>whnf);(repeat' ((first|refine Nd ?_|refine Hv fun _h=>?_);conv=>whnf)))
     refine ⟨k + 1, ⟨by omega, fun j hj => ?_⟩, by omega, ?_⟩
     ·rcases Nat.lt_succ_iff_lt_or_eq.1 hj with q | rfl
      ·exact hk2 j q
      ·exact c
     ·exact Mv.k0
   ·((conv=>whnf);(repeat' ((first|refine Nd ?_|refine Hv fun _h=>?_);conv=>whnf)))
    have : k = b.ents.length := by omega
    subst this
    rw [hc, QeY hk2]
    exact RM.i0
theorem Qd8 : HB 24 := hB Tryz.func24
theorem Qgf (a b : Fnd) : PS 48 [.a a.cells, .a b.cells] (.c (.bool (QH a b))) := by
 refine PSpec.rm ?_
 refine ov hΓ Tryz.func48 54 0 [.tmp 4] Tryz.ntmps48 Tryz.results48 ?_
 ((conv=>whnf);(repeat' ((first|refine Nd ?_|refine Hv fun _h=>?_);conv=>whnf)))
 by_cases h1 : a.r.version = b.r.version
 ·refine Br.no (by simpa using h1) ?_
  ((conv=>whnf);(repeat' ((first|refine Nd ?_|refine Hv fun _h=>?_);conv=>whnf)))
  by_cases h2 : a.r.move = b.r.move
  ·refine Br.no (by simpa using h2) ?_
   ((conv=>whnf);(repeat' ((first|refine Nd ?_|refine Hv fun _h=>?_);conv=>whnf)))
   by_cases h3 : a.zone = b.zone
   ·refine Br.no (by simpa using h3) ?_
    ((conv=>whnf);(repeat' ((first|refine Nd ?_|refine Hv fun _h=>?_);conv=>whnf)))
    rw [show QH a b = decide (a.offset < b.offset) by unfold QH; rw [if_pos h1, if_pos h2, if_pos h3]]
    exact RM.i0
   ·refine Br.yes (by simpa using h3) ?_
    ((conv=>whnf);(repeat' ((first|refine Nd ?_|refine Hv fun _h=>?_);conv=>whnf)))
    rw [show QH a b = decide (a.zone < b.zone) by unfold QH; rw [if_pos h1, if_pos h2, if_neg h3]]
    exact RM.i0
  ·refine Br.yes (by simpa using h2) ?_
   ((conv=>whnf);(repeat' ((first|refine Nd ?_|refine Hv fun _h=>?_);conv=>whnf)))
   rw [show QH a b = decide (b.r.move < a.r.move) by unfold QH; rw [if_pos h1, if_neg h2]]
   exact RM.i0
 ·refine Br.yes (by simpa using h1) ?_
  ((conv=>whnf);(repeat' ((first|refine Nd ?_|refine Hv fun _h=>?_);conv=>whnf)))
  rw [show QH a b = decide (b.r.version < a.r.version) by unfold QH; rw [if_neg h1]]
  exact RM.i0
theorem QgB : HB 48 := hB Tryz.func48
def QiU (o : Option Fnd) : Fnd := o.getD default
def Qb (a b : Fnd) : Bool := decide (a.r.block < b.r.block) || (decide (a.r.block = b.r.block) && QH a b)
theorem QrM {a b : Fnd} : (bif decide (a.r.block < b.r.block) then true else bif a.r.block == b.r.block then QH a b else false) = Qb a b := by
 unfold Qb
 by_cases h1 : a.r.block < b.r.block <;> by_cases h2 : a.r.block = b.r.block <;> simp [h1, h2]
set_option maxHeartbeats 2000000 in
theorem Qq9 (l : List Fnd) (i k : Nat) (hl : l.length ≤ 1000000) (hi : i < l.length) (hk : k < l.length) : PS 47 [.c (.int .i64 i), .c (.int .i64 k), .c (.ip 1 fun _ => Qcc l)] (.c (.bool (Qb (l.getD i default) (l.getD k default)))) := by
 refine PSpec.rm ?_
 refine ov hΓ Tryz.func47 37 0 [.tmp 5] Tryz.ntmps47 Tryz.results47 ?_
 ((conv=>whnf);(repeat' ((first|refine Nd ?_|refine Hv fun _h=>?_);conv=>whnf)))
 refine Dr.mkL hΓ hMix [] [(4, 10), (5, 10), (6, 10), (7, 10)] 8 9 (by kernel_rfl) ?_; conv=>whnf
 ((conv=>whnf);(repeat' ((first|refine Nd ?_|refine Hv fun _h=>?_);conv=>whnf)))
 refine CallG.auto QgB (fun _ => Qgf (l.getD i default) (l.getD k default) ) ?_
 ((conv=>whnf);(repeat' ((first|refine Nd ?_|refine Hv fun _h=>?_);conv=>whnf)))
 rw [show ((i : Int)).toNat = i from rfl, show ((k : Int)).toNat = k from rfl, QrM]
 exact RM.i0
theorem Q9 : HB 47 := hB Tryz.func47
end Go.Proofs
end

section
namespace Go.Proofs
open Go.Shelf
def Tryz.laySlice_ren : Go.Shelf.Ren := ⟨fun | 6 => 46 | 10 => 86 | 11 => 87 | 12 => 88 | 13 => 89 | 14 => 90 | 24 => 129 | 25 => 130 | 26 => 131 | 27 => 132 | 28 => 133 | 29 => 134 | 30 => 135 | 31 => 136 | 32 => 137 | 33 => 138 | 34 => 156 | 35 => 157 | 36 => 158 | 37 => 159 | 38 => 160 | 39 => 176 | n => n, fun | 20 => 20 | 26 => 108 | 35 => 152 | 0 => 0 | 37 => 154 | 3 => 3 | 41 => 115 | 44 => 159 | 49 => 131 | 51 => 189 | 4 => 4 | 54 => 192 | 53 => 191 | 58 => 165 | 5 => 5 | 9 => 9 | 60 => 203 | 64 => 207 | 66 => 214 | 67 => 146 | 17 => 17 | 32 => 149 | 33 => 150 | 82 => 250 | 12 => 12 | 75 => 244 | 76 => 245 | 77 => 246 | 78 => 219 | 79 => 247 | 80 => 248 | n => n, fun | n => n⟩
theorem Tryz.laySlice : Go.Proofs.LaysGg.n6 Tryz.prog Tryz.laySlice_ren := {
 mixed := by kernel_rfl,
 f6 := Tryz.func46.trans (congrArg some (by kernel_rfl)),
 f10 := Tryz.func86.trans (congrArg some (by kernel_rfl)),
 f11 := Tryz.func87.trans (congrArg some (by kernel_rfl)),
 f12 := Tryz.func88.trans (congrArg some (by kernel_rfl)),
 f13 := Tryz.func89.trans (congrArg some (by kernel_rfl)),
 f14 := Tryz.func90.trans (congrArg some (by kernel_rfl)),
 f24 := Tryz.func129.trans (congrArg some (by kernel_rfl)),
 f25 := Tryz.func130.trans (congrArg some (by kernel_rfl)),
 f26 := Tryz.func131.trans (congrArg some (by kernel_rfl)),
 f27 := Tryz.func132.trans (congrArg some (by kernel_rfl)),
 f28 := Tryz.func133.trans (congrArg some (by kernel_rfl)),
 f29 := Tryz.func134.trans (congrArg some (by kernel_rfl)),
 f30 := Tryz.func135.trans (congrArg some (by kernel_rfl)),
 f31 := Tryz.func136.trans (congrArg some (by kernel_rfl)),
 f32 := Tryz.func137.trans (congrArg some (by kernel_rfl)),
 f33 := Tryz.func138.trans (congrArg some (by kernel_rfl)),
 f34 := Tryz.func156.trans (congrArg some (by kernel_rfl)),
 f35 := Tryz.func157.trans (congrArg some (by kernel_rfl)),
 f36 := Tryz.func158.trans (congrArg some (by kernel_rfl)),
 f37 := Tryz.func159.trans (congrArg some (by kernel_rfl)),
 f38 := Tryz.func160.trans (congrArg some (by kernel_rfl)),
 f39 := Tryz.func176.trans (congrArg some (by kernel_rfl)),
 t0 := Tryz.underlying0,
 a0 := Tryz.isAgg0,
 z0 := Tryz.sizeOf0,
 v0 := Tryz.zeroValue0,
 i0 := by kernel_rfl,
 t3 := Tryz.underlying3,
 a3 := Tryz.isAgg3,
 z3 := Tryz.sizeOf3,
 v3 := Tryz.zeroValue3,
 i3 := by kernel_rfl,
 t4 := Tryz.underlying4,
 a4 := Tryz.isAgg4,
 z4 := Tryz.sizeOf4,
 v4 := Tryz.zeroValue4,
 i4 := by kernel_rfl,
 t5 := Tryz.underlying5,
 a5 := Tryz.isAgg5,
 z5 := Tryz.sizeOf5,
 v5 := Tryz.zeroValue5,
 i5 := by kernel_rfl,
 t9 := Tryz.underlying9,
 a9 := Tryz.isAgg9,
 z9 := Tryz.sizeOf9,
 v9 := Tryz.zeroValue9,
 i9 := by kernel_rfl,
 t12 := Tryz.underlying12,
 a12 := Tryz.isAgg12,
 z12 := Tryz.sizeOf12,
 v12 := Tryz.zeroValue12,
 i12 := by kernel_rfl,
 t17 := Tryz.underlying17,
 a17 := Tryz.isAgg17,
 z17 := Tryz.sizeOf17,
 v17 := Tryz.zeroValue17,
 i17 := by kernel_rfl,
 t20 := Tryz.underlying20,
 a20 := Tryz.isAgg20,
 z20 := Tryz.sizeOf20,
 v20 := Tryz.zeroValue20,
 i20 := by kernel_rfl,
 t26 := Tryz.underlying108,
 a26 := Tryz.isAgg108,
 z26 := Tryz.sizeOf108,
 v26 := Tryz.zeroValue108,
 i26 := by kernel_rfl,
 t32 := Tryz.underlying149,
 a32 := Tryz.isAgg149,
 z32 := Tryz.sizeOf149,
 v32 := Tryz.zeroValue149,
 i32 := by kernel_rfl,
 t33 := Tryz.underlying150,
 a33 := Tryz.isAgg150,
 z33 := Tryz.sizeOf150,
 v33 := Tryz.zeroValue150,
 i33 := by kernel_rfl,
 t35 := Tryz.underlying152,
 a35 := Tryz.isAgg152,
 z35 := Tryz.sizeOf152,
 v35 := Tryz.zeroValue152,
 i35 := by kernel_rfl,
 t37 := Tryz.underlying154,
 a37 := Tryz.isAgg154,
 z37 := Tryz.sizeOf154,
 v37 := Tryz.zeroValue154,
 i37 := by kernel_rfl,
 t41 := Tryz.underlying115,
 a41 := Tryz.isAgg115,
 z41 := Tryz.sizeOf115,
 v41 := Tryz.zeroValue115,
 i41 := by kernel_rfl,
 t44 := Tryz.underlying159,
 a44 := Tryz.isAgg159,
 z44 := Tryz.sizeOf159,
 v44 := Tryz.zeroValue159,
 i44 := by kernel_rfl,
 t49 := Tryz.underlying131,
 a49 := Tryz.isAgg131,
 z49 := Tryz.sizeOf131,
 v49 := Tryz.zeroValue131,
 i49 := by kernel_rfl,
 t51 := Tryz.underlying189,
 a51 := Tryz.isAgg189,
 z51 := Tryz.sizeOf189,
 v51 := Tryz.zeroValue189,
 i51 := by kernel_rfl,
 t53 := Tryz.underlying191,
 a53 := Tryz.isAgg191,
 z53 := Tryz.sizeOf191,
 v53 := Tryz.zeroValue191,
 i53 := by kernel_rfl,
 t54 := Tryz.underlying192,
 a54 := Tryz.isAgg192,
 z54 := Tryz.sizeOf192,
 v54 := Tryz.zeroValue192,
 i54 := by kernel_rfl,
 t58 := Tryz.underlying165,
 a58 := Tryz.isAgg165,
 z58 := Tryz.sizeOf165,
 v58 := Tryz.zeroValue165,
 i58 := by kernel_rfl,
 t60 := Tryz.underlying203,
 a60 := Tryz.isAgg203,
 z60 := Tryz.sizeOf203,
 v60 := Tryz.zeroValue203,
 i60 := by kernel_rfl,
 t64 := Tryz.underlying207,
 a64 := Tryz.isAgg207,
 z64 := Tryz.sizeOf207,
 v64 := Tryz.zeroValue207,
 i64 := by kernel_rfl,
 t66 := Tryz.underlying214,
 a66 := Tryz.isAgg214,
 z66 := Tryz.sizeOf214,
 v66 := Tryz.zeroValue214,
 i66 := by kernel_rfl,
 t67 := Tryz.underlying146,
 a67 := Tryz.isAgg146,
 z67 := Tryz.sizeOf146,
 v67 := Tryz.zeroValue146,
 i67 := by kernel_rfl,
 t75 := Tryz.underlying244,
 a75 := Tryz.isAgg244,
 z75 := Tryz.sizeOf244,
 v75 := Tryz.zeroValue244,
 i75 := by kernel_rfl,
 t76 := Tryz.underlying245,
 a76 := Tryz.isAgg245,
 z76 := Tryz.sizeOf245,
 v76 := Tryz.zeroValue245,
 i76 := by kernel_rfl,
 t77 := Tryz.underlying246,
 a77 := Tryz.isAgg246,
 z77 := Tryz.sizeOf246,
 v77 := Tryz.zeroValue246,
 i77 := by kernel_rfl,
 t78 := Tryz.underlying219,
 a78 := Tryz.isAgg219,
 z78 := Tryz.sizeOf219,
 v78 := Tryz.zeroValue219,
 i78 := by kernel_rfl,
 t79 := Tryz.underlying247,
 a79 := Tryz.isAgg247,
 z79 := Tryz.sizeOf247,
 v79 := Tryz.zeroValue247,
 i79 := by kernel_rfl,
 t80 := Tryz.underlying248,
 a80 := Tryz.isAgg248,
 z80 := Tryz.sizeOf248,
 v80 := Tryz.zeroValue248,
 i80 := by kernel_rfl,
 t82 := Tryz.underlying250,
 a82 := Tryz.isAgg250,
 z82 := Tryz.sizeOf250,
 v82 := Tryz.zeroValue250,
 i82 := by kernel_rfl }
end Go.Proofs
end

section
open Go Go.Am
namespace Go.Proofs
set_option maxRecDepth 20000
theorem Qrr (n : Int) (hn : 0 ≤ n ∧ n < 65536) : PS 147 [.c (.int .i64 n), .c (.int .i64 2)] (.t [.inl (.str (putS n 2)), .inl (.int .i64 0)]) := by
 refine PSpec.rm ?_
 refine ov hΓ Tryz.func147 44 0 [.tmp 4, .tmp 5] Tryz.ntmps147 Tryz.results147 ?_
 ((conv=>whnf);(repeat' ((first|refine Nd ?_|refine Hv fun _h=>?_);conv=>whnf)))
 have e : IntKind.i64.wrap (1 * 2 ^ min (IntKind.u64.wrap (IntKind.i64.wrap (8 * 2))).toNat IntKind.i64.bits) = 65536 := by decide
 refine Br.no (by rw [e]; simp; omega) ?_
 ((conv=>whnf);(repeat' ((first|refine Nd ?_|refine Hv fun _h=>?_);conv=>whnf)))
 refine Lp.mk hΓ (ι := Nat) (fun k => [(7, .c (.int .i64 k)), (6, .c (.sl 0 1 2 2 true)), (0, .c (.int .i64 n)), (1, .c (.int .i64 2))]) (fun k => [.arr 5 1 2 (putG n k)]) (fun k => k ≤ 2) (fun k => 2 - k) 0 (Nat.zero_le _) ?_ ?_
 ·exact Mv.mk' 1 rfl ⟨O.wk.arr rfl (fun i hi j hj => by
   have hj : j < 1 := hj
   have : j = 0 := by omega
   subst this
   exact wkC.imm rfl), trivial⟩ ⟨wkS.imm rfl, wkS.c (wkC.sl (by decide) rfl rfl (fun _ => rfl)), wkS.imm rfl, wkS.imm rfl, trivial⟩ (Nat.zero_le _)
 ·intro k hk
  ((conv=>whnf);(repeat' ((first|refine Nd ?_|refine Hv fun _h=>?_);conv=>whnf)))
  refine Br.of (fun h=>?_) (fun h=>?_)<;>(try simp only [Int.toNat_natCast] at h)<;>(conv=>whnf)
  ·((conv=>whnf);(repeat' ((first|refine Nd ?_|refine Hv fun _h=>?_);conv=>whnf)))
   refine Need.mk (by rw [IntKind.wrap_u64]; omega) ?_
   ((conv=>whnf);(repeat' ((first|refine Nd ?_|refine Hv fun _h=>?_);conv=>whnf)))
   have w0 := Qa (↑k + 1) (by omega) (by omega)
   refine ⟨k + 1, by omega, by omega, Mv.mk' 1 rfl ⟨O.wk.arr rfl (fun i hi j hj => wkC.of_eq (Qf7 _ _ _ _) ?_), trivial⟩ ⟨wkS.c (wkC.int (by rw [w0]; rfl)), wkS.c (wkC.sl (by decide) rfl rfl (fun e => e)), wkS.imm rfl, wkS.imm rfl, trivial⟩ (Nat.zero_le _)⟩
   have hj : j = 0 := by omega
   subst hj
   rw [Qel]
   simp only [putG, putB, Int.toNat_natCast]
   by_cases c : i = k
   ·subst c
    simp
   ·rw [if_neg (by simp [c])]
    by_cases c2 : i < k
    ·rw [if_pos c2, if_pos (by omega)]
    ·rw [if_neg c2, if_neg (by omega)]
  ·((conv=>whnf);(repeat' ((first|refine Nd ?_|refine Hv fun _h=>?_);conv=>whnf)))
   have : k = 2 := by omega
   subst this
   refine Need.mk (fun i hi => ⟨putB n i, by simp only [putG]; rw [if_pos hi]⟩) ?_
   ((conv=>whnf);(repeat' ((first|refine Nd ?_|refine Hv fun _h=>?_);conv=>whnf)))
   exact RM.imm rfl (wkS.t ⟨wkC.str (QfG n 2), wkC.imm rfl, trivial⟩)
theorem Qru : HB 147 := Qe0
theorem QgX (n : Int) (hn : 0 ≤ n ∧ n < 65536) : PS 112 [.c (.int .i64 n), .c (.int .i64 2)] (.c (.str (putS n 2))) := by
 refine ov hΓ Tryz.func112 14 0 [.tmp 4] Tryz.ntmps112 Tryz.results112 ?_
 conv=>whnf
 refine CallN.pure Qru (Qrr n hn ) (leA.refl rfl) rfl ?_
 ((conv=>whnf);(repeat' ((first|refine Nd ?_|refine Hv fun _h=>?_);conv=>whnf)))
theorem Qgz : HB 112 := hB Tryz.func112
theorem Qmp (n : Int) (hn : 0 ≤ n ∧ n < 4294967296) : PS 112 [.c (.int .i64 n), .c (.int .i64 4)] (.c (.str (putS n 4))) := by
 refine ov hΓ Tryz.func112 14 0 [.tmp 4] Tryz.ntmps112 Tryz.results112 ?_
 conv=>whnf
 refine CallN.pure QjU (Qke n hn ) (leA.refl rfl) rfl ?_
 ((conv=>whnf);(repeat' ((first|refine Nd ?_|refine Hv fun _h=>?_);conv=>whnf)))
theorem Qlm : HB 112 := hB Tryz.func112
theorem QgU (n : Int) (hn : 0 ≤ n ∧ n < 281474976710656) : PS 112 [.c (.int .i64 n), .c (.int .i64 6)] (.c (.str (putS n 6))) := by
 refine ov hΓ Tryz.func112 14 0 [.tmp 4] Tryz.ntmps112 Tryz.results112 ?_
 conv=>whnf
 refine CallN.pure Qku (QjX n hn ) (leA.refl rfl) rfl ?_
 ((conv=>whnf);(repeat' ((first|refine Nd ?_|refine Hv fun _h=>?_);conv=>whnf)))
theorem Qgs : HB 112 := hB Tryz.func112
theorem QlL (e : Ent) (n : Int) : PS 149 [.a e.cells, .c (.int .i64 n)] (.c (.int .i64 (Qae e n))) := by
 refine PSpec.rm ?_
 refine ov hΓ Tryz.func149 63 0 [.tmp 4] Tryz.ntmps149 Tryz.results149 ?_
 ((conv=>whnf);(repeat' ((first|refine Nd ?_|refine Hv fun _h=>?_);conv=>whnf)))
 by_cases h1 : e.kind = 1
 ·refine Br.no (by simpa using h1) ?_
  ((conv=>whnf);(repeat' ((first|refine Nd ?_|refine Hv fun _h=>?_);conv=>whnf)))
  by_cases h2 : 0 ≤ e.block ∧ e.block < 128 ∧ 1 ≤ e.version ∧ e.version < n ∧ 0 ≤ e.move ∧ e.move ≤ 255 ∧ 0 ≤ e.zone ∧ e.zone < 32 ∧ 0 ≤ e.offset ∧ e.offset < 64
  ·refine Br.no (Bool.eq_false_iff.2 fun z => by simp at z; omega) ?_
   ((conv=>whnf);(repeat' ((first|refine Nd ?_|refine Hv fun _h=>?_);conv=>whnf)))
   rw [show Qae e n = 0 by unfold Qae; rw [if_pos h1, if_pos h2]]
   exact RM.i0
  ·refine Br.yes (Decidable.byContradiction fun z => h2 (by simp at z; omega)) ?_
   ((conv=>whnf);(repeat' ((first|refine Nd ?_|refine Hv fun _h=>?_);conv=>whnf)))
   rw [show Qae e n = 1 by unfold Qae; rw [if_pos h1, if_neg h2]]
   exact RM.i0
 ·refine Br.yes (by simpa using h1) ?_
  ((conv=>whnf);(repeat' ((first|refine Nd ?_|refine Hv fun _h=>?_);conv=>whnf)))
  rw [show Qae e n = 3 by unfold Qae; rw [if_neg h1]]
  exact RM.i0
theorem Qmc : HB 149 := hB Tryz.func149
theorem Qgd {l : List Ent} {n : Int} {k : Nat} (h : QQ l n k ≠ 0) : ∀ d, QQ l n (k + d) = QQ l n k
 | 0 => rfl
 | d + 1 => by
  have h1 := Qgd h d
  show QQ l n ((k + d) + 1) = _
  simp only [QQ]
  rw [h1, if_neg h]
theorem QbK {l : List Ent} {n : Int} {k : Nat} {v : Int} (hk : k < l.length) (h : QQ l n (k + 1) = v) (hv : v ≠ 0) : QQ l n l.length = v := by
 have := Qgd (l := l) (n := n) (k := k + 1) (by rw [h]; exact hv) (l.length - (k + 1))
 rw [show k + 1 + (l.length - (k + 1)) = l.length by omega, h] at this
 exact this
def Qk4 (seq next cut : Int) (l : List Ent) : List C := [.int .i64 seq, .int .i64 next, .int .i64 cut, QR l]
set_option maxHeartbeats 1000000 in
theorem Qlu (seq next cut : Int) (l : List Ent) (hl : l.length ≤ 1000000) : PS 111 [.a (Qk4 seq next cut l)] (.c (.int .i64 (QE seq next cut l))) := by
 refine PSpec.rm ?_
 refine ov hΓ Tryz.func111 75 0 [.tmp 2] Tryz.ntmps111 Tryz.results111 ?_
 ((conv=>whnf);(repeat' ((first|refine Nd ?_|refine Hv fun _h=>?_);conv=>whnf)))
 by_cases h1 : 1 ≤ seq ∧ seq < 1099511627776 ∧ 1 ≤ next ∧ next ≤ 1099511627776 ∧ 1 ≤ cut ∧ cut ≤ next
 ·refine Br.no (Bool.eq_false_iff.2 fun z => by simp at z; omega) ?_
  ((conv=>whnf);(repeat' ((first|refine Nd ?_|refine Hv fun _h=>?_);conv=>whnf)))
  by_cases h2 : 128 < l.length
  ·refine Br.yes (by simpa using (by omega : (128 : Int) < l.length)) ?_
   ((conv=>whnf);(repeat' ((first|refine Nd ?_|refine Hv fun _h=>?_);conv=>whnf)))
   rw [show QE seq next cut l = 19 by unfold QE; rw [if_pos h1, if_pos h2]]
   exact RM.i0
  ·refine Br.no (by simpa using (by omega : (l.length : Int) ≤ 128)) ?_
   ((conv=>whnf);(repeat' ((first|refine Nd ?_|refine Hv fun _h=>?_);conv=>whnf)))
   have he : QE seq next cut l = QQ l next l.length := by unfold QE; rw [if_pos h1, if_neg h2]
   rw [he]
   refine Lp.mkK hΓ (ι := Nat) [1] (fun k => [(3, .c (.int .i64 k))]) (fun k => [.vr (Qk4 seq next cut l)]) (fun k => k ≤ l.length ∧ QQ l next k = 0) (fun k => l.length - k) 0 ⟨Nat.zero_le _, rfl⟩ ?_ ?_
   ·exact Mv.k0
   ·rintro k ⟨hk, hk2⟩
    ((conv=>whnf);(repeat' ((first|refine Nd ?_|refine Hv fun _h=>?_);conv=>whnf)))
    refine Br.of (fun h3=>?_) (fun h3=>?_)<;>(try simp only [Int.toNat_natCast] at h3)<;>(conv=>whnf)
    ·((conv=>whnf);(repeat' ((first|refine Nd ?_|refine Hv fun _h=>?_);conv=>whnf)))
     have w0 := Qa (↑k + 1) (by omega) (by omega)
     have w1 : IntKind.i64.wrap (↑k - 1) = ↑k - 1 := Qa _ (by omega) (by omega)
     refine Dr.mk hΓ hMix (by kernel_rfl) ?_; conv=>whnf
     ((conv=>whnf);(repeat' ((first|refine Nd ?_|refine Hv fun _h=>?_);conv=>whnf)))
     refine CallP.auto Qmc (QlL (l.getD k default) next ) ?_
     ((conv=>whnf);(repeat' ((first|refine Nd ?_|refine Hv fun _h=>?_);conv=>whnf)))
     have e1 : QQ l next (k + 1) = if Qae (l.getD k default) next = 0 then if 0 < k ∧ (l.getD k default).block ≤ (l.getD (k - 1) default).block then 17 else 0 else Qae (l.getD k default) next := by
      simp only [QQ]; rw [if_pos hk2]
     by_cases h4 : Qae (l.getD k default) next = 0
     ·refine Br.no (by simpa using h4) ?_
      ((conv=>whnf);(repeat' ((first|refine Nd ?_|refine Hv fun _h=>?_);conv=>whnf)))
      refine Dr.mk hΓ hMix (by kernel_rfl) ?_; conv=>whnf
      ((conv=>whnf);(repeat' ((first|refine Nd ?_|refine Hv fun _h=>?_);conv=>whnf)))
      by_cases h5 : 0 < k ∧ (l.getD k default).block ≤ (l.getD (k - 1) default).block
      ·refine Br.yes (by rw [decide_eq_true (by omega), w1, Int.toNat_natCast, show ((k : Int) - 1).toNat = k - 1 by omega]; exact decide_eq_true h5.2) ?_
       ((conv=>whnf);(repeat' ((first|refine Nd ?_|refine Hv fun _h=>?_);conv=>whnf)))
       rw [if_pos h4, if_pos h5] at e1
       rw [QbK (by omega) e1 (by decide)]
       exact RM.i0
      ·refine Br.no ?_ ?_
       ·by_cases h6 : 0 < k
        ·rw [decide_eq_true (by omega), w1, Int.toNat_natCast, show ((k : Int) - 1).toNat = k - 1 by omega]
         exact decide_eq_false fun z => h5 ⟨h6, z⟩
        ·rw [decide_eq_false (by omega)]; rfl
       ·((conv=>whnf);(repeat' ((first|refine Nd ?_|refine Hv fun _h=>?_);conv=>whnf)))
        rw [if_pos h4, if_neg h5] at e1
        refine ⟨k + 1, ⟨by omega, e1⟩, by omega, ?_⟩
        exact Mv.k0
     ·refine Br.yes (by simpa using h4) ?_
      ((conv=>whnf);(repeat' ((first|refine Nd ?_|refine Hv fun _h=>?_);conv=>whnf)))
      rw [if_neg h4] at e1
      rw [QbK (by omega) e1 h4]
      exact RM.i0
    ·((conv=>whnf);(repeat' ((first|refine Nd ?_|refine Hv fun _h=>?_);conv=>whnf)))
     have : k = l.length := by omega
     subst this
     rw [hk2]
     exact RM.i0
 ·refine Br.yes (Decidable.byContradiction fun z => h1 (by simp at z; omega)) ?_
  ((conv=>whnf);(repeat' ((first|refine Nd ?_|refine Hv fun _h=>?_);conv=>whnf)))
  rw [show QE seq next cut l = 1 by unfold QE; rw [if_neg h1]]
  exact RM.i0
theorem Qly : HB 111 := hB Tryz.func111
theorem Qeg (l : List Rec) : ∀ k, (QO l k).size ≤ 36 * k
 | 0 => Nat.zero_le _
 | k + 1 => by
  have h1 := Qeg l k
  simp only [QO]
  split
  ·rw [ByteArray.size_append, ByteArray.size_extract]
   omega
  ·omega
theorem Qpq (l : List Rec) (hl : l.length ≤ 1000) : PS 113 [.c (Qb9 l)] (.c (.str (QcS l))) := by
 refine PSpec.rm ?_
 refine ov hΓ Tryz.func113 31 0 [.tmp 2] Tryz.ntmps113 Tryz.results113 ?_
 ((conv=>whnf);(repeat' ((first|refine Nd ?_|refine Hv fun _h=>?_);conv=>whnf)))
 refine Lp.mkK hΓ (ι := Nat) [0, 2] (fun k => [(4, .c (.int .i64 k)), (3, .c (.str (QO l k)))]) (fun k => []) (fun k => k ≤ l.length) (fun k => l.length - k) 0 (Nat.zero_le _) ?_ ?_
 ·exact Mv.k0
 ·intro k hk
  ((conv=>whnf);(repeat' ((first|refine Nd ?_|refine Hv fun _h=>?_);conv=>whnf)))
  refine Br.of (fun h1=>?_) (fun h1=>?_)<;>(try simp only [Int.toNat_natCast] at h1)<;>(conv=>whnf)
  ·((conv=>whnf);(repeat' ((first|refine Nd ?_|refine Hv fun _h=>?_);conv=>whnf)))
   have w0 := Qa (↑k + 1) (by omega) (by omega)
   have hb := Qeg l k
   refine CallN.pureA Qfb (Qfc (l.getD k default) ) ?_
   ((conv=>whnf);(repeat' ((first|refine Nd ?_|refine Hv fun _h=>?_);conv=>whnf)))
   by_cases h2 : QB (l.getD k default) = 0
   ·have hz := QkB h2
    refine Br.yes (by simpa using h2) ?_
    ((conv=>whnf);(repeat' ((first|refine Nd ?_|refine Hv fun _h=>?_);conv=>whnf)))
    refine ⟨k + 1, by omega, by omega, ?_⟩
    rw [show QO l (k + 1) = QO l k ++ (encR (l.getD k default)).extract 0 36 from if_pos h2]
    exact Mv.k0
   ·refine Br.no (by simpa using h2) ?_
    ((conv=>whnf);(repeat' ((first|refine Nd ?_|refine Hv fun _h=>?_);conv=>whnf)))
    refine ⟨k + 1, by omega, by omega, ?_⟩
    rw [show QO l (k + 1) = QO l k from if_neg h2]
    exact Mv.k0
  ·((conv=>whnf);(repeat' ((first|refine Nd ?_|refine Hv fun _h=>?_);conv=>whnf)))
   have : k = l.length := by omega
   subst this
   have hb := Qeg l l.length
   refine CallN.pureA QhN (QhJ (QO l l.length) (by omega) ) ?_
   ((conv=>whnf);(repeat' ((first|refine Nd ?_|refine Hv fun _h=>?_);conv=>whnf)))
   have hu := Qg1 0 (QO l l.length)
   have w0 : sumW (QO l l.length) = addU 0 (QO l l.length) := Qa _ (by omega) (by omega)
   refine CallN.pureA Qlm (Qmp (sumW (QO l l.length)) (by rw [w0]; omega) ) ?_
   ((conv=>whnf);(repeat' ((first|refine Nd ?_|refine Hv fun _h=>?_);conv=>whnf)))
   exact RM.i0
theorem QpK : HB 113 := hB Tryz.func113
theorem Qg0 {l : List Rec} {x : Rec} {t : List C} {n i j : Nat} (hn : n = l.length) (hi : i < l.length + 1) (hj : j < 5) : appG (recG l) n (Qaf 5 (C.int .i64 x.kind :: C.int .i64 x.block :: C.int .i64 x.version :: C.int .i64 x.move :: C.str x.payload :: t)) i j = recG (l ++ [x]) i j :=
 QdH (f := Qaz) hn (fun j hj => by
  match j, hj with
  | 0, _ => rfl
  | 1, _ => rfl
  | 2, _ => rfl
  | 3, _ => rfl
  | 4, _ => rfl) hi hj
theorem QcN {seq next cut : Int} {l : List Ent} (h : QE seq next cut l = 0) : (1 ≤ seq ∧ seq < 1099511627776 ∧ 1 ≤ next ∧ next ≤ 1099511627776 ∧ 1 ≤ cut ∧ cut ≤ next) ∧ l.length ≤ 128 ∧ QQ l next l.length = 0 := by
 unfold QE at h
 split at h
 ·rename_i h1
  split at h
  ·cases h
  ·exact ⟨h1, by omega, h⟩
 ·cases h
theorem QdM {l : List Ent} {n : Int} : ∀ {k}, QQ l n k = 0 → ∀ i, i < k → Qae (l.getD i default) n = 0
 | 0, _ => fun i hi => absurd hi (Nat.not_lt_zero _)
 | k + 1, h => by
  simp only [QQ] at h
  split at h
  ·rename_i h1
   split at h
   ·rename_i h2
    exact QbU (QdM h1) h2
   ·rename_i h2; exact absurd h h2
  ·rename_i h1; exact absurd h h1
theorem Qgp {e : Ent} {n : Int} (h : Qae e n = 0) : e.kind = 1 ∧ 0 ≤ e.block ∧ e.block < 128 ∧ 1 ≤ e.version ∧ e.version < n ∧ 0 ≤ e.move ∧ e.move ≤ 255 ∧ 0 ≤ e.zone ∧ e.zone < 32 ∧ 0 ≤ e.offset ∧ e.offset < 64 := by
 unfold Qae at h
 split at h
 ·rename_i h1
  split at h
  ·rename_i h2; exact ⟨h1, h2⟩
  ·cases h
 ·cases h
theorem Qod (l : List Rec) (n : Nat) (hn : n = l.length) (hl : n ≤ 1000) : CS 113 [.c (.sl 0 5 n n false)] [.arr 50 5 n (recG l)] fun s H => s = .c (.str (QcS l)) ∧ H = [.arr 50 5 n (recG l)] := by
 subst hn
 exact CSpec.reads (Qpq l hl) (BwA.cons (BwS.c (Bw.sl rfl rfl (fun i _ j _ => Bw.same (Qai _ _)) (fun e => by cases e))) BwA.nil) rfl ⟨rfl, rfl⟩
theorem Qnh : HB 113 := QpK
set_option maxHeartbeats 4000000 in
theorem QkL (seq next cut : Int) (l : List Ent) (hl : l.length ≤ 1000000) : PS 76 [.a (Qk4 seq next cut l)] (.t [.inl (Qb9 (QaO seq next cut l)), .inl (.int .i64 (QE seq next cut l))]) := by
 refine PSpec.rm ?_
 refine ov hΓ Tryz.func76 67 0 [.tmp 2, .tmp 3] Tryz.ntmps76 Tryz.results76 ?_
 ((conv=>whnf);(repeat' ((first|refine Nd ?_|refine Hv fun _h=>?_);conv=>whnf)))
 refine CallN.pureA Qly (Qlu seq next cut l (by omega) ) ?_
 ((conv=>whnf);(repeat' ((first|refine Nd ?_|refine Hv fun _h=>?_);conv=>whnf)))
 by_cases h0 : QE seq next cut l = 0
 ·refine Br.no (by simpa using h0) ?_
  ((conv=>whnf);(repeat' ((first|refine Nd ?_|refine Hv fun _h=>?_);conv=>whnf)))
  obtain ⟨h1, h2, h3⟩ := QcN h0
  have p1 := Qn next 6
  have p2 := Qn cut 6
  refine Dr.mk hΓ hMix (by kernel_rfl) ?_; conv=>whnf
  ((conv=>whnf);(repeat' ((first|refine Nd ?_|refine Hv fun _h=>?_);conv=>whnf)))
  refine CallP.auto Qgs (QgU next (by omega) ) ?_
  ((conv=>whnf);(repeat' ((first|refine Nd ?_|refine Hv fun _h=>?_);conv=>whnf)))
  refine CallP.auto Qgs (QgU cut (by omega) ) ?_
  ((conv=>whnf);(repeat' ((first|refine Nd ?_|refine Hv fun _h=>?_);conv=>whnf)))
  refine Lp.mkK hΓ (ι := Nat) [1, 2, 3, 5] (fun k => [(6, .c (.sl 1 5 (k + 1) (k + 1) false)), (7, .c (.int .i64 k))]) (fun k => [.vr (Qk4 seq next cut l), .arr 50 5 (k + 1) (recG (Qbk seq next cut l :: (l.take k).map QbB))]) (fun k => k ≤ l.length) (fun k => l.length - k) 0 (Nat.zero_le _) ?_ ?_
  ·refine Mv.k2 ?_ ?_
   ·intro i hi j hj
    refine WC.eq ?_ (Qai _ _)
    have : i = 0 := by omega
    subst this
    match j, hj with
    | 0, _ => rfl
    | 1, _ => rfl
    | 2, _ => rfl
    | 3, _ => rfl
    | 4, _ => rfl
   ·exact WC.slA (hx := fun e => by cases e)
  ·intro k hk
   have hlk : (Qbk seq next cut l :: (l.take k).map QbB).length = k + 1 := by simp; omega
   ((conv=>whnf);(repeat' ((first|refine Nd ?_|refine Hv fun _h=>?_);conv=>whnf)))
   refine Br.of (fun h4=>?_) (fun h4=>?_)<;>(try simp only [Int.toNat_natCast] at h4)<;>(conv=>whnf)
   ·((conv=>whnf);(repeat' ((first|refine Nd ?_|refine Hv fun _h=>?_);conv=>whnf)))
    have he := Qgp (QdM h3 k (by omega))
    have w0 := Qa (↑k + 1) (by omega) (by omega)
    have p3 := Qn (l.getD k default).zone 2
    have p4 := Qn (l.getD k default).offset 2
    refine Dr.mkE hΓ hMix [4294967296] [] (by kernel_rfl) ?_; conv=>whnf
    ((conv=>whnf);(repeat' ((first|refine Nd ?_|refine Hv fun _h=>?_);conv=>whnf)))
    refine CallP.auto Qgz (QgX (l.getD k default).zone (by omega) ) ?_
    ((conv=>whnf);(repeat' ((first|refine Nd ?_|refine Hv fun _h=>?_);conv=>whnf)))
    refine CallP.auto Qgz (QgX (l.getD k default).offset (by omega) ) ?_
    ((conv=>whnf);(repeat' ((first|refine Nd ?_|refine Hv fun _h=>?_);conv=>whnf)))
    refine ⟨k + 1, by omega, by omega, ?_⟩
    refine Mv.k1 ?_
    ·intro i hi j hj
     refine WC.eq ((Qg0 (x := QbB (l.getD k default)) hlk.symm (by rw [hlk]; exact hi) hj).trans ?_) ?_
     ·rw [Q1 l (by omega), List.map_append]; rfl
     ·exact Qai _ _
   ·((conv=>whnf);(repeat' ((first|refine Nd ?_|refine Hv fun _h=>?_);conv=>whnf)))
    have : k = l.length := by omega
    subst this
    rw [List.take_length] at *
    refine Dr.mkE hΓ hMix [4294967296, 113] [(0, 5), (1, 5), (2, 5), (3, 5)] (by kernel_rfl) ?_; conv=>whnf
    ((conv=>whnf);(repeat' ((first|refine Nd ?_|refine Hv fun _h=>?_);conv=>whnf)))
    refine CallE.autoI [1] Qnh (Qod (Qbk seq next cut l :: List.map QbB l) (l.length + 1) hlk.symm (by omega)) plh ?_; conv=>whnf
    ((conv=>whnf);(repeat' ((first|refine Nd ?_|refine Hv fun _h=>?_);conv=>whnf)))
    rw [h0, show QaO seq next cut l = Qbz seq next cut l ++ [⟨6, l.length, seq, 0, QcS (Qbz seq next cut l)⟩] from if_pos h0]
    exact RM.allT (FwT.consC (Fw.slP rfl rfl (by simp [Qbz]) (fun i hi j hj => Qg0 (x := ⟨6, l.length, seq, 0, QcS (Qbz seq next cut l)⟩) hlk.symm (by rw [hlk]; exact hi) hj) (fun i j => Qai _ _)) (FwT.consC (Fw.same rfl) FwT.nil))
 ·refine Br.yes (by simpa using h0) ?_
  ((conv=>whnf);(repeat' ((first|refine Nd ?_|refine Hv fun _h=>?_);conv=>whnf)))
  rw [show QaO seq next cut l = [] from if_neg h0]
  exact RM.i0
theorem Qk0 : HB 76 := hB Tryz.func76
theorem Qcq {α : Type} [Inhabited α] {a b : List α} (hl : a.length = b.length) (h : ∀ j, j < a.length → a.getD j default = b.getD j default) : a = b :=
 List.ext_getElem hl fun i h1 h2 => by
  have := h i h1
  rwa [Qb1 a i h1, Qb1 b i h2] at this
theorem rec_cond {a b : Rec} : ((decide (a.kind = b.kind) && (decide (a.block = b.block) && (decide (a.version = b.version) && (decide (a.move = b.move) && (decide (a.payload = b.payload) && true))))) == false) = !decide (a = b) := by
 obtain ⟨a1, a2, a3, a4, a5⟩ := a
 obtain ⟨b1, b2, b3, b4, b5⟩ := b
 simp
theorem Qjy (b : Bas) (hl : b.ents.length ≤ 1000000) : PS 76 [.a b.cells] (.t [.inl (Qb9 (QaO b.seq b.next b.cut b.ents)), .inl (.int .i64 (QE b.seq b.next b.cut b.ents))]) := QkL b.seq b.next b.cut b.ents hl
theorem Qkl : HB 76 := Qk0
theorem QhU {l : List Ent} {x : Ent} {t : List C} {n i j : Nat} (hn : n = l.length) (hi : i < l.length + 1) (hj : j < 6) : appG (entG l) n (Qaf 6 (C.int .i64 x.block :: C.int .i64 x.kind :: C.int .i64 x.version :: C.int .i64 x.move :: C.int .i64 x.zone :: C.int .i64 x.offset :: t)) i j = entG (l ++ [x]) i j :=
 QdH (f := Ent.cell) hn (fun j hj => by
  match j, hj with
  | 0, _ => rfl
  | 1, _ => rfl
  | 2, _ => rfl
  | 3, _ => rfl
  | 4, _ => rfl
  | 5, _ => rfl) hi hj
def QbG (l : List Rec) (k : Nat) : List Ent := ((l.drop 1).take k).map entD
theorem Qmz {l : List Rec} {k : Nat} (hk : k + 1 < l.length) : QbG l (k + 1) = QbG l k ++ [entD (l.getD (k + 1) default)] := by
 unfold QbG
 have hd : k < (l.drop 1).length := by rw [List.length_drop]; omega
 rw [Q1 (l.drop 1) hd, List.map_append]
 have : (l.drop 1).getD k default = l.getD (k + 1) default := by
  simp only [List.getD, List.getElem?_drop]
  rw [Nat.add_comm]
 rw [this]
 rfl
theorem Qd3 {l : List Rec} {k : Nat} (hk : k + 1 ≤ l.length) : (QbG l k).length = k := by
 unfold QbG
 rw [List.length_map, List.length_take, List.length_drop]
 omega
theorem Qju (seq next cut : Int) (l : List Ent) : (QaO seq next cut l).length ≤ l.length + 2 := by
 unfold QaO Qbz
 split <;> simp
theorem Qko (l : List Rec) : (Qag l).ents.length ≤ l.length := by
 unfold Qag
 split
 ·show ((midL l).map entD).length ≤ _
  unfold midL
  rw [List.length_map, List.length_take]
  rw [List.length_drop]
  omega
 ·exact Nat.zero_le _
theorem whole_cond {e m : Int} {L : List Ent} : (bif (bif e != 0 then true else decide ((L.length : Int) > m)) then true else bif decide ((L.length : Int) > 0) then decide ((L.getD ((L.length : Int) - 1).toNat default).block ≥ m) else false) = true ↔ ¬ (e = 0 ∧ (L.length : Int) ≤ m ∧ (0 < L.length → (L.getD (L.length - 1) default).block < m)) := by
 rw [show ((L.length : Int) - 1).toNat = L.length - 1 by omega]
 generalize (L.getD (L.length - 1) default).block = b
 generalize L.length = n
 by_cases h1 : e = 0 <;> by_cases h2 : (n : Int) ≤ m <;> by_cases h3 : 0 < n <;> by_cases h4 : b < m <;> simp [h1, h2, h3, h4, Bool.cond_eq_ite] <;> omega
end Go.Proofs
end
