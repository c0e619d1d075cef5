/- Contracts, lemmas; no condition. -/
import Derived.Test.YtmollgldghpbkaaGreatF1V
import Derived.Shelf.SlSortCmp.NoneTotal
import Derived.Test.YtmollgldghpbkaaGreatModAV
import Derived.Test.YtmollgldghpbkaaGreatEnvV
set_option linter.all false
section
open Go Go.Am
namespace Go.Proofs
set_option maxRecDepth 20000
open Go.Shelf Go.RowKit Go.Lib Go.Sort
theorem Qqx (gx : Nat → C) (g : Nat → Nat → C) : CS 150 [.c (.sl 0 6 0 0 false), .c (.fn (.func 151) 0 gx)] [.arr 47 6 0 g] fun s H => s = .t [] ∧ H = [.arr 47 6 0 g] := by
 intro K F μ w vs hw hA
 have h0 : getL [O.arr 47 6 0 g] 0 = some (.arr 47 6 0 g) := rfl
 obtain ⟨v, v1, v2⟩ := hA.2 0 _ rfl
 obtain ⟨u, u1, u2⟩ := hA.2 1 _ rfl
 obtain ⟨_, e', n', g'', y1, y2, y3, y4⟩ := v2
 have en : n' = 0 := by rw [h0] at y1; cases y1; rfl
 obtain ⟨a, cap, z1, z2, -⟩ := y4 en.symm
 have hvs : vs = #[.slice a 0 cap, u] := by
  apply Array.ext_getElem?
  intro j
  match j with
  | 0 => rw [v1, z2]; rfl
  | 1 => rw [u1]; rfl
  | j + 2 => rw [Array.getElem?_eq_none (by rw [hA.1]; simp), Array.getElem?_eq_none (by simp)]
 subst hvs
 have hc := AnyF.slices_SortFunc_none (P := Tryz.prog) Tryz.laySortE a cap u w
 refine Calls.mono hc ?_
 rintro e w' ⟨rfl, rfl⟩
 exact ⟨_, F, μ, .t [], _, rfl, Mem.le_refl F, hw, Ext.refl _ _, ⟨#[], rfl, rfl, fun j x hx => by simp [getL] at hx⟩, rfl, rfl⟩
theorem QqU : HB 150 := hB Tryz.func150
set_option maxHeartbeats 4000000 in
theorem Qtc (m : List (List Ent)) (h : Qu m = true) (hs : ∀ i, (m.getD i default).length ≤ 1000000) (hb : ∀ i, i < m.length → ∀ e ∈ m.getD i default, e.block ≤ 9223372036854775807) : PS 80 [.a [QH m]] (.c (Qaw (allM m))) := by
 refine PSpec.rm ?_
 have hm := Qbp h
 have hfl : m.flatten.length ≤ 8000000 := by
  have := Qcg (m := m) (k := m.length) (Nat.le_refl _) hs
  rw [Qex] at this
  omega
 have hla : (allM m).length = m.flatten.length := (QbO h).2.length_eq
 have hbe : ∀ e ∈ m.flatten, 0 ≤ e.block ∧ e.block ≤ 9223372036854775807 := fun e he => by
  obtain ⟨l, h1, h2⟩ := List.mem_flatten.1 he
  obtain ⟨i, hi, rfl⟩ := List.getElem_of_mem h1
  rw [← Qp _ _ hi] at h2
  have := entOk_iff.1 (Qhh h hi h2).2
  exact ⟨this.2.2.2.2.2.1, hb i hi e h2⟩
 refine ov0 hΓ Tryz.func80 18 0 [.tmp 2] Tryz.ntmps80 Tryz.results80 ?_
 refine CallN.pureA Qk7 (Qlj m om hs ) (Go0 ?_)
 refine CallN.pureA Qiw (Qin m om hs ) (Go0 ?_)
 refine Br.no (by rw [h]; rfl) (Go0 ?_)
 refine CallN.autoI [] Qor (Qo8 m hm.2 hs) plh (Go0 ?_)
 by_cases h0 : m.flatten.length = 0
 ·have hz : m.flatten = [] := List.eq_nil_of_length_eq_zero h0
  have hz2 : allM m = [] := List.eq_nil_of_length_eq_zero (by rw [hla]; exact h0)
  rw [hz]
  refine CallN.autoI [2] QqU (Qqx _ (entG [])) plh (Go0 ?_)
  rw [hz2]
  exact RM.allC (Fw.slP rfl rfl rfl (fun _ _ _ _ => rfl) (fun _ _ => Qao _ _))
 ·refine CallN.autoI [2] sortE_body (sortE_spec m h m.flatten (List.Perm.refl _) hbe om om _) plh (Go0 ?_)
  exact RM.allC (Fw.slP rfl rfl hla.symm (fun _ _ _ _ => rfl) (fun _ _ => Qao _ _))
theorem QpF {m : List (List Ent)} (h : Qu m = true) (hs : ∀ i, (m.getD i default).length ≤ 100000) (hb : ∀ i, i < m.length → ∀ e ∈ m.getD i default, e.block ≤ 9223372036854775807) : AllS m (allM m) := by
 have hfl : (allM m).length ≤ 1000000 := by
  rw [(QbO h).2.length_eq, List.length_flatten]
  have h8 := Qbp h
  have : ∀ (l : List (List Ent)), (∀ x ∈ l, x.length ≤ 100000) → (l.map List.length).sum ≤ l.length * 100000 := by
   intro l
   induction l with
   | nil => intro _; simp
   | cons x l ih =>
    intro hx
    have h1 := ih (fun y hy => hx y (List.mem_cons_of_mem _ hy))
    have h2 := hx x (List.mem_cons_self ..)
    simp only [List.map_cons, List.sum_cons, List.length_cons]
    omega
  have := this m (fun x hx => by
   obtain ⟨i, hi, rfl⟩ := List.getElem_of_mem hx
   have := hs i
   rw [Qp _ _ hi] at this
   exact this)
  omega
 exact ⟨Qtc m h (fun i => by have := hs i; omega) hb, QiE h, hfl⟩
end Go.Proofs
end

section
open Go Go.Am
namespace Go.Proofs
set_option maxRecDepth 20000
def dice0 : DiceM := ⟨[], 0⟩
theorem QtF : dice0.ok := ⟨Nat.le_refl _, by decide⟩
def fl0 : Req := ⟨0, 4, 0, ByteArray.empty⟩
def s0W : St := QE (Qad dice0)
def s1W : St := (QI s0W 0 fl0).1
def s2W : St := (Qn true s1W 0).1
def s3W : St := (QdM s2W 0 0 ByteArray.empty).1
theorem QvM : AllS [[]] [] := by
 have h : Qu [[]] = true := by decide
 have e : allM [[]] = [] := rfl
 have := QpF h (fun i => by
  match i with
  | 0 => exact Nat.zero_le _
  | i + 1 => exact Nat.zero_le _) (fun i hi e he => by
  have : i = 0 := by simpa using hi
  subst this
  cases he)
 rw [e] at this
 exact this
structure Wk24 (s : St) : Prop where
 sm : s.small
 mp : s.map = [[]]
theorem Wk24.all {s : St} (h : Wk24 s) : Qu s.map = true → AllS s.map [] := fun _ => by rw [h.mp]; exact QvM
theorem Wk24.mk' {s : St} (h1 : s.map = [[]]) (h2 : s.dev.zones.length ≤ 100 ∧ s.live.length ≤ 100 ∧ s.pend.length ≤ 100 ∧ s.owner.length ≤ 100 ∧ s.pins.length ≤ 100 ∧ s.rets.length ≤ 100 ∧ s.free.length ≤ 100 ∧ s.rings.length ≤ 100 ∧ s.works.length ≤ 100 ∧ s.sav.ents.length ≤ 100 ∧ s.sav.recs.length ≤ 100 ∧ s.evs.length ≤ 100) (h3 : s.dev.small) (h4 : ∀ i, (s.rings.getD i default).items.length ≤ 1000000) : Wk24 s := by
 refine ⟨⟨h3, by rw [h1]; decide, fun i => by
  rw [h1]
  match i with
  | 0 => exact Nat.zero_le _
  | i + 1 => exact Nat.zero_le _, om, om, om, om, om, om, om, h4, om, om, om, om⟩, h1⟩
theorem Qt1 {l : List Rng} (h : (l.all fun r => decide (r.items.length ≤ 1000)) = true) : ∀ i, (l.getD i default).items.length ≤ 1000000 := fun i => by
 by_cases c : i < l.length
 ·rw [Qp _ _ c]
  have := List.all_eq_true.1 h _ (List.getElem_mem c)
  have := of_decide_eq_true this
  omega
 ·rw [show l.getD i default = default by simp [List.getD, Nat.le_of_not_lt c]]
  exact Nat.zero_le _
theorem QuX {d : Dev} (h : d.zones.length ≤ 100 ∧ (d.zones.all fun z => decide (z.sectors.length ≤ 1000)) = true) : d.small := ⟨om, fun i => by
 by_cases c : i < d.zones.length
 ·rw [Qp _ _ c]
  have := List.all_eq_true.1 h.2 _ (List.getElem_mem c)
  have := of_decide_eq_true this
  omega
 ·rw [show d.zones.getD i default = default by simp [List.getD, Nat.le_of_not_lt c]]
  exact Nat.zero_le _⟩
def wkB (s : St) : Bool := decide (s.map = [[]]) && (decide (s.dev.zones.length ≤ 100 ∧ s.live.length ≤ 100 ∧ s.pend.length ≤ 100 ∧ s.owner.length ≤ 100 ∧ s.pins.length ≤ 100 ∧ s.rets.length ≤ 100 ∧ s.free.length ≤ 100 ∧ s.rings.length ≤ 100 ∧ s.works.length ≤ 100 ∧ s.sav.ents.length ≤ 100 ∧ s.sav.recs.length ≤ 100 ∧ s.evs.length ≤ 100) && ((s.dev.zones.all fun z => decide (z.sectors.length ≤ 1000)) && (s.rings.all fun r => decide (r.items.length ≤ 1000))))
theorem Qjw {s : St} (h : wkB s = true) : Wk24 s := by
 unfold wkB at h
 simp only [Bool.and_eq_true, decide_eq_true_eq] at h
 exact Wk24.mk' h.1 h.2.1 (QuX ⟨h.2.1.1, h.2.2.1⟩) (Qt1 h.2.2.2)
theorem w0 : Wk24 s0W := Qjw (by decide +kernel)
theorem w1 : Wk24 s1W := Qjw (by decide +kernel)
theorem w2 : Wk24 s2W := Qjw (by decide +kernel)
theorem w3 : Wk24 s3W := Qjw (by decide +kernel)
theorem f1 : (QI s0W 0 fl0).2 = 0 := by decide +kernel
theorem f2 : (Qn true s1W 0).2 = true := by decide +kernel
theorem f3 : (Qj3 s2W).length = 1 := by decide +kernel
theorem f4 : (QdM s2W 0 0 ByteArray.empty).2 = true := by decide +kernel
theorem f5 : Qj3 s3W = [] := by decide +kernel
theorem f6 : s3W.evs.length = 2 := by decide +kernel
theorem QsV (n : Int) (hn : 0 ≤ n ∧ n < 256) : PS 207 [.c (.int .i64 n), .c (.int .i64 1)] (.t [.inl (.str (putS n 1)), .inl (.int .i64 0)]) := by
 refine PSpec.rm ?_
 refine ov0 hΓ Tryz.func207 44 0 [.tmp 4, .tmp 5] Tryz.ntmps207 Tryz.results207 ?_
 have e : IntKind.i64.wrap (1 * 2 ^ min (IntKind.u64.wrap (IntKind.i64.wrap (8 * 1))).toNat IntKind.i64.bits) = 256 := by decide
 refine Br.no (by rw [e]; simp; omega) (Go0 ?_)
 refine Lp.mk hΓ (ι := Nat) (fun k => [(7, .c (.int .i64 k)), (6, .c (.sl 0 1 1 1 true)), (0, .c (.int .i64 n)), (1, .c (.int .i64 1))]) (fun k => [.arr 5 1 1 (putG n k)]) (fun k => k ≤ 1) (fun k => 1 - k) 0 (Nat.zero_le _) ?_ ?_
 ·exact Mv.mk' 1 rfl ⟨O.wk.arr rfl (fun i hi j hj => by
   have hj : j < 1 := hj
   have : j = 0 := by omega
   subst this
   exact wkC.imm rfl), trivial⟩ ⟨wkS.imm rfl, wkS.c (wkC.sl (by decide) rfl rfl (fun _ => rfl)), wkS.imm rfl, wkS.imm rfl, trivial⟩ (Nat.zero_le _)
 ·intro k hk
  refine Go0 ?_
  refine Br.of (fun h=>Go0 ?_) (fun h=>Go0 ?_)
  ·refine Need.mk (by rw [IntKind.wrap_u64]; omega) (Go0 ?_)
   have w0 := Qa (↑k + 1) om om
   refine ⟨k + 1, om, om, Mv.mk' 1 rfl ⟨O.wk.arr rfl (fun i hi j hj => wkC.of_eq (Qgo _ _ _ _) ?_), trivial⟩ ⟨wkS.c (wkC.int (by rw [w0]; rfl)), wkS.c (wkC.sl (by decide) rfl rfl (fun e => e)), wkS.imm rfl, wkS.imm rfl, trivial⟩ (Nat.zero_le _)⟩
   have hj : j = 0 := by omega
   subst hj
   rw [Qcb]
   simp only [putG, putB, Int.toNat_natCast]
   by_cases c : i = k
   ·subst c
    simp
   ·rw [if_neg (by simp [c])]
    by_cases c2 : i < k
    ·rw [if_pos c2, if_pos om]
    ·rw [if_neg c2, if_neg om]
  ·have : k = 1 := by omega
   subst this
   refine Need.mk (fun i hi => ⟨putB n i, by simp only [putG]; rw [if_pos hi]⟩) (Go0 ?_)
   exact RM.imm rfl (wkS.t ⟨wkC.str (Qgs n 1), wkC.imm rfl, trivial⟩)
theorem Qhk (n : Int) (hn : 0 ≤ n ∧ n < 4294967296) : PS 207 [.c (.int .i64 n), .c (.int .i64 4)] (.t [.inl (.str (putS n 4)), .inl (.int .i64 0)]) := by
 refine PSpec.rm ?_
 refine ov0 hΓ Tryz.func207 44 0 [.tmp 4, .tmp 5] Tryz.ntmps207 Tryz.results207 ?_
 have e : IntKind.i64.wrap (1 * 2 ^ min (IntKind.u64.wrap (IntKind.i64.wrap (8 * 4))).toNat IntKind.i64.bits) = 4294967296 := by decide
 refine Br.no (by rw [e]; simp; omega) (Go0 ?_)
 refine Lp.mk hΓ (ι := Nat) (fun k => [(7, .c (.int .i64 k)), (6, .c (.sl 0 1 4 4 true)), (0, .c (.int .i64 n)), (1, .c (.int .i64 4))]) (fun k => [.arr 5 1 4 (putG n k)]) (fun k => k ≤ 4) (fun k => 4 - k) 0 (Nat.zero_le _) ?_ ?_
 ·exact Mv.mk' 1 rfl ⟨O.wk.arr rfl (fun i hi j hj => by
   have hj : j < 1 := hj
   have : j = 0 := by omega
   subst this
   exact wkC.imm rfl), trivial⟩ ⟨wkS.imm rfl, wkS.c (wkC.sl (by decide) rfl rfl (fun _ => rfl)), wkS.imm rfl, wkS.imm rfl, trivial⟩ (Nat.zero_le _)
 ·intro k hk
  refine Go0 ?_
  refine Br.of (fun h=>Go0 ?_) (fun h=>Go0 ?_)
  ·refine Need.mk (by rw [IntKind.wrap_u64]; omega) (Go0 ?_)
   have w0 := Qa (↑k + 1) om om
   refine ⟨k + 1, om, om, Mv.mk' 1 rfl ⟨O.wk.arr rfl (fun i hi j hj => wkC.of_eq (Qgo _ _ _ _) ?_), trivial⟩ ⟨wkS.c (wkC.int (by rw [w0]; rfl)), wkS.c (wkC.sl (by decide) rfl rfl (fun e => e)), wkS.imm rfl, wkS.imm rfl, trivial⟩ (Nat.zero_le _)⟩
   have hj : j = 0 := by omega
   subst hj
   rw [Qcb]
   simp only [putG, putB, Int.toNat_natCast]
   by_cases c : i = k
   ·subst c
    simp
   ·rw [if_neg (by simp [c])]
    by_cases c2 : i < k
    ·rw [if_pos c2, if_pos om]
    ·rw [if_neg c2, if_neg om]
  ·have : k = 4 := by omega
   subst this
   refine Need.mk (fun i hi => ⟨putB n i, by simp only [putG]; rw [if_pos hi]⟩) (Go0 ?_)
   exact RM.imm rfl (wkS.t ⟨wkC.str (Qgs n 4), wkC.imm rfl, trivial⟩)
theorem QhF (n : Int) (hn : 0 ≤ n ∧ n < 281474976710656) : PS 207 [.c (.int .i64 n), .c (.int .i64 6)] (.t [.inl (.str (putS n 6)), .inl (.int .i64 0)]) := by
 refine PSpec.rm ?_
 refine ov0 hΓ Tryz.func207 44 0 [.tmp 4, .tmp 5] Tryz.ntmps207 Tryz.results207 ?_
 have e : IntKind.i64.wrap (1 * 2 ^ min (IntKind.u64.wrap (IntKind.i64.wrap (8 * 6))).toNat IntKind.i64.bits) = 281474976710656 := by decide
 refine Br.no (by rw [e]; simp; omega) (Go0 ?_)
 refine Lp.mk hΓ (ι := Nat) (fun k => [(7, .c (.int .i64 k)), (6, .c (.sl 0 1 6 6 true)), (0, .c (.int .i64 n)), (1, .c (.int .i64 6))]) (fun k => [.arr 5 1 6 (putG n k)]) (fun k => k ≤ 6) (fun k => 6 - k) 0 (Nat.zero_le _) ?_ ?_
 ·exact Mv.mk' 1 rfl ⟨O.wk.arr rfl (fun i hi j hj => by
   have hj : j < 1 := hj
   have : j = 0 := by omega
   subst this
   exact wkC.imm rfl), trivial⟩ ⟨wkS.imm rfl, wkS.c (wkC.sl (by decide) rfl rfl (fun _ => rfl)), wkS.imm rfl, wkS.imm rfl, trivial⟩ (Nat.zero_le _)
 ·intro k hk
  refine Go0 ?_
  refine Br.of (fun h=>Go0 ?_) (fun h=>Go0 ?_)
  ·refine Need.mk (by rw [IntKind.wrap_u64]; omega) (Go0 ?_)
   have w0 := Qa (↑k + 1) om om
   refine ⟨k + 1, om, om, Mv.mk' 1 rfl ⟨O.wk.arr rfl (fun i hi j hj => wkC.of_eq (Qgo _ _ _ _) ?_), trivial⟩ ⟨wkS.c (wkC.int (by rw [w0]; rfl)), wkS.c (wkC.sl (by decide) rfl rfl (fun e => e)), wkS.imm rfl, wkS.imm rfl, trivial⟩ (Nat.zero_le _)⟩
   have hj : j = 0 := by omega
   subst hj
   rw [Qcb]
   simp only [putG, putB, Int.toNat_natCast]
   by_cases c : i = k
   ·subst c
    simp
   ·rw [if_neg (by simp [c])]
    by_cases c2 : i < k
    ·rw [if_pos c2, if_pos om]
    ·rw [if_neg c2, if_neg om]
  ·have : k = 6 := by omega
   subst this
   refine Need.mk (fun i hi => ⟨putB n i, by simp only [putG]; rw [if_pos hi]⟩) (Go0 ?_)
   exact RM.imm rfl (wkS.t ⟨wkC.str (Qgs n 6), wkC.imm rfl, trivial⟩)
theorem Qfu : HB 207 := hB Tryz.func207
theorem Qhs : HB 207 := Qfu
theorem Qhr : HB 207 := Qfu
theorem QeO (n : Int) (hn : 0 ≤ n ∧ n < 256) : PS 242 [.c (.int .i64 n), .c (.int .i64 1)] (.c (.str (putS n 1))) := by
 refine ov hΓ Tryz.func242 14 0 [.tmp 4] Tryz.ntmps242 Tryz.results242 ?_
 conv=>whnf
 refine CallN.pure Qfu (QsV n hn ) (leA.refl rfl) rfl ?_
 ((conv=>whnf);(repeat' ((first|refine Nd ?_|refine Hv fun _h=>?_);conv=>whnf)))
theorem QeG : HB 242 := hB Tryz.func242
theorem Qg5 (n : Int) (hn : 0 ≤ n ∧ n < 4294967296) : PS 242 [.c (.int .i64 n), .c (.int .i64 4)] (.c (.str (putS n 4))) := by
 refine ov hΓ Tryz.func242 14 0 [.tmp 4] Tryz.ntmps242 Tryz.results242 ?_
 conv=>whnf
 refine CallN.pure Qhs (Qhk n hn ) (leA.refl rfl) rfl ?_
 ((conv=>whnf);(repeat' ((first|refine Nd ?_|refine Hv fun _h=>?_);conv=>whnf)))
theorem QhU : HB 242 := hB Tryz.func242
theorem Qno (n : Int) (hn : 0 ≤ n ∧ n < 281474976710656) : PS 242 [.c (.int .i64 n), .c (.int .i64 6)] (.c (.str (putS n 6))) := by
 refine ov hΓ Tryz.func242 14 0 [.tmp 4] Tryz.ntmps242 Tryz.results242 ?_
 conv=>whnf
 refine CallN.pure Qhr (QhF n hn ) (leA.refl rfl) rfl ?_
 ((conv=>whnf);(repeat' ((first|refine Nd ?_|refine Hv fun _h=>?_);conv=>whnf)))
theorem QmT : HB 242 := hB Tryz.func242
theorem Qug (sum : Int) (b : ByteArray) (hb : b.size ≤ 10000000) : PS 240 [.c (.int .u32 sum), .c (.str b)] (.c (.int .u32 (addU sum b))) := by
 refine ov0 hΓ Tryz.func240 37 0 [.tmp 4] Tryz.ntmps240 Tryz.results240 ?_
 refine Lp.mk hΓ (ι := Nat) (fun k => [(6, .c (.int .i64 k)), (5, .c (.int .u32 (Qms sum b k))), (1, .c (.str b))]) (fun _ => []) (fun k => k ≤ b.size) (fun k => b.size - k) 0 (Nat.zero_le _) ?_ ?_
 ·exact Mv.mk' 0 rfl trivial ⟨wkS.imm rfl, wkS.imm rfl, wkS.imm rfl, trivial⟩ (Nat.zero_le _)
 ·intro k hk
  refine Go1 fun _h=>?_
  refine Br.of (fun h=>Go0 ?_) (fun h=>Go0 ?_)
  ·refine Lp.mk hΓ (ι := Nat) (fun j => [(7, .c (.int .i64 j)), (5, .c (.int .u32 (Qj0 Qsw j (xorU (Qms sum b k) (Qs5 b k))))), (6, .c (.int .i64 k)), (1, .c (.str b))]) (fun _ => []) (fun j => j ≤ 8) (fun j => 8 - j) 0 (Nat.zero_le _) ?_ ?_
   ·exact Mv.mk' 0 rfl trivial ⟨wkS.imm rfl, wkS.imm rfl, wkS.imm rfl, wkS.imm rfl, trivial⟩ (Nat.zero_le _)
   ·intro j hj
    refine Go0 ?_
    have w1 := Qa (↑j + 1) om om
    refine Br.of (fun h2=>Go0 ?_) (fun h2=>Go0 ?_)
    ·refine Br.of (fun h3=>Go0 ?_) (fun h3=>Go0 ?_)
     ·exact ⟨j + 1, om, om, Mv.mk' 0 rfl trivial ⟨wkS.c (wkC.int (by rw [w1]; rfl)), wkS.c (wkC.int (by simp only [Qj0]; exact (if_pos h3).symm)), wkS.imm rfl, wkS.imm rfl, trivial⟩ (Nat.zero_le _)⟩
     ·exact ⟨j + 1, om, om, Mv.mk' 0 rfl trivial ⟨wkS.c (wkC.int (by rw [w1]; rfl)), wkS.c (wkC.int (by simp only [Qj0]; exact (if_neg h3).symm)), wkS.imm rfl, wkS.imm rfl, trivial⟩ (Nat.zero_le _)⟩
    ·have : j = 8 := by omega
     subst this
     have w0 := Qa (↑k + 1) om om
     exact ⟨k + 1, om, om, Mv.mk' 0 rfl trivial ⟨wkS.c (wkC.int (by rw [w0]; rfl)), wkS.imm rfl, wkS.imm rfl, trivial⟩ (Nat.zero_le _)⟩
  ·have : k = b.size := by omega
   subst this
   rfl
theorem Quh : HB 240 := hB Tryz.func240
theorem QgH (b : ByteArray) (hb : b.size ≤ 10000000) : PS 208 [.c (.str b)] (.c (.int .u32 (addU 0 b))) := by
 refine ov hΓ Tryz.func208 5 0 [.tmp 2] Tryz.ntmps208 Tryz.results208 ?_
 conv=>whnf
 refine CallN.pure Quh (Qug 0 b hb ) (leA.refl rfl) rfl ?_
 ((conv=>whnf);(repeat' ((first|refine Nd ?_|refine Hv fun _h=>?_);conv=>whnf)))
theorem QgB : HB 208 := hB Tryz.func208
theorem QsH (b : ByteArray) (hb : b.size ≤ 10000000) : PS 244 [.c (.str b)] (.c (.str (b ++ putS (IntKind.i64.wrap (addU 0 b)) 4))) := by
 refine ov hΓ Tryz.func244 9 0 [.tmp 2] Tryz.ntmps244 Tryz.results244 ?_
 conv=>whnf
 refine CallN.pure QgB (QgH b hb ) (leA.refl rfl) rfl ?_
 conv=>whnf
 have hl := Qky 0 b
 refine CallN.pure QhU (Qg5 _ (by rw [Qa _ om om]; exact hl) ) (leA.refl rfl) rfl ?_
 conv=>whnf
 refine Need.mk (by rw [Qar]; omega) ?_
 ((conv=>whnf);(repeat' ((first|refine Nd ?_|refine Hv fun _h=>?_);conv=>whnf)))
theorem Qr7 : HB 244 := hB Tryz.func244
theorem Quf (b : ByteArray) (hb : b.size ≤ 20) : PS 243 [.c (.str b), .c (.int .i64 20)] (.c (.str (padS b))) := by
 refine PSpec.rm ?_
 refine ov hΓ Tryz.func243 18 0 [.tmp 4] Tryz.ntmps243 Tryz.results243 ?_
 refine Go1 fun _h=>?_
 refine Br.of (fun h=>Go0 ?_) (fun h=>Go1 fun _h=>?_)
 ·have : b.size = 20 := by omega
  exact RM.imm rfl (wkS.c (wkC.str (by simp [padS, this])))
 ·have w0 := Qa (20 - (b.size : Int)) om om
  have n0 : ((20 : Int) - (b.size : Int)).toNat = 20 - b.size := by omega
  rw [w0]
  refine Go0 ?_
  rw [n0]
  refine Need.mk (fun i hi => ⟨0, rfl⟩) ?_
  conv=>whnf
  refine Need.mk (by rw [QeP]; omega) (Go0 ?_)
  refine RM.imm rfl (wkS.c (wkC.str ?_))
  simp only [padS]
  rw [if_pos om]
  rfl
theorem QtT : HB 243 := hB Tryz.func243
theorem Qip (r : Rec) : PS 219 [r.s] (.c (.int .i64 (Qa0 r))) := by
 refine ov0 hΓ Tryz.func219 67 0 [.tmp 2] Tryz.ntmps219 Tryz.results219 ?_
 (first|refine Br.od (fun h1=>?_) (fun h1=>?_)|refine Br.mk (fun h1=>?_) (fun h1=>?_)<;>simp [-List.length_eq_zero_iff,-List.getD_eq_getElem?_getD] at h1)<;>(try simp only [Int.toNat_natCast] at h1)<;>(conv=>whnf)
 ·refine Go0 ?_
  have : decide (1 ≤ r.kind ∧ r.kind ≤ 6) = false := by simp only [decide_eq_false_iff_not]; omega
  simp only [Qa0, this]; rfl
 ·refine Go0 ?_
  have e1 : decide (1 ≤ r.kind ∧ r.kind ≤ 6) = true := by simp only [decide_eq_true_eq]; omega
  (first|refine Br.od (fun h2=>?_) (fun h2=>?_)|refine Br.mk (fun h2=>?_) (fun h2=>?_)<;>simp [-List.length_eq_zero_iff,-List.getD_eq_getElem?_getD] at h2)<;>(try simp only [Int.toNat_natCast] at h2)<;>(conv=>whnf)
  ·refine Go0 ?_
   have : decide (0 ≤ r.block ∧ r.block ≤ 4294967295 ∧ 0 ≤ r.version ∧ r.version ≤ 1099511627776 ∧ 0 ≤ r.move ∧ r.move ≤ 255) = false := by simp only [decide_eq_false_iff_not]; omega
   simp only [Qa0, e1, this]; rfl
  ·refine Go1 fun _h=>?_
   have e2 : decide (0 ≤ r.block ∧ r.block ≤ 4294967295 ∧ 0 ≤ r.version ∧ r.version ≤ 1099511627776 ∧ 0 ≤ r.move ∧ r.move ≤ 255) = true := by simp only [decide_eq_true_eq]; omega
   have hz : r.payload = ⟨#[]⟩ ↔ r.payload.size = 0 := ⟨fun h => by rw [h]; rfl, QuM⟩
   refine Br.of (fun h3=>Go0 ?_) (fun h3=>Go0 ?_)
   ·have : decide (r.payload.size ≤ 20 ∧ (r.kind = 1 → r.payload.size = 16) ∧ (r.kind = 2 → r.payload.size = 0)) = false := by
     simp [Bool.cond_eq_ite] at h3
     simp only [decide_eq_false_iff_not]
     rw [hz] at h3
     omega
    simp only [Qa0, e1, e2, this]; rfl
   ·have : decide (r.payload.size ≤ 20 ∧ (r.kind = 1 → r.payload.size = 16) ∧ (r.kind = 2 → r.payload.size = 0)) = true := by
     simp [Bool.cond_eq_ite] at h3
     simp only [decide_eq_true_eq]
     rw [hz] at h3
     omega
    simp only [Qa0, e1, e2, this]; rfl
theorem Qik : HB 219 := hB Tryz.func219
theorem QfB (r : Rec) : PS 212 [r.s] (.t [.inl (.str (encR r)), .inl (.int .i64 (Qa0 r))]) := by
 refine PSpec.rm ?_
 refine ov hΓ Tryz.func212 39 0 [.tmp 2, .tmp 3] Tryz.ntmps212 Tryz.results212 ?_
 conv=>whnf
 refine CallN.pure Qik (Qip r ) (leA.refl rfl) rfl (Go0 ?_)
 refine Br.of (fun h1=>Go0 ?_) (fun h1=>Go0 ?_)
 ·exact RM.imm rfl (wkS.t ⟨wkC.str (by rw [encR, if_neg h1]; rfl), wkC.imm rfl, trivial⟩)
 ·obtain ⟨hk, hr, hp⟩ := Qfj h1
  refine Dr.mk hΓ hMix (by kernel_rfl) (Go0 ?_)
  have lit2 : ({ data := #[90, 65] } : ByteArray).size = 2 := rfl
  have lit1 : ({ data := #[0] } : ByteArray).size = 1 := rfl
  refine CallP.mk QeG (QeO r.kind om ) (leA.refl rfl) rfl ?_
  conv=>whnf
  refine Need.mk (by simp only [ByteArray.size_append, Qar, Qb6 _ hp, lit2, lit1]; omega) (Go0 ?_)
  refine CallP.mk QeG (QeO r.payload.size om ) (leA.refl rfl) rfl ?_
  conv=>whnf
  refine Need.mk (by simp only [ByteArray.size_append, Qar, Qb6 _ hp, lit2, lit1]; omega) (Go0 ?_)
  refine CallP.mk QhU (Qg5 r.block om ) (leA.refl rfl) rfl ?_
  conv=>whnf
  refine Need.mk (by simp only [ByteArray.size_append, Qar, Qb6 _ hp, lit2, lit1]; omega) (Go0 ?_)
  refine CallP.mk QmT (Qno r.version om ) (leA.refl rfl) rfl ?_
  conv=>whnf
  refine Need.mk (by simp only [ByteArray.size_append, Qar, Qb6 _ hp, lit2, lit1]; omega) (Go0 ?_)
  refine CallP.mk QeG (QeO r.move om ) (leA.refl rfl) rfl ?_
  conv=>whnf
  refine Need.mk (by simp only [ByteArray.size_append, Qar, Qb6 _ hp, lit2, lit1]; omega) (Go0 ?_)
  refine Need.mk (by simp only [ByteArray.size_append, Qar, Qb6 _ hp, lit2, lit1]; omega) (Go0 ?_)
  refine CallP.mk QtT (Quf r.payload hp ) (leA.refl rfl) rfl ?_
  conv=>whnf
  refine Need.mk (by simp only [ByteArray.size_append, Qar, Qb6 _ hp, lit2, lit1]; omega) (Go0 ?_)
  have hb := QjF hp
  refine CallN.pure Qr7 (QsH (Qjn r) om ) (leA.refl rfl) rfl (Go0 ?_)
  exact RM.imm rfl (wkS.t ⟨wkC.str (by rw [encR, if_pos h1]), wkC.int h1.symm, trivial⟩)
theorem QfD : HB 212 := hB Tryz.func212
theorem QbU (r : Rec) : PS 162 [r.s] (.c (.str (encR r))) := by
 refine ov hΓ Tryz.func162 11 0 [.tmp 2] Tryz.ntmps162 Tryz.results162 ?_
 conv=>whnf
 refine CallN.pure QfD (QfB r ) (leA.refl rfl) rfl ?_
 ((conv=>whnf);(repeat' ((first|refine Nd ?_|refine Hv fun _h=>?_);conv=>whnf)))
theorem QbV : HB 162 := hB Tryz.func162
end Go.Proofs
end
