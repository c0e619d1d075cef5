/- Contracts and plain lemmas of this seat; no condition. -/
import Derived.Test.YtmollgldghpbkaaGreatSrtA
import Derived.Shelf.SlSortCmp.NoneTotal
set_option linter.unusedSimpArgs false
set_option linter.unusedVariables false
section
open Go Go.Am
namespace Go.Proofs
open Go.Shelf Go.RowKit Go.Lib Go.Sort
set_option maxRecDepth 20000
theorem Qqx (gx : Nat → C) (g : Nat → Nat → C) : CSpec Tryz.prog 150 [.c (.sl 0 6 0 0 false), .c (.fn (.func 151) 0 gx)] [.arr 47 6 0 g] fun s H => s = .t [] ∧ H = [.arr 47 6 0 g] := by
 intro K F μ w vs hw hA
 have h0 : getL [O.arr 47 6 0 g] 0 = some (.arr 47 6 0 g) := rfl
 obtain ⟨v, v1, v2⟩ := hA.2 0 _ rfl
 obtain ⟨u, u1, u2⟩ := hA.2 1 _ rfl
 obtain ⟨_, e', n', g'', y1, y2, y3, y4⟩ := v2
 have en : n' = 0 := by rw [h0] at y1; cases y1; rfl
 obtain ⟨a, cap, z1, z2, -⟩ := y4 en.symm
 have hvs : vs = #[.slice a 0 cap, u] := by
  apply Array.ext_getElem?
  intro j
  match j with
  | 0 => rw [v1, z2]; rfl
  | 1 => rw [u1]; rfl
  | j + 2 => rw [Array.getElem?_eq_none (by rw [hA.1]; simp), Array.getElem?_eq_none (by simp)]
 subst hvs
 have hc := AnyF.slices_SortFunc_none (P := Tryz.prog) Tryz.laySortE a cap u w
 refine Calls.mono hc ?_
 rintro e w' ⟨rfl, rfl⟩
 exact ⟨_, F, μ, .t [], _, rfl, Mem.le_refl F, hw, Ext.refl _ _, ⟨#[], rfl, rfl, fun j x hx => by simp [getL] at hx⟩, rfl, rfl⟩
theorem QqU : HasBody Tryz.prog 150 := hB Tryz.func150
set_option maxHeartbeats 4000000 in
theorem Qtc (m : List (List Ent)) (h : Qu m = true) (hs : ∀ i, (m.getD i default).length ≤ 1000000) (hb : ∀ i, i < m.length → ∀ e ∈ m.getD i default, e.block ≤ 9223372036854775807) : PSpec Tryz.prog 80 [.a [QH m]] (.c (Qaw (allM m))) := by
 refine PSpec.rm ?_
 have hm := Qbp h
 have hfl : m.flatten.length ≤ 8000000 := by
  have := Qcg (m := m) (k := m.length) (Nat.le_refl _) hs
  rw [Qex] at this
  omega
 have hla : (allM m).length = m.flatten.length := (QbO h).2.length_eq
 have hbe : ∀ e ∈ m.flatten, 0 ≤ e.block ∧ e.block ≤ 9223372036854775807 := fun e he => by
  obtain ⟨l, h1, h2⟩ := List.mem_flatten.1 he
  obtain ⟨i, hi, rfl⟩ := List.getElem_of_mem h1
  rw [← Qp _ _ hi] at h2
  have := entOk_iff.1 (Qhh h hi h2).2
  exact ⟨this.2.2.2.2.2.1, hb i hi e h2⟩
 refine ov hΓ Tryz.func80 18 0 [.tmp 2] Tryz.ntmps80 Tryz.results80 ?_
 refine Go0 ?_
 refine CallN.pureA Qk7 (Qlj m (by omega) hs ) ?_
 refine Go0 ?_
 refine CallN.pureA Qiw (Qin m (by omega) hs ) ?_
 refine Go0 ?_
 refine Br.no (by rw [h]; rfl) ?_
 refine Go0 ?_
 refine CallN.autoI [] Qor (Qo8 m hm.2 hs) (by repeat' (first | exact PlainH.nil | refine PlainH.vr ?_ | refine PlainH.mp ?_ | refine PlainH.arr (fun i j => ?_) ?_ | exact Qb _ _ _)) ?_; conv=>whnf
 refine Go0 ?_
 by_cases h0 : m.flatten.length = 0
 ·have hz : m.flatten = [] := List.eq_nil_of_length_eq_zero h0
  have hz2 : allM m = [] := List.eq_nil_of_length_eq_zero (by rw [hla]; exact h0)
  rw [hz]
  refine CallN.autoI [2] QqU (Qqx _ (entG [])) (by repeat' (first | exact PlainH.nil | refine PlainH.vr ?_ | refine PlainH.mp ?_ | refine PlainH.arr (fun i j => ?_) ?_ | exact Qb _ _ _)) ?_; conv=>whnf
  refine Go0 ?_
  rw [hz2]
  exact RM.allC (Fw.slP rfl rfl rfl (fun _ _ _ _ => rfl) (fun _ _ => Qao _ _))
 ·refine CallN.autoI [2] sortE_body (sortE_spec m h m.flatten (List.Perm.refl _) hbe (by omega) (by omega) _) (by repeat' (first | exact PlainH.nil | refine PlainH.vr ?_ | refine PlainH.mp ?_ | refine PlainH.arr (fun i j => ?_) ?_ | exact Qb _ _ _)) ?_; conv=>whnf
  refine Go0 ?_
  exact RM.allC (Fw.slP rfl rfl hla.symm (fun _ _ _ _ => rfl) (fun _ _ => Qao _ _))
theorem QpF {m : List (List Ent)} (h : Qu m = true) (hs : ∀ i, (m.getD i default).length ≤ 100000) (hb : ∀ i, i < m.length → ∀ e ∈ m.getD i default, e.block ≤ 9223372036854775807) : AllS m (allM m) := by
 have hfl : (allM m).length ≤ 1000000 := by
  rw [(QbO h).2.length_eq, List.length_flatten]
  have h8 := Qbp h
  have : ∀ (l : List (List Ent)), (∀ x ∈ l, x.length ≤ 100000) → (l.map List.length).sum ≤ l.length * 100000 := by
   intro l
   induction l with
   | nil => intro _; simp
   | cons x l ih =>
    intro hx
    have h1 := ih (fun y hy => hx y (List.mem_cons_of_mem _ hy))
    have h2 := hx x (List.mem_cons_self ..)
    simp only [List.map_cons, List.sum_cons, List.length_cons]
    omega
  have := this m (fun x hx => by
   obtain ⟨i, hi, rfl⟩ := List.getElem_of_mem hx
   have := hs i
   rw [Qp _ _ hi] at this
   exact this)
  omega
 exact ⟨Qtc m h (fun i => by have := hs i; omega) hb, QiE h, hfl⟩
end Go.Proofs
end

section
open Go Go.Am
namespace Go.Proofs
set_option maxRecDepth 20000
def dice0 : DiceM := ⟨[], 0⟩
theorem QtF : dice0.ok := ⟨Nat.le_refl _, by decide⟩
def fl0 : Req := ⟨0, 4, 0, ByteArray.empty⟩
def s0W : St := QE (Qad dice0)
def s1W : St := (QI s0W 0 fl0).1
def s2W : St := (Qn true s1W 0).1
def s3W : St := (QdM s2W 0 0 ByteArray.empty).1
theorem QvM : AllS [[]] [] := by
 have h : Qu [[]] = true := by decide
 have e : allM [[]] = [] := rfl
 have := QpF h (fun i => by
  match i with
  | 0 => exact Nat.zero_le _
  | i + 1 => exact Nat.zero_le _) (fun i hi e he => by
  have : i = 0 := by simpa using hi
  subst this
  cases he)
 rw [e] at this
 exact this
structure Wk24 (s : St) : Prop where
 sm : s.small
 mp : s.map = [[]]
theorem Wk24.all {s : St} (h : Wk24 s) : Qu s.map = true → AllS s.map [] := fun _ => by rw [h.mp]; exact QvM
theorem Wk24.mk' {s : St} (h1 : s.map = [[]]) (h2 : s.dev.zones.length ≤ 100 ∧ s.live.length ≤ 100 ∧ s.pend.length ≤ 100 ∧ s.owner.length ≤ 100 ∧ s.pins.length ≤ 100 ∧ s.rets.length ≤ 100 ∧ s.free.length ≤ 100 ∧ s.rings.length ≤ 100 ∧ s.works.length ≤ 100 ∧ s.sav.ents.length ≤ 100 ∧ s.sav.recs.length ≤ 100 ∧ s.evs.length ≤ 100) (h3 : s.dev.small) (h4 : ∀ i, (s.rings.getD i default).items.length ≤ 1000000) : Wk24 s := by
 refine ⟨⟨h3, by rw [h1]; decide, fun i => by
  rw [h1]
  match i with
  | 0 => exact Nat.zero_le _
  | i + 1 => exact Nat.zero_le _, by omega, by omega, by omega, by omega, by omega, by omega, by omega, h4, by omega, by omega, by omega, by omega⟩, h1⟩
theorem Qt1 {l : List Rng} (h : (l.all fun r => decide (r.items.length ≤ 1000)) = true) : ∀ i, (l.getD i default).items.length ≤ 1000000 := fun i => by
 by_cases c : i < l.length
 ·rw [Qp _ _ c]
  have := List.all_eq_true.1 h _ (List.getElem_mem c)
  have := of_decide_eq_true this
  omega
 ·rw [show l.getD i default = default by simp [List.getD, Nat.le_of_not_lt c]]
  exact Nat.zero_le _
theorem QuX {d : Dev} (h : d.zones.length ≤ 100 ∧ (d.zones.all fun z => decide (z.sectors.length ≤ 1000)) = true) : d.small := ⟨by omega, fun i => by
 by_cases c : i < d.zones.length
 ·rw [Qp _ _ c]
  have := List.all_eq_true.1 h.2 _ (List.getElem_mem c)
  have := of_decide_eq_true this
  omega
 ·rw [show d.zones.getD i default = default by simp [List.getD, Nat.le_of_not_lt c]]
  exact Nat.zero_le _⟩
def wkB (s : St) : Bool := decide (s.map = [[]]) && (decide (s.dev.zones.length ≤ 100 ∧ s.live.length ≤ 100 ∧ s.pend.length ≤ 100 ∧ s.owner.length ≤ 100 ∧ s.pins.length ≤ 100 ∧ s.rets.length ≤ 100 ∧ s.free.length ≤ 100 ∧ s.rings.length ≤ 100 ∧ s.works.length ≤ 100 ∧ s.sav.ents.length ≤ 100 ∧ s.sav.recs.length ≤ 100 ∧ s.evs.length ≤ 100) && ((s.dev.zones.all fun z => decide (z.sectors.length ≤ 1000)) && (s.rings.all fun r => decide (r.items.length ≤ 1000))))
theorem Qjw {s : St} (h : wkB s = true) : Wk24 s := by
 unfold wkB at h
 simp only [Bool.and_eq_true, decide_eq_true_eq] at h
 exact Wk24.mk' h.1 h.2.1 (QuX ⟨h.2.1.1, h.2.2.1⟩) (Qt1 h.2.2.2)
theorem w0 : Wk24 s0W := Qjw (by decide +kernel)
theorem w1 : Wk24 s1W := Qjw (by decide +kernel)
theorem w2 : Wk24 s2W := Qjw (by decide +kernel)
theorem w3 : Wk24 s3W := Qjw (by decide +kernel)
theorem f1 : (QI s0W 0 fl0).2 = 0 := by decide +kernel
theorem f2 : (Qn true s1W 0).2 = true := by decide +kernel
theorem f3 : (Qj3 s2W).length = 1 := by decide +kernel
theorem f4 : (QdM s2W 0 0 ByteArray.empty).2 = true := by decide +kernel
theorem f5 : Qj3 s3W = [] := by decide +kernel
theorem f6 : s3W.evs.length = 2 := by decide +kernel
theorem f7 : Qz s3W = true := by decide +kernel
theorem f8 : cutS s3W = 1 := by decide +kernel
theorem f9 : Qj9 s3W = false := by decide +kernel
set_option maxHeartbeats 4000000 in
theorem Qhf : PSpec Tryz.prog 17 [] (.c (.bool true)) := by
 have hn : PSpec Tryz.prog 19 [.a (Qad dice0).cells] (.t [.inr s0W.cells, .inl (.int .i64 0)]) := QkL (Qad dice0) (QiM dice0)
 have hs := Qox s0W w0.sm [] w0.all 0 fl0
 rw [show QI s0W 0 fl0 = (s1W, 0) by rw [← f1]; rfl] at hs
 have hb := QqI s1W w1.sm [] w1.all 0
 rw [show Qn true s1W 0 = (s2W, true) by rw [← f2]; rfl] at hb
 have ho := QjG s2W w2.sm [] w2.all
 have ha := QoM s2W w2.sm [] w2.all 0 0 ByteArray.empty
 rw [show QdM s2W 0 0 ByteArray.empty = (s3W, true) by rw [← f4]; rfl] at ha
 have hp := QjG s3W w3.sm [] w3.all
 rw [f5] at hp
 have hv := QiW s3W w3.sm [] w3.all
 rw [f7] at hv
 have hc := Qlf s3W w3.sm [] w3.all
 rw [f8] at hc
 have hh := Qsd s3W w3.sm [] w3.all
 rw [f9] at hh
 have e3 := f3
 have e6 := f6
 have esm := w3.sm
 generalize s0W = s0 at *
 generalize s1W = s1 at *
 generalize s2W = s2 at *
 generalize s3W = s3 at *
 refine PSpec.rm ?_
 refine ov hΓ Tryz.func17 76 0 [.tmp 0] Tryz.ntmps17 Tryz.results17 ?_
 refine Go0 ?_
 refine CallN.autoQ [] QkY (Qla [] (Nat.zero_le _)) ?_; conv=>whnf
 refine Go0 ?_
 refine CallN.autoQ [0] QjS (QjZ dice0 QtF) ?_; conv=>whnf
 refine Go0 ?_
 refine CallN.pureA Qkt hn ?_
 refine Go0 ?_
 refine CallN.pureA Qn0 hs ?_
 refine Go0 ?_
 refine CallN.pureA Qqo hb ?_
 refine Go0 ?_
 refine CallN.pureA Qjc ho ?_
 refine Go0 ?_
 refine CallN.pureA Qo1 ha ?_
 refine Go0 ?_
 refine CallG.auto Qjc (fun _ => hp) ?_
 refine Go0 ?_
 refine CallG.auto QiV (fun _ => hv) ?_
 refine Go0 ?_
 refine CallG.auto Qk8 (fun _ => hc) ?_
 refine Go0 ?_
 refine CallG.auto Qsv (fun _ => hh) ?_
 refine Go0 ?_
 refine RM.immW rfl (WS.c (WC.bool ?_))
 rw [e3, e6]
 rfl
theorem Qhl : HasBody Tryz.prog 17 := hB Tryz.func17
end Go.Proofs
end
