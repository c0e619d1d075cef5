/- Contracts, lemmas; no condition. -/
import Derived.Test.YtmollgldghpbkaaGreatCtHV
import Derived.Test.YtmollgldghpbkaaGreatModCV
import Derived.Test.YtmollgldghpbkaaGreatLay3V
import Derived.Test.YtmollgldghpbkaaGreatAmFV
set_option linter.all false
section
open Go Go.Am
namespace Go.Proofs
set_option maxRecDepth 20000
theorem Qv3 (e : Ent) : PS 224 [.a e.cells] (.c (.bool (Qbl e))) := by
 refine PSpec.rm ?_
 refine ov0 hΓ Tryz.func224 48 0 [.tmp 2] Tryz.ntmps224 Tryz.results224 ?_
 refine RM.immW rfl (WS.c (WC.bool ?_))
 rw [Bool.eq_iff_iff, entOk_iff]
 simp [-List.getD_eq_getElem?_getD]
 omega
theorem Qv2 : HB 224 := hB Tryz.func224
theorem shardOk_iff {l : List Ent} : Q0 l = true ↔ ∀ i, i < l.length → Qbl (l.getD i default) = true ∧ (0 < i → (l.getD (i - 1) default).block < (l.getD i default).block) := by
 unfold Q0; rw [decide_eq_true_eq]
theorem QvW (l : List Ent) (hl : l.length ≤ 1000000) : PS 184 [.c (Qaw l)] (.c (.bool (Q0 l))) := by
 refine PSpec.rm ?_
 refine ov0 hΓ Tryz.func184 34 0 [.tmp 2] Tryz.ntmps184 Tryz.results184 ?_
 refine Lp.mkK hΓ (ι := Nat) [0] (fun i => [(3, .c (.int .i64 i))]) (fun _ => []) (fun k => k ≤ l.length ∧ ∀ i, i < k → Qbl (l.getD i default) = true ∧ (0 < i → (l.getD (i - 1) default).block < (l.getD i default).block)) (fun i => l.length - i) 0 ⟨Nat.zero_le _, fun j hj => absurd hj (Nat.not_lt_zero _)⟩ ?_ ?_
 ·exact Mv.k0
 ·rintro k ⟨hk, hk2⟩
  refine Go1 fun _h=>?_
  refine Br.of (fun h1=>Go0 ?_) (fun h1=>Go0 ?_)
  ·refine Dr.mk hΓ hMix (by kernel_rfl) (Go0 ?_)
   refine CallP.auto Qv2 (Qv3 (l.getD k default) ) (Go0 ?_)
   have hw : IntKind.i64.wrap (↑k - 1) = ↑k - 1 := Qa _ om om
   refine Need.mk (fun h => by rw [hw]; simp only [Bool.and_eq_true, decide_eq_true_eq] at h; omega) ?_
   conv=>whnf
   refine Need.mk (fun h => by rw [hw]; simp only [Bool.and_eq_true, decide_eq_true_eq] at h; omega) (Go0 ?_)
   have hp : (IntKind.i64.wrap (↑k - 1)).toNat = k - 1 := by rw [hw]; omega
   have w0 := Qa (↑k + 1) om om
   rw [hp]
   by_cases e : Qbl (l.getD k default) = true ∧ (0 < k → (l.getD (k - 1) default).block < (l.getD k default).block)
   ·refine Br.no (Bool.eq_false_iff.2 fun ebye => by simp [-List.getD_eq_getElem?_getD, -Int.default_eq_zero, e.1] at ebye <;> grind) ?_; conv=>whnf
    refine Go0 ?_
    refine ⟨k + 1, ⟨om, QD hk2 e⟩, om, ?_⟩
    exact Mv.k0
   ·refine Br.yes (Decidable.byContradiction fun ebye => e (by simp [-List.getD_eq_getElem?_getD, -Int.default_eq_zero] at ebye <;> grind)) ?_; conv=>whnf
    refine Go0 ?_
    rw [Qg (fun q => e (shardOk_iff.1 q k om) : ¬ Q0 l = true)]
    exact RM.i0
  ·rw [shardOk_iff.2 (fun i hi => hk2 i om)]
   exact RM.i0
theorem QvX : HB 184 := hB Tryz.func184
theorem QvY (l : List Ent) (b : Int) (hl : l.length ≤ 1000000) : PS 213 [.c (Qaw l), .c (.int .i64 b)] (.c (.int .i64 (Qy l b))) := by
 refine PSpec.rm ?_
 refine ov0 hΓ Tryz.func213 22 0 [.tmp 4] Tryz.ntmps213 Tryz.results213 ?_
 refine Lp.mkK hΓ (ι := Nat) [0, 1, 4] (fun i => [(5, .c (.int .i64 i))]) (fun _ => []) (fun k => k ≤ l.length ∧ ∀ i, i < k → (l.getD i default).block < b) (fun i => l.length - i) 0 ⟨Nat.zero_le _, fun j hj => absurd hj (Nat.not_lt_zero _)⟩ ?_ ?_
 ·exact Mv.k0
 ·rintro k ⟨hk, hk2⟩
  refine Go1 fun _h=>?_
  have e0 : (k : Int).toNat = k := rfl
  by_cases c : k < l.length ∧ (l.getD k default).block < b
  ·refine Br.yes (by simp [-List.getD_eq_getElem?_getD, c.1, c.2]) ?_
   refine Go0 ?_
   have w0 := Qa (↑k + 1) om om
   refine ⟨k + 1, ⟨om, QD hk2 c.2⟩, om, ?_⟩
   exact Mv.k0
  ·refine Br.no (Bool.eq_false_iff.2 fun e => c (by simpa [-List.getD_eq_getElem?_getD] using e)) ?_
   refine Go0 ?_
   rw [Qv4 hk hk2 om]
   exact RM.i0
theorem QvZ : HB 213 := hB Tryz.func213
theorem hasM_iff {l : List Ent} {b : Int} : hasM l b = true ↔ Qy l b < l.length ∧ (l.getD (Qy l b) default).block = b := by
 unfold hasM; rw [decide_eq_true_eq]
theorem Qv0 (l : List Ent) (b : Int) (hl : l.length ≤ 1000000) : PS 166 [.c (Qaw l), .c (.int .i64 b)] (.t [.inr (QY l b).1.cells, .inl (.bool (QY l b).2)]) := by
 refine PSpec.rm ?_
 refine ov0 hΓ Tryz.func166 32 0 [.cell 4 47, .tmp 5] Tryz.ntmps166 Tryz.results166 ?_
 refine CallN.pureA QvX (QvW l hl ) (Go0 ?_)
 have hple := Qfv l b
 by_cases hv : Q0 l = true
 ·refine Br.no (by rw [hv]; rfl) (Go0 ?_)
  refine CallN.pureA QvZ (QvY l b hl ) (Go1 fun _h=>?_)
  have e0 : ((Qy l b : Nat) : Int).toNat = Qy l b := rfl
  refine Go0 ?_
  by_cases c : hasM l b = true
  ·have c' := hasM_iff.1 c
   refine Br.no (Bool.eq_false_iff.2 fun e => by simp [-List.getD_eq_getElem?_getD, c'.2] at e; omega) ?_
   refine Go0 ?_
   rw [show QY l b = (l.getD (Qy l b) default, true) from if_pos ⟨hv, c⟩]
   exact RM.i0
  ·refine Br.yes (Decidable.byContradiction fun e => c (hasM_iff.2 (by simp [-List.getD_eq_getElem?_getD] at e; omega))) ?_
   refine Go0 ?_
   rw [show QY l b = (default, false) from if_neg (fun e => c e.2)]
   exact RM.i0
 ·refine Br.yes (by rw [Qg hv]; rfl) (Go0 ?_)
  rw [show QY l b = (default, false) from if_neg (fun e => hv e.1)]
  exact RM.i0
theorem Qv1 : HB 166 := hB Tryz.func166
theorem mapOk_iff {m : List (List Ent)} : Qu m = true ↔ (1 ≤ m.length ∧ m.length ≤ 8) ∧ ∀ i, i < m.length → Q0 (m.getD i default) = true ∧ QaD (m.getD i default) m.length i = true := by
 unfold Qu; rw [Bool.and_eq_true, decide_eq_true_eq, decide_eq_true_eq]
theorem inStripe_iff {l : List Ent} {n i : Nat} : QaD l n i = true ↔ ∀ k, k < l.length → (l.getD k default).block.tmod n = i := by
 unfold QaD; rw [decide_eq_true_eq]
set_option maxHeartbeats 4000000 in
theorem Qc4 (m : List (List Ent)) (hm : m.length ≤ 1000000) (hs : ∀ i, (m.getD i default).length ≤ 1000000) : PS 112 [.a [QH m]] (.c (.bool (Qu m))) := by
 refine PSpec.rm ?_
 refine ov hΓ Tryz.func112 50 0 [.tmp 2] Tryz.ntmps112 Tryz.results112 ?_
 refine Go1 fun _h=>?_
 have no : ¬ Qu m = true → Qu m = false := Qg
 by_cases h0 : 1 ≤ m.length ∧ m.length ≤ 8
 ·refine Br.no (Bool.eq_false_iff.2 fun e => by simp at e; omega) (Go0 ?_)
  refine Lp.mkK hΓ (ι := Nat) [1, 3] (fun i => [(4, .c (.int .i64 i))]) (fun _ => [.vr [QH m]]) (fun k => k ≤ m.length ∧ ∀ i, i < k → Q0 (m.getD i default) = true ∧ QaD (m.getD i default) m.length i = true) (fun i => m.length - i) 0 ⟨Nat.zero_le _, fun j hj => absurd hj (Nat.not_lt_zero _)⟩ ?_ ?_
  ·exact Mv.k0
  ·rintro k ⟨hk, hk2⟩
   have hsk := hs k
   refine Go0 ?_
   refine Br.of (fun h1=>?_) (fun h1=>?_)<;>(try simp only [Int.toNat_natCast] at h1)<;>refine Go0 ?_
   ·refine CallN.pureA QvX (QvW (m.getD k default) hsk ) (Go0 ?_)
    by_cases h2 : Q0 (m.getD k default) = true
    ·refine Br.no (by rw [h2]; rfl) (Go0 ?_)
     refine Lp.mkK hΓ (ι := Nat) [1, 3, 4] (fun i => [(5, .c (.int .i64 i))]) (fun _ => [.vr [QH m]]) (fun q => q ≤ (m.getD k default).length ∧ ∀ i, i < q → ((m.getD k default).getD i default).block.tmod m.length = k) (fun i => (m.getD k default).length - i) 0 ⟨Nat.zero_le _, fun j hj => absurd hj (Nat.not_lt_zero _)⟩ ?_ ?_
     ·exact Mv.k0
     ·rintro q ⟨hq, hq2⟩
      refine Go1 fun _h=>?_
      have e0 : (k : Int).toNat = k := rfl
      refine Br.of (fun h3=>?_) (fun h3=>?_)<;>(try simp only [Int.toNat_natCast] at h3)<;>refine Go0 ?_
      ·have w0 := Qa (↑q + 1) om om
       by_cases c : ((m.getD k default).getD q default).block.tmod m.length = k
       ·refine Br.no ((neI).trans (by simp only [Int.toNat_natCast]; rw [decide_eq_true c]; rfl)) (Go0 ?_)
        refine ⟨q + 1, ⟨om, QD hq2 c⟩, om, ?_⟩
        exact Mv.k0
       ·refine Br.yes ((neI).trans (by simp only [Int.toNat_natCast]; rw [decide_eq_false c]; rfl)) (Go0 ?_)
        rw [no (fun z => c (inStripe_iff.1 ((mapOk_iff.1 z).2 k om).2 q om))]
        exact RM.i0
      ·have w0 := Qa (↑k + 1) om om
       refine ⟨k + 1, ⟨om, QD hk2 ⟨h2, inStripe_iff.2 fun i hi => hq2 i om⟩⟩, om, ?_⟩
       exact Mv.k0
    ·refine Br.yes (by rw [Qg h2]; rfl) (Go0 ?_)
     rw [no (fun e => h2 ((mapOk_iff.1 e).2 k om).1)]
     exact RM.i0
   ·rw [mapOk_iff.2 ⟨h0, fun i hi => hk2 i om⟩]
    exact RM.i0
 ·refine Br.yes (by simp; omega) (Go0 ?_)
  rw [no (fun e => h0 (mapOk_iff.1 e).1)]
  exact RM.i0
theorem Qc9 : HB 112 := hB Tryz.func112
theorem QcE (m : List (List Ent)) (b : Int) (hm : m.length ≤ 1000000) : PS 167 [.a [QH m], .c (.int .i64 b)] (.c (.int .i64 (QF m b))) := by
 refine PSpec.rm ?_
 refine ov0 hΓ Tryz.func167 18 0 [.tmp 4] Tryz.ntmps167 Tryz.results167 ?_
 by_cases h : b < 0 ∨ m.length = 0
 ·refine Br.yes (by rcases h with h | h <;> simp [h]) ?_
  refine Go0 ?_
  rw [show QF m b = -1 from if_pos h]
  exact RM.i0
 ·have h1 : ¬ b < 0 := by omega
  have h2 : ¬ (m.length : Int) = 0 := by omega
  refine Br.no (by rw [decide_eq_false h1]; exact decide_eq_false h2) (Go1 fun _h=>?_)
  rw [show QF m b = b.tmod m.length from if_neg h]
  exact RM.i0
theorem QcM : HB 167 := hB Tryz.func167
end Go.Proofs
end

section
open Go Go.Am
namespace Go.Proofs
set_option maxRecDepth 20000
open Go.Shelf Go.RowKit Go.Lib Go.Sort
abbrev EntB := { e : Ent // 0 ≤ e.block ∧ e.block ≤ 9223372036854775807 }
instance : Inhabited EntB := ⟨⟨default, by decide⟩⟩
def encB (x : EntB) : List Value := [.int .i64 x.1.block, .int .i64 x.1.kind, .int .i64 x.1.version, .int .i64 x.1.move, .int .i64 x.1.zone, .int .i64 x.1.offset]
def cmpB (x y : EntB) : Int := x.1.block - y.1.block
theorem ltB (x y : EntB) : ltOf cmpB x y = decide (x.1.block < y.1.block) := by
 unfold ltOf cmpB
 exact decide_eq_decide.2 om
theorem swoB : SWO (ltOf cmpB) where
 irrefl x := by rw [ltB]; exact decide_eq_false om
 trans x y z h1 h2 := by rw [ltB, decide_eq_true_eq] at *; omega
 ntrans x y z h1 h2 := by rw [ltB, decide_eq_false_iff_not] at *; omega
set_option maxHeartbeats 1000000 in
theorem closureB (x y : EntB) (W : World) : Calls Tryz.prog 151 #[.agg #[.int .i64 x.1.block, .int .i64 x.1.kind, .int .i64 x.1.version, .int .i64 x.1.move, .int .i64 x.1.zone, .int .i64 x.1.offset], .agg #[.int .i64 y.1.block, .int .i64 y.1.kind, .int .i64 y.1.version, .int .i64 y.1.move, .int .i64 y.1.zone, .int .i64 y.1.offset]] W fun e w' => e = .returned (.int .i64 (cmpB x y)) ∧ ∃ q os', w' = grow (W.drewN q) os' := by
 have hw : IntKind.i64.wrap (x.1.block - y.1.block) = cmpB x y := by
  have h1 := x.2
  have h2 := y.2
  exact Qa _ om om
 generalize cmpB x y = r at hw ⊢
 go_enter Tryz.func151, Tryz.ntmps151
 go_wp2
 go_ret
 exact ⟨rfl, 0, _, by rw [alloc_eq_grow, alloc_eq_grow, grow_grow]; rfl⟩
theorem cmpLaysB (blk off size : Nat) (w : World) : CmpLays Tryz.prog 151 #[] encB 6 cmpB blk off size w :=
 fun _ _ _ _ x y => closureB x y _
theorem encB_get (x : EntB) {j : Nat} (hj : j < 6) (F : Mem) (v : Value) : RepF F (x.1.cell j) v ↔ v = (encB x)[j]! := by
 match j, hj with
 | 0, _ => exact Iff.rfl
 | 1, _ => exact Iff.rfl
 | 2, _ => exact Iff.rfl
 | 3, _ => exact Iff.rfl
 | 4, _ => exact Iff.rfl
 | 5, _ => exact Iff.rfl
def rowB (l : List Ent) (h : ∀ e ∈ l, 0 ≤ e.block ∧ e.block ≤ 9223372036854775807) : Array EntB := (l.attach.map fun e => (⟨e.1, h e.1 e.2⟩ : EntB)).toArray
theorem rowB_size (l : List Ent) (h) : (rowB l h).size = l.length := by simp [rowB]
theorem rowB_get (l : List Ent) (h) {i : Nat} (hi : i < l.length) : ((rowB l h)[i]!).1 = l.getD i default := by
 have : i < (rowB l h).size := by rw [rowB_size]; exact hi
 rw [getElem!_pos (rowB l h) i this, Qp _ _ hi]
 simp [rowB]
theorem rowB_list (l : List Ent) (h) : (rowB l h).toList.map Subtype.val = l := by
 simp [rowB, List.map_map, Function.comp_def]
set_option maxHeartbeats 1000000 in
theorem sortE_spec (m : List (List Ent)) (hm : Qu m = true) (l : List Ent) (hp : l.Perm m.flatten) (hb : ∀ e ∈ l, 0 ≤ e.block ∧ e.block ≤ 9223372036854775807) (hl : 0 < l.length) (hl2 : l.length ≤ 100000000) (gx : Nat → C) :
  CSpec Tryz.prog 150 [.c (.sl 0 6 l.length l.length false), .c (.fn (.func 151) 0 gx)] [.arr 47 6 l.length (entG l)] fun s H => s = .t [] ∧ H = [.arr 47 6 l.length (entG (allM m))] := by
 have hpa := (QbO hm).2
 have hba : ∀ e ∈ allM m, 0 ≤ e.block ∧ e.block ≤ 9223372036854775807 := fun e he => hb e (hp.mem_iff.2 (hpa.mem_iff.1 he))
 have hla : (allM m).length = l.length := (hpa.trans hp.symm).length_eq
 refine CSpec.rowK (α := EntB) (enc := encB) (d := rowB l hb) (d' := rowB (allM m) hba) hl om (rowB_size _ _) ((rowB_size _ _).trans hla) (fun i hi j hj F v hv => ?_) (fun _ _ _ _ => Qao _ _) (fun i hi j hj F => ?_) (fun b cap w hH hblk hnc hcm => ?_)
 ·refine (encB_get (rowB l hb)[i]! hj F v).1 ?_
  rw [rowB_get l hb hi]
  exact hv
 ·have := (encB_get (rowB (allM m) hba)[i]! hj F _).2 rfl
  rw [rowB_get (allM m) hba om] at this
  exact this
 ·have eg : ∀ args w, (callFunc 151 args).run Tryz.prog w = .ok (.enter 151 args) w := enters_of Tryz.func151 (by kernel_rfl) rfl
  have hcon := AnyQ.slices_SortFunc (P := Tryz.prog) Tryz.laySortE 6 Tryz.isAgg47 Tryz.sizeOf47 encB (fun _ => rfl) (fun x v hv => by
   simp [encB] at hv
   rcases hv with rfl | rfl | rfl | rfl | rfl | rfl <;> rfl) cmpB swoB 151 #[] b 0 cap (rowB l hb) w eg (cmpLaysB b 0 _ w) hH hblk (by rw [rowB_size]; omega)
  rw [rowB_size] at hcon
  refine Calls.mono hcon ?_
  rintro ex w' ⟨rfl, d', q, os, h1, h2, rfl⟩
  refine ⟨rfl, q, os, ?_⟩
  congr 1
  have hs : d'.size = l.length := by rw [h1.1, rowB_size]
  have hperm : (d'.toList.map Subtype.val).Perm l := by
   have := h1.2.2
   rw [Array.extract_eq_self_of_le om, Array.extract_eq_self_of_le (by rw [rowB_size]; exact Nat.le_refl _)] at this
   have := this.map Subtype.val
   rwa [rowB_list] at this
  have huniq := Qs6 hm (l := d'.toList.map Subtype.val) (hperm.trans hp) (by
   rw [List.pairwise_map, List.pairwise_iff_getElem]
   intro i j hi hj hij
   have := h2 i j (Nat.zero_le _) hij (by rw [← hs]; simpa using hj)
   rw [ltB, decide_eq_false_iff_not] at this
   rw [getElem!_pos d' j (by simpa using hj), getElem!_pos d' i (by simpa using hi)] at this
   simpa using this)
  have hd : d'.toList = (rowB (allM m) hba).toList := by
   exact (List.map_inj_right (fun a b h => Subtype.ext h)).1 (huniq.trans (rowB_list (allM m) hba).symm)
  exact Array.toList_inj.1 hd
theorem sortE_body : HasBody Tryz.prog 150 := hB Tryz.func150
end Go.Proofs
end

section
open Go Go.Am
namespace Go.Proofs
set_option maxRecDepth 20000
open Go.Shelf Go.RowKit Go.Lib
theorem growE_spec (n : Nat) (hn : n ≤ 10000000) : CSpec Tryz.prog 203 [.c .nils, .c (.int .i64 n)] [] fun s H => s = .c (.sl 0 6 0 0 false) ∧ H = [.arr 47 6 0 (entG [])] := by
 intro K F μ w vs hw hA
 obtain ⟨v, v1, v2⟩ := hA.2 0 _ rfl
 obtain ⟨u, u1, u2⟩ := hA.2 1 _ rfl
 have hvs : vs = #[.slice none 0 0, .int .i64 n] := by
  apply Array.ext_getElem?
  intro j
  match j with
  | 0 => rw [v1, show v = _ from v2]; rfl
  | 1 => rw [u1, show u = _ from u2]; rfl
  | j + 2 => rw [Array.getElem?_eq_none (by rw [hA.1]; simp), Array.getElem?_eq_none (by simp)]
 subst hvs
 obtain ⟨xi, z, i1, i2, i3, i4, i5⟩ := QrO (P := Tryz.prog) (hΓ 47 _ rfl)
 by_cases h0 : n = 0
 ·subst h0
  have hc := Any8.slices_Grow_room (P := Tryz.prog) Tryz.layGrowE none 0 0 0 w om om om om
  refine Calls.mono hc ?_
  rintro e w' ⟨rfl, rfl⟩
  have hE := Ext.push ([] : List O) μ (.arr 47 6 0 (entG [])) (.slice none 0 0)
  refine ⟨_, F, _, .c (.sl 0 6 0 0 false), _, rfl, Mem.le_refl F, hw.push (.arr 47 6 0 (entG [])) (.slice none 0 0) ⟨rfl, rfl, rfl, Nat.le_refl _, fun _ _ _ => rfl⟩ (fun b hb => by cases hb) ?_, hE, ?_, rfl, rfl⟩
  ·exact ⟨[], ⟨rfl, .inl ⟨by simp [upd], rfl⟩⟩, Nat.zero_le _, fun i hi => by omega⟩
  ·exact ⟨rfl, _, 0, _, rfl, Nat.le_refl _, Nat.le_refl _, fun _ => ⟨none, 0, by simp [upd], rfl, fun e => by cases e⟩⟩
 ·have hc := Any8.slices_Grow_grow (P := Tryz.prog) Tryz.layGrowE xi z i1 i4 (by rw [i2]; decide) none 0 0 n [] w om om (by rw [i3]; simp; omega) om (by simp) (fun _ => rfl) (fun a h => by cases h)
  refine Calls.mono hc ?_
  rintro e w' ⟨rfl, hw'⟩
  have hcm : grownCap w (0 + n) 0 47 ≤ maxLen := grownCap_le_maxLen w (0 + n) 0 47 (by unfold maxLen; omega)
  have hge := grownCap_ge w (0 + n) 0 47
  obtain ⟨cs, hcs, hsz⟩ : ∃ cs : Array Value, w' = w.drew.alloc (.cells cs 47) ∧ cs.size = grownCap w (0 + n) 0 47 * 6 := by
   refine ⟨_, hw', ?_⟩
   have i6 : z.cells.size = 6 := i5
   have e1 : grownCap w (0 + n) 0 (Tryz.layGrowE_ren.t 25) = grownCap w (0 + n) 0 47 := rfl
   rw [e1]
   simp only [Array.size_append, size_zeroCells, i6]
   simp at hge ⊢
   omega
  subst hcs
  have hE := Ext.push ([] : List O) μ (.arr 47 6 0 (entG [])) (.slice (some ⟨w.heap.size, 0, none⟩) 0 (grownCap w (0 + n) 0 47))
  have hgr : w.grownBy (w.drew.alloc (.cells cs 47)) none := ⟨rfl, rfl, rfl, by simp, fun k hk _ => Go.heap_alloc_old w.drew _ hk⟩
  refine ⟨_, F, _, .c (.sl 0 6 0 0 false), _, rfl, Mem.le_refl F, hw.push (.arr 47 6 0 (entG [])) (.slice (some ⟨w.heap.size, 0, none⟩) 0 (grownCap w (0 + n) 0 47)) hgr (fun b hb => by cases hb; exact Nat.le_refl _) ?_, hE, ?_, rfl, rfl⟩
  ·exact ⟨[], ⟨rfl, .inr ⟨w.heap.size, _, cs, by simp [upd], Nat.zero_le _, Go.heap_alloc_new w.drew _, Nat.zero_le _, hcm, hsz, by simp⟩⟩, Nat.zero_le _, fun i hi => by omega⟩
  ·exact ⟨rfl, _, 0, _, rfl, Nat.le_refl _, Nat.le_refl _, fun _ => ⟨_, _, by simp [upd]; rfl, rfl, fun e => by cases e⟩⟩
theorem growE_body : HasBody Tryz.prog 203 := hB Tryz.func203
end Go.Proofs
end

section
open Go Go.Am
namespace Go.Proofs
set_option maxRecDepth 20000
def QaN (m : List (List Ent)) (k : Nat) : List Ent := (m.take k).flatten
theorem Qc0 {m : List (List Ent)} {k : Nat} (hk : k < m.length) : QaN m (k + 1) = QaN m k ++ m.getD k default := by
 unfold QaN
 rw [QaJ m hk, List.flatten_append]
 simp
theorem Qex (m : List (List Ent)) : QaN m m.length = m.flatten := by unfold QaN; rw [List.take_length]
theorem Qcg {m : List (List Ent)} : ∀ {k : Nat}, k ≤ m.length → (∀ i, (m.getD i default).length ≤ 1000000) → (QaN m k).length ≤ k * 1000000
 | 0, _, _ => by simp [QaN]
 | k + 1, hk, h => by
  rw [Qc0 om, List.length_append]
  have := Qcg (k := k) om h
  have := h k
  omega
set_option maxHeartbeats 4000000 in
theorem Qo8 (m : List (List Ent)) (hm : m.length ≤ 8) (hs : ∀ i, (m.getD i default).length ≤ 1000000) : CS 149 [.c (QH m)] [] fun s H => s = .c (.sl 0 6 m.flatten.length m.flatten.length false) ∧ H = [.arr 47 6 m.flatten.length (entG m.flatten)] := by
 refine CSpec.rm ?_
 refine ov hΓ Tryz.func149 36 0 [.tmp 2] Tryz.ntmps149 Tryz.results149 ?_
 refine Go1 fun _h=>?_
 refine Lp.mkK hΓ (ι := Nat) [0, 2, 9, 10] (fun i => [(11, .c (.int .i64 i)), (3, .c (.int .i64 (QaN m i).length))]) (fun _ => []) (fun k => k ≤ m.length) (fun i => m.length - i) 0 (Nat.zero_le _) ?_ ?_
 ·exact Mv.k0
 ·intro k hk
  have hsk := hs k
  have hfl := Qcg hk hs
  refine Go0 ?_
  refine Br.of (fun h1=>Go1 fun _h=>?_) (fun h1=>Go0 ?_)
  ·have w0 := Qa (↑k + 1) om om
   have w1 : IntKind.i64.wrap (↑(QaN m k).length + ↑(m.getD k default).length) = ↑(QaN m (k + 1)).length := by
    rw [Qc0 om, List.length_append]
    exact Qa _ om om
   have e0 : (k : Int).toNat = k := rfl
   refine Br.no (decide_eq_false (by rw [e0, w1]; omega)) (Go0 ?_)
   refine ⟨k + 1, om, om, ?_⟩
   exact Mv.k0
  ·have : k = m.length := by omega
   subst this
   have hfa : (QaN m m.length).length ≤ 8000000 := by have := Qcg (k := m.length) (Nat.le_refl _) hs; omega
   refine CallN.autoQ [] growE_body (growE_spec (QaN m m.length).length om) (Go1 fun _h=>?_)
   refine Lp.mkK hΓ (ι := Nat) [2, 25, 26] (fun i => [(27, .c (.int .i64 i)), (6, .c (.sl 0 6 (QaN m i).length (QaN m i).length false))]) (fun i => [.arr 47 6 (QaN m i).length (entG (QaN m i))]) (fun k => k ≤ m.length) (fun i => m.length - i) 0 (Nat.zero_le _) ?_ ?_
   ·refine Mv.k1 ?_
    exact fun i hi => by omega
   ·intro q hq
    have hsq := hs q
    have hfq := Qcg hq hs
    have hsq2 : (m.getD (q : Int).toNat default).length ≤ 1000000 := hs _
    refine Go0 ?_
    refine Br.of (fun h3=>Go0 ?_) (fun h3=>Go0 ?_)
    ·have w2 := Qa (↑q + 1) om om
     have e1 : (q : Int).toNat = q := rfl
     have hlq : (QaN m (q + 1)).length = (QaN m q).length + (m.getD q default).length := by rw [Qc0 om, List.length_append]
     refine ⟨q + 1, om, om, ?_⟩
     refine Mv.k1 ?_
     intro i hi j hj
     rw [Qc0 om]
     exact WC.eq (QtH rfl j) (Qao _ _)
    ·have : q = m.length := by omega
     subst this
     refine ⟨_, _, ?_, rfl, rfl⟩
     rw [Qex]
     exact RM.w0
theorem Qor : HB 149 := hB Tryz.func149
end Go.Proofs
end
