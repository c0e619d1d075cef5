/- Contracts, lemmas; no condition. -/
import Derived.Test.YtkelkepdcfogaaaGreatA27D
import Derived.LoopN
import Derived.Test.YtkelkepdcfogaaaGreatA26D
import Derived.Shelf.GgSortFunc.InsertionK
set_option linter.all false
section
namespace Go.Am
theorem Ext.wkR {ρ : Nat → Nat} {H0 H H' : List O} {μ0 μ : Nat → Value} (h : Ext H0 μ0 H μ) (k : HWk ρ H H') (hρ : ∀ i, i < H0.length → ρ i = i) (hn : H0.length ≤ H'.length) : Ext H0 μ0 H' (fun i => μ (ρ i)) := by
 refine ⟨fun id cs hc => ?_, fun id e es n g hc => ?_, fun id sh z va ks val hc => ?_⟩
 ·have hl := Qk hc
  obtain ⟨⟨cs', h1⟩, h2⟩ := h.1 id cs hc
  have e := hρ id hl
  exact ⟨k.kind_vr (b := id) (by omega) (by rw [e]; exact h1), by show μ (ρ id) = _; rw [e]; exact h2⟩
 ·have hl := Qk hc
  obtain ⟨n', g', h1, h2, h3⟩ := h.2.1 id e es n g hc
  have e := hρ id hl
  obtain ⟨g'', h4⟩ := k.kind_arr (b := id) (by omega) (by rw [e]; exact h1)
  exact ⟨n', g'', h4, h2, by show n' = n → μ (ρ id) = _; rw [e]; exact h3⟩
 ·have hl := Qk hc
  obtain ⟨⟨ks', val', h1⟩, h2⟩ := h.2.2 id sh z va ks val hc
  have e := hρ id hl
  exact ⟨k.kind_mp (b := id) (by omega) (by rw [e]; exact h1), by show μ (ρ id) = _; rw [e]; exact h2⟩
theorem Mv.renW {X : Cx} {ts ts' : Ts} {H H' : List O} (rs : List Nat) (hr : rs.Nodup) (hp : ∀ i, i < X.n0 → rho rs i = i) (h0 : X.n0 ≤ H'.length) (h : WR (rho rs) H'.length H rs H') (t : WT (rho rs) H'.length ts ts') : Mv X ts H ts' H' := by
 have hk : HWk (rho rs) H H' := (Fr.ofW hr h).wk
 intro K F0 H0 μ0 F μ a w hs
 exact ⟨F, fun i => μ (rho rs i), hs.le, hs.ext.wkR hk (fun i hi => hp i (Nat.lt_of_lt_of_le hi hs.n0)) (Nat.le_trans hs.n0 h0), hs.hs.wk hk, hs.tp.wk hk t.out, hs.sz, hs.df, hs.n0⟩
theorem CallG.keepQ {P : Program} {g : Bool} {f : FuncId} {args args' : List S} {H Hc : List O} {s0 : S} {k : S → List O → Prop} (rs : List Nat) (hb : HasBody P f) (hc : CSpec P f args' Hc fun s H' => s = s0 ∧ H' = Hc)
  (h : WR (rho rs) Hc.length H rs Hc) (ha : WB (rho rs) Hc.length args args') (hk : k s0 H) (hp : plug rs H Hc = H := by rfl) (hs : reS (sg rs H.length) s0 = s0 := by rfl) (hr : rs.Nodup := by decide) (hd : QbU Hc = true := by exact rfl) : CallG P g f args H k :=
 CallG.mk s0 (fun _ => ⟨hb, CSpec.frame hc rs (Fr.ofW hr h) (Qbg hd) ha.out fun s Hc' hq => by
  obtain ⟨rfl, rfl⟩ := hq
  exact ⟨hs, hp⟩⟩) hk
noncomputable def Qv3 (X : Cx) (c : Code) (k : Kp) (n : Nat) : Ts → List O → Prop :=
 Nat.rec (motive := fun _ => Ts → List O → Prop) (fun _ _ => False) (fun _ ih ts H => vc X c ts H fun e ts' H' => match e with
  | .normal => ih ts' H'
  | .exit id => k (.exit id) ts' H'
  | .ret => k .ret ts' H') n
theorem Lp.roll {X : Cx} (hΓ : Qo X.P X.Γ) {c : Code} {ts : Ts} {H : List O} {k : Kp} (n : Nat) (h : Qv3 X c k n ts H) : Lp X c ts H k := by
 refine ⟨?_⟩
 intro K F0 H0 μ0 F μ a w hs
 refine wp_loop_rounds n ?_
 induction n generalizing ts H F μ a w with
 | zero => exact h.elim
 | succ n ih =>
  rw [rounds_succ]
  refine wp_mono (QcZ hΓ c (show vc X c ts H _ from h) K F0 H0 μ0 F μ a w hs) ?_
  rintro e a' w' ⟨ts', H', F', μ', hs', he⟩
  cases e with
  | normal => exact ih he F' μ' a' w' hs'
  | exit id => exact ⟨ts', H', F', μ', hs', he⟩
  | ret => exact ⟨ts', H', F', μ', hs', he⟩
  | goto l => exact he.elim
  | panic ch => exact he.elim
  | outgrown => exact he.elim
theorem RM.nilO {n0 : Nat} {H : List O} (e es : Nat) (g : Nat → Nat → C) : RM n0 (.c .nils) H (.c (.sl H.length es 0 0 false)) (H ++ [.arr e es 0 g]) := by
 refine ⟨fun K F μ w v hw hs => ?_⟩
 have hE := Ext.push H μ (.arr e es 0 g) (.slice none 0 0)
 have hw' : HSat K F (H ++ [.arr e es 0 g]) (upd μ H.length (.slice none 0 0)) w := hw.push _ _ ⟨rfl, rfl, rfl, Nat.le_refl _, fun _ _ _ => rfl⟩ (fun b hb => by cases hb) (by
  refine ⟨[], ?_, Nat.zero_le _, fun i hi => by omega, Sp.none (by simp [upd, blk])⟩
  simp only [upd, if_true]
  exact World.ownsRow_nil w 0 e es)
 have hv : v = .slice none 0 0 := hs
 refine ⟨F, _, Mem.le_refl F, hw', ?_, fun H0 μ0 _ he => he.trans hE⟩
 rw [hv]
 exact ⟨rfl, e, 0, g, QM _ _, Nat.le_refl _, Nat.le_refl _, fun _ => ⟨none, 0, by simp [upd], rfl, fun e => by cases e⟩⟩
theorem PSpec.ofO {P : Program} {f : FuncId} {args : List S} {e es n : Nat} {g : Nat → Nat → C} (h : CSpec P f args [] fun s H => s = .c (.sl 0 es n n false) ∧ H = [.arr e es n g]) (him : ∀ i, i < n → ∀ j, j < es → (g i j).imm = true) :
  PSpec P f args (.c (.isl es n g false)) := by
 refine PSpec.rm ?_
 intro K F μ w vs hw hA
 refine (h K F μ w vs hw hA).mono ?_
 rintro x w' ⟨v, F', μ', s, H', h0, h1, h2, h3, h4, rfl, rfl⟩
 refine ⟨v, F', μ', _, _, h0, h1, h2, h3, h4, ?_⟩
 refine RM.fz 0 rfl (Nat.zero_le _) him ?_
 refine RM.wkW ?_ ?_ (Nat.zero_le _)
 ·exact WH.nil
 ·exact WS.c (WC.fz rfl rfl (fun _ _ _ _ => leF.refl) (fun e => by cases e))
theorem WC.reI {ρ : Nat → Nat} {n : Nat} {σ : Nat → Nat} {c : C} (h : c.imm = true) : WC ρ n (reC σ c) c := by
 cases c with
 | ptr => cases h
 | ep => cases h
 | sl => cases h
 | mpr => cases h
 | fn f m g =>
  have : m = 0 := Nat.eq_of_beq_eq_true h
  exact ⟨⟨rfl, rfl, fun j hj => by omega⟩⟩
 | _ => exact WC.imm rfl
theorem WC.fzI {ρ : Nat → Nat} {n : Nat} {id m : Nat} {gg : Nat → Nat → C} {c : C} (h : c.imm = true) : WC ρ n (fzC id m gg c) c := by
 cases c with
 | ptr => cases h
 | ep => cases h
 | sl => cases h
 | mpr => cases h
 | fn f m g =>
  have : m = 0 := Nat.eq_of_beq_eq_true h
  exact ⟨⟨rfl, rfl, fun j hj => by omega⟩⟩
 | _ => exact WC.imm rfl
theorem leF.fzI {id m : Nat} {gg : Nat → Nat → C} {c : C} (h : c.imm = true) : leF (fzC id m gg c) c := by
 cases c with
 | ptr => cases h
 | ep => cases h
 | sl => cases h
 | mpr => cases h
 | fn f m g =>
  have : m = 0 := Nat.eq_of_beq_eq_true h
  subst this
  intro F v hv
  obtain ⟨cs, h1, h2, h3⟩ := hv
  exact ⟨cs, h1, h2, fun j hj => absurd hj (Nat.not_lt_zero _)⟩
 | _ => exact leF.refl
theorem Bw.fn {H : List O} {f : Fn} {m : Nat} {g g' : Nat → C} (h : ∀ j, j < m → Bw H (g j) (g' j)) : Bw H (.fn f m g) (.fn f m g') := by
 intro K F μ w v hw hv
 obtain ⟨cs, h1, h2, h3⟩ := hv
 refine ⟨cs, h1, h2, fun j hj => ?_⟩
 obtain ⟨x, x1, x2⟩ := h3 j hj
 exact ⟨x, x1, h j hj K F μ w x hw x2⟩
theorem WC.fnI {ρ : Nat → Nat} {n : Nat} {f : Fn} {m : Nat} {g : Nat → C} (h : ∀ j, j < m → (g j).imm = true) : WC ρ n (.fn f m g) (.fn f m g) := ⟨⟨rfl, rfl, fun j hj => wkC.imm (h j hj)⟩⟩
theorem BwL.same {H : List O} : ∀ {x : List C}, x.all C.imm = true → BwL H x x
 | [], _ => trivial
 | c :: r, h => by
  simp only [List.all_cons, Bool.and_eq_true] at h
  exact ⟨Bw.same h.1, BwL.same h.2⟩
theorem Bw.ptr1 {H : List O} {id : Nat} {c : C} (hid : getL H id = some (.vr [c])) (hc : c.imm = true) : Bw H (.ptr id 0) (.ip 1 fun _ => c) := Bw.ptr hid fun j hj => by
 have : j = 0 := by omega
 subst this
 exact ⟨c, rfl, Bw.same hc⟩
theorem Bw.fn2 {H : List O} {f : Fn} {g g' : Nat → C} (h0 : Bw H (g 0) (g' 0)) (h1 : Bw H (g 1) (g' 1)) : Bw H (.fn f 2 g) (.fn f 2 g') := Bw.fn fun j hj => by
 match j, hj with
 | 0, _ => exact h0
 | 1, _ => exact h1
end Go.Am
end

section
namespace Go.Am
open Classical in
noncomputable def ownM (F : Mem) (H : List O) (μ : Nat → Value) (w : World) : Mem := fun b => if ∃ id, QD H μ id b then w.heap[b]? else F b
theorem QpO {K : Keep} {F : Mem} {H : List O} {μ : Nat → Value} {w : World} (hw : HSat K F H μ w) : F.le (ownM F H μ w) := by
 intro b o hb
 unfold ownM
 split
 ·exact hw.fr b o hb
 ·exact hb
theorem Qmv {F : Mem} {H : List O} {μ : Nat → Value} {w : World} {id b : Nat} (h : QD H μ id b) : ownM F H μ w b = w.heap[b]? := by
 unfold ownM
 rw [if_pos ⟨id, h⟩]
theorem Quy {K : Keep} {F : Mem} {H : List O} {μ : Nat → Value} {w : World} (hw : HSat K F H μ w) (μ' : Nat → Value) : HSat K (ownM F H μ w) [] μ' w := by
 refine ⟨hw.os, hw.tape, hw.output, fun b o hb => ?_, hw.kp, fun id o ho => by simp [getL] at ho, fun id b ⟨⟨o, ho, _⟩, _⟩ => by simp [getL] at ho, fun id id' b ⟨⟨o, ho, _⟩, _⟩ => by simp [getL] at ho, fun b o hb => ?_⟩
 ·unfold ownM at hb
  split at hb
  ·exact hb
  ·exact hw.fr b o hb
 ·unfold ownM at hb
  split at hb
  ·rename_i h
   obtain ⟨id, hid⟩ := h
   exact (hw.sp id b hid).2
  ·exact hw.dj b o hb
def Fw (H : List O) (c c' : C) : Prop := ∀ K F μ w v, HSat K F H μ w → RepC F H μ c v → RepF (ownM F H μ w) c' v
theorem Fw.imm {H : List O} {c c' : C} (h : c.imm = true) (h' : c'.imm = true) (hw : wkC idN 0 c c') : Fw H c c' := by
 intro K F μ w v hs hv
 have h1 : RepC F [] μ c v := immC h hv
 have h2 := QfD HWk.nil c c' hw v h1
 exact (Qce h' h2).mono (QpO hs)
theorem Fw.same {H : List O} {c : C} (h : c.imm = true) : Fw H c c := Fw.imm h h (wkC.imm h)
theorem Fw.leF {H : List O} {c c' : C} (h : c.imm = true) (hl : Am.leF c c') : Fw H c c' := by
 intro K F μ w v hs hv
 exact hl _ _ (Fw.same h K F μ w v hs hv)
theorem Fw.sl {H : List O} {id es l t e n : Nat} {x x' : Bool} {g g' : Nat → Nat → C} (hid : getL H id = some (.arr e es n g)) (ht : t = n) (hg : ∀ i, i < l → ∀ j, j < es → Fw H (g i j) (g' i j)) (hx : x' = true → x = true ∧ l = n) :
  Fw H (.sl id es l t x) (.isl es l g' x') := by
 subst ht
 intro K F μ w v hw hv
 obtain ⟨h0, e', n', g'', h1, h2, h3, h4⟩ := hv
 rw [hid] at h1
 cases h1
 obtain ⟨a', cap, q1, q2, q3⟩ := h4 rfl
 obtain ⟨xs, ⟨r1, r2⟩, r3, r4, r5⟩ := hw.ob id _ hid
 rcases r2 with ⟨s1, s2⟩ | ⟨b, cap', cur, s1, _, s3, s4, s5, s6, s7⟩
 ·rw [q1] at s1
  cases s1
  exact ⟨none, 0, q2, by omega, by omega, fun _ => by omega, fun _ => rfl, .inl (by omega)⟩
 ·have ho : QD H μ id b := ⟨⟨_, hid, by simp⟩, by rw [s1]; rfl⟩
  rw [q1] at s1
  cases s1
  refine ⟨_, _, q2, by omega, by omega, fun q => ?_, fun q => (by cases q), .inr ⟨b, 0, rfl, fun i hi j hj => ?_⟩⟩
  ·obtain ⟨hx1, hx2⟩ := hx q
   rw [q3 hx1, hx2]
  ·obtain ⟨y, y1, y2⟩ := r4 i (by omega) j hj
   have hlt : i * es + j < t * es := Nat.lt_of_lt_of_le (show i * es + j < (i + 1) * es by rw [Nat.add_mul]; omega) (Nat.mul_le_mul_right es (by omega))
   refine ⟨y, ?_, hg i hi j hj K F μ w y hw y2⟩
   simp only [Mem.cell, Qmv ho, s3]
   simp only [Nat.zero_add]
   rw [← s7] at y1
   rw [List.getElem?_take_of_lt (by simpa using hlt)] at y1
   simpa using y1
theorem Fw.ptr {H : List O} {id off n : Nat} {cs : List C} {g : Nat → C} (hid : getL H id = some (.vr cs)) (hg : ∀ j, j < n → ∃ c, getL cs (off + j) = some c ∧ Fw H c (g j)) : Fw H (.ptr id off) (.ip n g) := by
 intro K F μ w v hw hv
 obtain ⟨_, b, h2, h3⟩ := hv
 obtain ⟨b', c, T, q1, q2, q3⟩ := hw.ob id _ hid
 have ho : QD H μ id b' := ⟨⟨_, hid, by simp⟩, by rw [q1]; rfl⟩
 rw [h2] at q1
 cases q1
 refine ⟨b, off, h3, fun j hj => ?_⟩
 obtain ⟨x, x1, x2⟩ := hg j hj
 obtain ⟨u, u1, u2⟩ := q3.2 _ x x1
 refine ⟨u, ?_, x2 K F μ w u hw u2⟩
 simp only [Mem.cell, Qmv ho, q2]
 exact u1
theorem Fw.slP {H : List O} {id es l l' t e n : Nat} {x : Bool} {g g' : Nat → Nat → C} (hid : getL H id = some (.arr e es n g)) (ht : t = n) (hl : l = l') (hg : ∀ i, i < l → ∀ j, j < es → g i j = g' i j) (hp : ∀ i j, (g' i j).imm = true) :
  Fw H (.sl id es l t x) (.isl es l' g' false) := by
 subst hl
 exact Fw.sl hid ht (fun i hi j hj => by rw [hg i hi j hj]; exact Fw.same (hp i j)) (fun e => by cases e)
def FwL (H : List O) : List C → List C → Prop
 | [], [] => True
 | c :: r, c' :: r' => Fw H c c' ∧ FwL H r r'
 | _, _ => False
theorem Qpt {H : List O} : ∀ {xs ys : List C}, FwL H xs ys → xs.length = ys.length ∧ ∀ (j : Nat) x y, getL xs j = some x → getL ys j = some y → Fw H x y
 | [], [], _ => ⟨rfl, fun j x y h => by simp [getL] at h⟩
 | x :: r, y :: r', h => by
  obtain ⟨h1, h2⟩ := Qpt h.2
  refine ⟨by simp [h1], fun j a b ha hb => ?_⟩
  cases j with
  | zero => simp only [getL, Option.some.injEq] at ha hb; subst ha; subst hb; exact h.1
  | succ j => simp only [getL] at ha hb; exact h2 j a b ha hb
 | [], _ :: _, h => h.elim
 | _ :: _, [], h => h.elim
theorem FwL.nil {H : List O} : FwL H [] [] := trivial
theorem FwL.cons {H : List O} {s s' : C} {r r' : List C} (h : Fw H s s') (k : FwL H r r') : FwL H (s :: r) (s' :: r') := ⟨h, k⟩
theorem FwL.ok {H : List O} {K : Keep} {F : Mem} {μ : Nat → Value} {w : World} (hw : HSat K F H μ w) {xs ys : List C} (h : FwL H xs ys) {cs : Array Value} (h2 : RepL F H μ xs cs) : RepL (ownM F H μ w) [] μ ys cs := by
 obtain ⟨k1, k2⟩ := Qpt h
 refine ⟨h2.1.trans k1, fun j y hy => ?_⟩
 have hj := Qk hy
 have hx : getL xs j = some (xs[j]'(by omega)) := by rw [Qd]; simp
 obtain ⟨v, v1, v2⟩ := h2.2 j _ hx
 exact ⟨v, v1, RepF.toC _ _ y v (k2 j _ y hx hy K F μ w v hw v2)⟩
def FwT (H : List O) : List (C ⊕ List C) → List (C ⊕ List C) → Prop
 | [], [] => True
 | .inl x :: r, .inl y :: r' => Fw H x y ∧ FwT H r r'
 | .inr x :: r, .inr y :: r' => FwL H x y ∧ FwT H r r'
 | _, _ => False
theorem FwT.nil {H : List O} : FwT H [] [] := trivial
theorem FwT.consC {H : List O} {x y : C} {r r' : List (C ⊕ List C)} (h : Fw H x y) (k : FwT H r r') : FwT H (.inl x :: r) (.inl y :: r') := ⟨h, k⟩
theorem FwT.consL {H : List O} {x y : List C} {r r' : List (C ⊕ List C)} (h : FwL H x y) (k : FwT H r r') : FwT H (.inr x :: r) (.inr y :: r') := ⟨h, k⟩
theorem Qj2 {H : List O} {K : Keep} {F : Mem} {μ : Nat → Value} {w : World} (hw : HSat K F H μ w) : ∀ {xs ys : List (C ⊕ List C)}, FwT H xs ys → xs.length = ys.length ∧ ∀ (j : Nat) x y, getL xs j = some x → getL ys j = some y → ∀ v, RepE F H μ x v → RepE (ownM F H μ w) [] μ y v
 | [], [], _ => ⟨rfl, fun j x y h => by simp [getL] at h⟩
 | .inl x :: r, .inl y :: r', h => by
  obtain ⟨h1, h2⟩ := Qj2 hw h.2
  refine ⟨by simp [h1], fun j a b ha hb => ?_⟩
  cases j with
  | zero => simp only [getL, Option.some.injEq] at ha hb; subst ha; subst hb; exact fun v hv => RepF.toC _ _ y v (h.1 K F μ w v hw hv)
  | succ j => simp only [getL] at ha hb; exact h2 j a b ha hb
 | .inr x :: r, .inr y :: r', h => by
  obtain ⟨h1, h2⟩ := Qj2 hw h.2
  refine ⟨by simp [h1], fun j a b ha hb => ?_⟩
  cases j with
  | zero => simp only [getL, Option.some.injEq] at ha hb; subst ha; subst hb; exact fun v ⟨cs, e1, e2⟩ => ⟨cs, e1, h.1.ok hw e2⟩
  | succ j => simp only [getL] at ha hb; exact h2 j a b ha hb
 | [], _ :: _, h => h.elim
 | .inl _ :: _, [], h => h.elim
 | .inr _ :: _, [], h => h.elim
 | .inl _ :: _, .inr _ :: _, h => h.elim
 | .inr _ :: _, .inl _ :: _, h => h.elim
theorem RM.all0 {s s' : S} {H : List O} (h : ∀ K F μ w v, HSat K F H μ w → RepS F H μ s v → RepS (ownM F H μ w) [] μ s' v) : RM 0 s H s' [] := by
 refine ⟨fun K F μ w v hw hs => ⟨ownM F H μ w, μ, QpO hw, Quy hw μ, h K F μ w v hw hs, fun H0 μ0 hl he => ?_⟩⟩
 have : H0 = [] := List.length_eq_zero_iff.1 (by omega)
 subst this
 exact ⟨fun _ _ hc => by simp [getL] at hc, fun _ _ _ _ _ hc => by simp [getL] at hc, fun _ _ _ _ _ _ hc => by simp [getL] at hc⟩
theorem RM.allC {x y : C} {H : List O} (h : Fw H x y) : RM 0 (.c x) H (.c y) [] := RM.all0 fun K F μ w v hw hv => RepF.toC _ _ y v (h K F μ w v hw hv)
theorem RM.allA {x y : List C} {H : List O} (h : FwL H x y) : RM 0 (.a x) H (.a y) [] := RM.all0 fun K F μ w v hw ⟨cs, e1, e2⟩ => ⟨cs, e1, h.ok hw e2⟩
theorem RM.allT {x y : List (C ⊕ List C)} {H : List O} (h : FwT H x y) : RM 0 (.t x) H (.t y) [] := RM.all0 fun K F μ w v hw ⟨vs, e1, e2, e3⟩ => by
 obtain ⟨k1, k2⟩ := Qj2 hw h
 refine ⟨vs, e1, e2.trans k1, fun j y hy => ?_⟩
 have hj := Qk hy
 have hx : getL x j = some (x[j]'(by omega)) := by rw [Qd]; simp
 obtain ⟨u, u1, u2⟩ := e3 j _ hx
 exact ⟨u, u1, k2 j _ y hx hy u u2⟩
end Go.Am
end

section
namespace Go.Am
theorem Qkz {σ : Nat → Nat} {c : C} (h : c.plain = true) : reC σ c = c := by cases c <;> first | rfl | cases h
def O.plainP : O → Prop
 | .arr _ _ _ g => ∀ i j, (g i j).plain = true
 | _ => True
def PlainH (H : List O) : Prop := ∀ o ∈ H, o.plainP
theorem PlainH.nil : PlainH [] := fun o ho => by cases ho
theorem PlainH.vr {cs : List C} {r : List O} (h : PlainH r) : PlainH (.vr cs :: r) := fun o ho => by
 cases ho with
 | head => trivial
 | tail _ ho => exact h o ho
theorem PlainH.mp {sh : KS} {z : List Z} {va : Bool} {ks : List Key} {val : Key → Nat → C} {r : List O} (h : PlainH r) : PlainH (.mp sh z va ks val :: r) := fun o ho => by
 cases ho with
 | head => trivial
 | tail _ ho => exact h o ho
theorem PlainH.dead {r : List O} (h : PlainH r) : PlainH (.dead :: r) := fun o ho => by
 cases ho with
 | head => trivial
 | tail _ ho => exact h o ho
theorem PlainH.arr {e es n : Nat} {g : Nat → Nat → C} {r : List O} (hg : ∀ i j, (g i j).plain = true) (h : PlainH r) : PlainH (.arr e es n g :: r) := fun o ho => by
 cases ho with
 | head => exact hg
 | tail _ ho => exact h o ho
def reOI (σ : Nat → Nat) : O → O
 | .vr cs => .vr (reL σ cs)
 | o => o
theorem QpE {σ : Nat → Nat} {o : O} (h : o.plainP) : reOI σ o = reO σ o := by
 cases o with
 | arr e es n g =>
  simp only [reOI, reO]
  congr 1
  funext i j
  exact (Qkz (h i j)).symm
 | _ => rfl
def QlU (σ : Nat → Nat) : List O → List O
 | [] => []
 | o :: r => reOI σ o :: QlU σ r
def QiD (σ : Nat → Nat) (rs : List Nat) (Hc : List O) : Nat → List O → List O
 | _, [] => []
 | k, o :: r => (match idx rs k with
  | some i => match getL Hc i with
   | some o' => reOI σ o'
   | none => o
  | none => o) :: QiD σ rs Hc (k + 1) r
def QhC (rs : List Nat) (H Hc : List O) : List O :=
 QiD (sg rs H.length) rs Hc 0 H ++ QlU (sg rs H.length) (QhK rs.length Hc)
theorem Qnx {σ : Nat → Nat} : ∀ {l : List O}, PlainH l → QlU σ l = reHL σ l
 | [], _ => rfl
 | o :: r, h => by simp only [QlU, reHL, QpE (h o (List.mem_cons_self ..)), Qnx (l := r) (fun x hx => h x (List.mem_cons_of_mem _ hx))]
theorem Qkb {σ : Nat → Nat} {rs : List Nat} {Hc : List O} (h : PlainH Hc) : ∀ (l : List O) (k : Nat), QiD σ rs Hc k l = QcY σ rs Hc k l
 | [], _ => rfl
 | o :: r, k => by
  simp only [QiD, QcY, Qkb h r (k + 1)]
  congr 1
  cases idx rs k with
  | none => rfl
  | some i =>
   cases hi : getL Hc i with
   | none => simp only [hi]
   | some o' =>
    simp only [hi]
    rw [Qd] at hi
    exact QpE (h o' (List.mem_of_getElem? hi))
theorem QgA {rs : List Nat} {H Hc : List O} (h : PlainH Hc) : QhC rs H Hc = plug rs H Hc := by
 unfold QhC plug
 rw [Qkb h, Qnx (fun o ho => h o (by rw [Qgv] at ho; exact List.mem_of_mem_drop ho))]
theorem plh {H : List O} (h : PlainH H := by repeat' (first | exact PlainH.nil | refine PlainH.vr ?_ | refine PlainH.mp ?_ | refine PlainH.arr (fun i j => ?_) ?_ | exact Qc2 _ _ _)) : PlainH H := h
theorem CallN.autoI {X : Cx} {f : FuncId} {args args' : List S} {dst : Option Tmp} {ts : Ts} {H Hc Hc0 : List O} {s0 : S} {k : Ts → List O → Prop} (rs : List Nat) (hb : HasBody X.P f) (hc : CSpec X.P f args' Hc fun s H' => s = s0 ∧ H' = Hc0) (hp : PlainH Hc0)
  (hk : QaG (QhC rs H Hc0) fun H1 => Q0 (reS (sg rs H.length) s0) fun s' => putK X.nt dst s' ts fun ts' => k ts' H1) (hr : rs.Nodup := by decide) (h : WR (rho rs) Hc.length H rs Hc := by exact wb0)
  (hd : QbU Hc = true := by exact rfl) (ha : WB (rho rs) Hc.length args args' := by exact wb0) : CallN X f args dst ts H k := CallN.frameQ rs hb hc hr h hd ha (by rw [← QgA hp]; exact hk)
theorem CallE.autoI {P : Program} {f : FuncId} {args args' : List S} {H Hc Hc0 : List O} {s0 : S} {k : S → List O → Prop} (rs : List Nat) (hb : HasBody P f) (hc : CSpec P f args' Hc fun s H' => s = s0 ∧ H' = Hc0) (hp : PlainH Hc0)
  (hk : k (reS (sg rs H.length) s0) (QhC rs H Hc0)) (hr : rs.Nodup := by decide) (h : WR (rho rs) Hc.length H rs Hc := by exact wb0)
  (hd : QbU Hc = true := by exact rfl) (ha : WB (rho rs) Hc.length args args' := by exact wb0) (hrs : rs.all (memI args) = true := by exact rfl) : CallE P f args H k := CallE.frameQ rs hb hc hr h hd ha hrs (by rw [← QgA hp]; exact hk)
theorem CallF.autoI {P : Program} {f : FuncId} {args args' : List S} {H Hc Hc0 : List O} {s0 : S} {k : S → List O → Prop} (rs : List Nat) (hb : HasBody P f) (hc : CSpec P f args' Hc fun s H' => s = s0 ∧ H' = Hc0) (hp : PlainH Hc0)
  (hk : k (reS (sg rs H.length) s0) (QhC rs H Hc0)) (hr : rs.Nodup := by decide) (h : WR (rho rs) Hc.length H rs Hc := by exact wb0)
  (hd : QbU Hc = true := by exact rfl) (ha : WB (rho rs) Hc.length args args' := by exact wb0) : CallF P f args H k :=
 ⟨_, _, hb, CSpec.frame hc rs (Fr.ofW hr h) (Qbg hd) ha.out fun s Hc' hq => by
  obtain ⟨rfl, rfl⟩ := hq
  exact ⟨rfl, (QgA hp).symm⟩, hk⟩
end Go.Am
end

section
namespace Go.Am
open Go.Sort Go.Proofs
theorem Qpv {i es j n : Nat} (hi : i < n) (hj : j < es) : i * es + j < n * es := by
 have : (i + 1) * es ≤ n * es := Nat.mul_le_mul_right es hi
 rw [Nat.add_mul] at this
 omega
theorem Qse {i es j : Nat} (hj : j < es) : (i * es + j) / es = i ∧ (i * es + j) % es = j := by
 have h0 : 0 < es := by omega
 constructor
 ·rw [Nat.mul_comm, Nat.mul_add_div h0, Nat.div_eq_of_lt hj]; omega
 ·rw [Nat.mul_comm, Nat.mul_add_mod, Nat.mod_eq_of_lt hj]
end Go.Am
end

section
namespace Go.Am
theorem CallN.exI {X : Cx} {f : FuncId} {args args' : List S} {dst : Option Tmp} {ts : Ts} {H Hc : List O} {ι : Type} {q : ι → Prop} {s0 : ι → S} {Hc0 : ι → List O} {k : Ts → List O → Prop} (rs : List Nat) (hb : HasBody X.P f) (hc : CSpec X.P f args' Hc fun s H' => ∃ i, q i ∧ s = s0 i ∧ H' = Hc0 i) (hp : ∀ i, PlainH (Hc0 i))
  (hk : ∀ i, q i → QaG (QhC rs H (Hc0 i)) fun H1 => Q0 (reS (sg rs H.length) (s0 i)) fun s' => putK X.nt dst s' ts fun ts' => k ts' H1) (hr : rs.Nodup := by decide) (h : WR (rho rs) Hc.length H rs Hc := by exact wb0)
  (hd : QbU Hc = true := by exact rfl) (ha : WB (rho rs) Hc.length args args' := by exact wb0) : CallN X f args dst ts H k :=
 CallN.frame hb hc rs (Fr.ofW hr h) (Qbg hd) ha.out fun s Hc' hq => by
  obtain ⟨i, hi, rfl, rfl⟩ := hq
  exact ⟨_, _, rfl, rfl, by rw [← QgA (hp i)]; exact hk i hi⟩
end Go.Am
end
