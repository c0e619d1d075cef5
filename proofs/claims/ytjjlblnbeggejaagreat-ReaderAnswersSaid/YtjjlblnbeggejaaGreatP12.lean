/- Contracts, lemmas; no condition. -/
import Derived.Test.YtjjlblnbeggejaaGreatA27
import Derived.LoopN
import Derived.Test.YtjjlblnbeggejaaGreatA26
import Derived.Shelf.GgSortFunc.InsertionK
set_option linter.all false
section
namespace Go.Am
variable {ρ σ : Nat → Nat} {H : List O} {c : C} {f : Fn} {n id m : Nat} {g gg : Nat → Nat → C} {x : Bool}
theorem Ext.wkR {H0 H' : List O} {μ0 μ : Nat → Value} (h : Ext H0 μ0 H μ) (k : HWk ρ H H') (hρ : ∀ i, i < H0.length → ρ i = i) (hn : H0.length ≤ H'.length) : Ext H0 μ0 H' (fun i => μ (ρ i)) := by
 refine ⟨fun id cs hc => ?_, fun id e es n g hc => ?_, fun id sh z va ks val hc => ?_⟩
 ·have hl := Qt hc
  obtain ⟨⟨cs', h1⟩, h2⟩ := h.1 id cs hc
  have e := hρ id hl
  exact ⟨k.kind_vr (b := id) om (by rw [e]; exact h1), by show μ (ρ id) = _; rw [e]; exact h2⟩
 ·have hl := Qt hc
  obtain ⟨n', g', h1, h2, h3⟩ := h.2.1 id e es n g hc
  have e := hρ id hl
  obtain ⟨g'', h4⟩ := k.kind_arr (b := id) om (by rw [e]; exact h1)
  exact ⟨n', g'', h4, h2, by show n' = n → μ (ρ id) = _; rw [e]; exact h3⟩
 ·have hl := Qt hc
  obtain ⟨⟨ks', val', h1⟩, h2⟩ := h.2.2 id sh z va ks val hc
  have e := hρ id hl
  exact ⟨k.kind_mp (b := id) om (by rw [e]; exact h1), by show μ (ρ id) = _; rw [e]; exact h2⟩
noncomputable def Quy (X : Cx) (c : Code) (k : Kp) (n : Nat) : Ts → List O → Prop :=
 Nat.rec (motive := fun _ => Ts → List O → Prop) (fun _ _ => False) (fun _ ih ts H => vc X c ts H fun e ts' H' => match e with
  | .normal => ih ts' H'
  | .exit id => k (.exit id) ts' H'
  | .ret => k .ret ts' H') n
theorem Qw0 {X : Cx} (hΓ : Qw X.P X.Γ) {c : Code} {ts : Ts} {k : Kp} (n : Nat) (h : Quy X c k n ts H) : Lp X c ts H k := by
 refine ⟨?_⟩
 intro K F0 H0 μ0 F μ a w hs
 refine wp_loop_rounds n ?_
 induction n generalizing ts H F μ a w with
 | zero => exact h.elim
 | succ n ih =>
  rw [rounds_succ]
  refine wp_mono (Qdf hΓ c (show vc X c ts H _ from h) K F0 H0 μ0 F μ a w hs) ?_
  rintro e a' w' ⟨ts', H', F', μ', hs', he⟩
  cases e with
  | normal => exact ih he F' μ' a' w' hs'
  | exit id => exact ⟨ts', H', F', μ', hs', he⟩
  | ret => exact ⟨ts', H', F', μ', hs', he⟩
  | goto l => exact he.elim
  | panic ch => exact he.elim
  | outgrown => exact he.elim
theorem QvV {n0 : Nat} (e es : Nat) (g : Nat → Nat → C) : RM n0 (.c .nils) H (.c (.sl H.length es 0 0 false)) (H ++ [.arr e es 0 g]) := by
 refine ⟨fun K F μ w v hw hs => ?_⟩
 have hE := Ext.push H μ (.arr e es 0 g) (.slice none 0 0)
 have hw' : HSat K F (H ++ [.arr e es 0 g]) (upd μ H.length (.slice none 0 0)) w := hw.push _ _ ⟨rfl, rfl, rfl, QxB _, fun _ _ _ => rfl⟩ (fun b hb => by cases hb) (by
  refine ⟨[], ?_, Qxx _, fun i hi => by omega, Sp.none (by simp [upd, blk])⟩
  simp only [upd, Qyo]
  exact World.ownsRow_nil w 0 e es)
 have hv : v = .slice none 0 0 := hs
 refine ⟨F, _, Mem.le_refl F, hw', ?_, fun H0 μ0 _ he => he.trans hE⟩
 rw [hv]
 exact ⟨rfl, e, 0, g, QW _ _, QxB _, QxB _, fun _ => ⟨none, 0, by simp [upd], rfl, fun e => by cases e⟩⟩
theorem Qwb {P : Program} {f : FuncId} {args : List S} {e es : Nat} (h : CSpec P f args [] fun s H => s = .c (.sl 0 es n n false) ∧ H = [.arr e es n g]) (him : ∀ i, i < n → ∀ j, j < es → (g i j).imm = true) :
  PSpec P f args (.c (.isl es n g false)) := by
 refine PSpec.rm ?_
 intro K F μ w vs hw hA
 refine (h K F μ w vs hw hA).mono ?_
 rintro x w' ⟨v, F', μ', s, H', h0, h1, h2, h3, h4, rfl, rfl⟩
 refine ⟨v, F', μ', _, _, h0, h1, h2, h3, h4, ?_⟩
 refine RM.fz 0 rfl (Qxx _) him ?_
 refine QvG ?_ ?_ (Qxx _)
 ·exact WH.nil
 ·exact WS.c (WC.fz rfl rfl (fun _ _ _ _ => leF.refl) (fun e => by cases e))
theorem Qws (h : c.imm = true) : WC ρ n (reC σ c) c := by
 cases c with
 | ptr => cases h
 | ep => cases h
 | sl => cases h
 | mpr => cases h
 | fn f m g =>
  have : m = 0 := QxD h
  exact ⟨⟨rfl, rfl, fun j hj => by omega⟩⟩
 | _ => exact WC.imm rfl
theorem WC.fzI (h : c.imm = true) : WC ρ n (fzC id m gg c) c := by
 cases c with
 | ptr => cases h
 | ep => cases h
 | sl => cases h
 | mpr => cases h
 | fn f m g =>
  have : m = 0 := QxD h
  exact ⟨⟨rfl, rfl, fun j hj => by omega⟩⟩
 | _ => exact WC.imm rfl
theorem QwT (h : c.imm = true) : WC ρ n (fzC id m gg (reC σ c)) c := by
 cases c with
 | ptr => cases h
 | ep => cases h
 | sl => cases h
 | mpr => cases h
 | fn f m g =>
  have : m = 0 := QxD h
  exact ⟨⟨rfl, rfl, fun j hj => by omega⟩⟩
 | _ => exact WC.imm rfl
theorem QwH (h : c.imm = true) : (fzC id m gg c).imm = true := by
 cases c with
 | ptr => cases h
 | ep => cases h
 | sl => cases h
 | mpr => cases h
 | fn f m g => exact h
 | _ => rfl
theorem QwX {es l t l' id2 n2 : Nat} {g' g2 : Nat → Nat → C} (ht : t = n) (hl : l = l') (hg : ∀ i, i < l → ∀ j, j < es → Am.leF (g i j) (g' i j)) : WC ρ m (fzC id2 n2 g2 (fzC id n g (.sl id es l t x))) (.isl es l' g' false) := by
 rw [Ql1 ht]
 exact WC.leF rfl (leF.isl hl hg (fun e => by cases e))
theorem QwZ {es l t l' id2 n2 : Nat} {g' g2 : Nat → Nat → C} (hne : Nat.beq id2 id = false) (ht : t = n2) (hl : l = l') (hg : ∀ i, i < l → ∀ j, j < es → Am.leF (g2 i j) (g' i j)) : WC ρ m (fzC id2 n2 g2 (fzC id n g (.sl id2 es l t x))) (.isl es l' g' false) := by
 have : fzC id n g (.sl id2 es l t x) = .sl id2 es l t x := by simp only [fzC, hne]
 rw [this]
 exact WC.fz ht hl hg (fun e => by cases e)
theorem leF.fzI (h : c.imm = true) : leF (fzC id m gg c) c := by
 cases c with
 | ptr => cases h
 | ep => cases h
 | sl => cases h
 | mpr => cases h
 | fn f m g =>
  have : m = 0 := QxD h
  subst this
  intro F v hv
  obtain ⟨cs, h1, h2, h3⟩ := hv
  exact ⟨cs, h1, h2, fun j hj => absurd hj (QxN _)⟩
 | _ => exact leF.refl
theorem Bw.fn {H : List O} {f : Fn} {m : Nat} {g g' : Nat → C} (h : ∀ j, j < m → Bw H (g j) (g' j)) : Bw H (.fn f m g) (.fn f m g') := by
 intro K F μ w v hw hv
 obtain ⟨cs, h1, h2, h3⟩ := hv
 refine ⟨cs, h1, h2, fun j hj => ?_⟩
 obtain ⟨x, x1, x2⟩ := h3 j hj
 exact ⟨x, x1, h j hj K F μ w x hw x2⟩
theorem Qwr {g : Nat → C} (h : ∀ j, j < m → (g j).imm = true) : WC ρ n (.fn f m g) (.fn f m g) := ⟨⟨rfl, rfl, fun j hj => wkC.imm (h j hj)⟩⟩
theorem BwL.same {H : List O} : ∀ {x : List C}, x.all C.imm = true → BwL H x x
 | [], _ => trivial
 | c :: r, h => by
  simp only [Qzf, QxA] at h
  exact ⟨Bw.same h.1, BwL.same h.2⟩
theorem Qw1 (hid : getL H id = some (.vr [c])) (hc : c.imm = true) : Bw H (.ptr id 0) (.ip 1 fun _ => c) := Bw.ptr hid fun j hj => by
 have : j = 0 := by omega
 subst this
 exact ⟨c, rfl, Bw.same hc⟩
theorem Qw8 {g g' : Nat → C} (h0 : Bw H (g 0) (g' 0)) : Bw H (.fn f 1 g) (.fn f 1 g') := Bw.fn fun j hj => by
 have : j = 0 := by omega
 subst this
 exact h0
theorem Qxq {g g' : Nat → C} (h0 : Bw H (g 0) (g' 0)) (h1 : Bw H (g 1) (g' 1)) : Bw H (.fn f 2 g) (.fn f 2 g') := Bw.fn fun j hj => by
 match j, hj with
 | 0, _ => exact h0
 | 1, _ => exact h1
end Go.Am
end

section
namespace Go.Am
variable {K : Keep} {F : Mem} {H : List O} {μ : Nat → Value} {w : World}
open Classical in
noncomputable def ownM (F : Mem) (H : List O) (μ : Nat → Value) (w : World) : Mem := fun b => if ∃ id, QS H μ id b then w.heap[b]? else F b
theorem QoS (hw : HSat K F H μ w) : F.le (ownM F H μ w) := by
 intro b o hb
 unfold ownM
 split
 ·exact hw.fr b o hb
 ·exact hb
theorem QsQ {id b : Nat} (h : QS H μ id b) : ownM F H μ w b = w.heap[b]? := by
 unfold ownM
 rw [Qxt ⟨id, h⟩]
theorem Qto (hw : HSat K F H μ w) (μ' : Nat → Value) : HSat K (ownM F H μ w) [] μ' w := by
 refine ⟨hw.os, hw.tape, hw.output, fun b o hb => ?_, hw.kp, fun id o ho => by simp [getL] at ho, fun id b ⟨⟨o, ho, _⟩, _⟩ => by simp [getL] at ho, fun id id' b ⟨⟨o, ho, _⟩, _⟩ => by simp [getL] at ho, fun b o hb => ?_⟩
 ·unfold ownM at hb
  split at hb
  ·exact hb
  ·exact hw.fr b o hb
 ·unfold ownM at hb
  split at hb
  ·rename_i h
   obtain ⟨id, hid⟩ := h
   exact (hw.sp id b hid).2
  ·exact hw.dj b o hb
def Fw (H : List O) (c c' : C) : Prop := ∀ K F μ w v, HSat K F H μ w → RepC F H μ c v → RepF (ownM F H μ w) c' v
theorem Fw.imm {H : List O} {c c' : C} (h : c.imm = true) (h' : c'.imm = true) (hw : wkC idN 0 c c') : Fw H c c' := by
 intro K F μ w v hs hv
 have h1 : RepC F [] μ c v := immC h hv
 have h2 := QfA HWk.nil c c' hw v h1
 exact (Qcn h' h2).mono (QoS hs)
theorem Fw.same {c : C} (h : c.imm = true) : Fw H c c := Fw.imm h h (wkC.imm h)
theorem Fw.sl {H : List O} {id es l t e n : Nat} {x x' : Bool} {g g' : Nat → Nat → C} (hid : getL H id = some (.arr e es n g)) (ht : t = n) (hg : ∀ i, i < l → ∀ j, j < es → Fw H (g i j) (g' i j)) (hx : x' = true → x = true ∧ l = n) :
  Fw H (.sl id es l t x) (.isl es l g' x') := by
 subst ht
 intro K F μ w v hw hv
 obtain ⟨h0, e', n', g'', h1, h2, h3, h4⟩ := hv
 rw [hid] at h1
 cases h1
 obtain ⟨a', cap, q1, q2, q3⟩ := h4 rfl
 obtain ⟨xs, ⟨r1, r2⟩, r3, r4, r5⟩ := hw.ob id _ hid
 rcases r2 with ⟨s1, s2⟩ | ⟨b, cap', cur, s1, _, s3, s4, s5, s6, s7⟩
 ·rw [q1] at s1
  cases s1
  exact ⟨none, 0, q2, om, om, fun _ => by omega, fun _ => rfl, .inl om⟩
 ·have ho : QS H μ id b := ⟨⟨_, hid, by simp⟩, by rw [s1]; rfl⟩
  rw [q1] at s1
  cases s1
  refine ⟨_, _, q2, om, om, fun q => ?_, fun q => (by cases q), .inr ⟨b, 0, rfl, fun i hi j hj => ?_⟩⟩
  ·obtain ⟨hx1, hx2⟩ := hx q
   rw [q3 hx1, hx2]
  ·obtain ⟨y, y1, y2⟩ := r4 i om j hj
   have hlt : i * es + j < t * es := Nat.lt_of_lt_of_le (show i * es + j < (i + 1) * es by rw [Qyh]; omega) (QxF es om)
   refine ⟨y, ?_, hg i hi j hj K F μ w y hw y2⟩
   simp only [Mem.cell, QsQ ho, s3]
   simp only [QxX]
   rw [← s7] at y1
   rw [Qyb (by simpa using hlt)] at y1
   simpa using y1
theorem Fw.ptr {H : List O} {id off n : Nat} {cs : List C} {g : Nat → C} (hid : getL H id = some (.vr cs)) (hg : ∀ j, j < n → ∃ c, getL cs (off + j) = some c ∧ Fw H c (g j)) : Fw H (.ptr id off) (.ip n g) := by
 intro K F μ w v hw hv
 obtain ⟨_, b, h2, h3⟩ := hv
 obtain ⟨b', c, T, q1, q2, q3⟩ := hw.ob id _ hid
 have ho : QS H μ id b' := ⟨⟨_, hid, by simp⟩, by rw [q1]; rfl⟩
 rw [h2] at q1
 cases q1
 refine ⟨b, off, h3, fun j hj => ?_⟩
 obtain ⟨x, x1, x2⟩ := hg j hj
 obtain ⟨u, u1, u2⟩ := q3.2 _ x x1
 refine ⟨u, ?_, x2 K F μ w u hw u2⟩
 simp only [Mem.cell, QsQ ho, q2]
 exact u1
theorem QvI {id es l l' t e n : Nat} {x : Bool} {g g' : Nat → Nat → C} (hid : getL H id = some (.arr e es n g)) (ht : t = n) (hl : l = l') (hg : ∀ i, i < l → ∀ j, j < es → g i j = g' i j) (hp : ∀ i j, (g' i j).imm = true) :
  Fw H (.sl id es l t x) (.isl es l' g' false) := by
 subst hl
 exact Fw.sl hid ht (fun i hi j hj => by rw [hg i hi j hj]; exact Fw.same (hp i j)) (fun e => by cases e)
def FwL (H : List O) : List C → List C → Prop
 | [], [] => True
 | c :: r, c' :: r' => Fw H c c' ∧ FwL H r r'
 | _, _ => False
theorem QoR {H : List O} : ∀ {xs ys : List C}, FwL H xs ys → xs.length = ys.length ∧ ∀ (j : Nat) x y, getL xs j = some x → getL ys j = some y → Fw H x y
 | [], [], _ => ⟨rfl, fun j x y h => by simp [getL] at h⟩
 | x :: r, y :: r', h => by
  obtain ⟨h1, h2⟩ := QoR h.2
  refine ⟨by simp [h1], fun j a b ha hb => ?_⟩
  cases j with
  | zero => simp only [getL, Qxv] at ha hb; subst ha; subst hb; exact h.1
  | succ j => simp only [getL] at ha hb; exact h2 j a b ha hb
 | [], _ :: _, h => h.elim
 | _ :: _, [], h => h.elim
theorem FwL.nil : FwL H [] [] := trivial
theorem FwL.cons {H : List O} {s s' : C} {r r' : List C} (h : Fw H s s') (k : FwL H r r') : FwL H (s :: r) (s' :: r') := ⟨h, k⟩
theorem FwL.ok (hw : HSat K F H μ w) {xs ys : List C} (h : FwL H xs ys) {cs : Array Value} (h2 : RepL F H μ xs cs) : RepL (ownM F H μ w) [] μ ys cs := by
 obtain ⟨k1, k2⟩ := QoR h
 refine ⟨h2.1.trans k1, fun j y hy => ?_⟩
 have hj := Qt hy
 have hx : getL xs j = some (xs[j]'om) := by rw [Qc]; simp
 obtain ⟨v, v1, v2⟩ := h2.2 j _ hx
 exact ⟨v, v1, RepF.toC _ _ y v (k2 j _ y hx hy K F μ w v hw v2)⟩
def FwT (H : List O) : List (C ⊕ List C) → List (C ⊕ List C) → Prop
 | [], [] => True
 | .inl x :: r, .inl y :: r' => Fw H x y ∧ FwT H r r'
 | .inr x :: r, .inr y :: r' => FwL H x y ∧ FwT H r r'
 | _, _ => False
theorem FwT.nil : FwT H [] [] := trivial
theorem FwT.consC {x y : C} {r r' : List (C ⊕ List C)} (h : Fw H x y) (k : FwT H r r') : FwT H (.inl x :: r) (.inl y :: r') := ⟨h, k⟩
theorem FwT.consL {x y : List C} {r r' : List (C ⊕ List C)} (h : FwL H x y) (k : FwT H r r') : FwT H (.inr x :: r) (.inr y :: r') := ⟨h, k⟩
theorem Qj8 {H : List O} {K : Keep} {F : Mem} {μ : Nat → Value} {w : World} (hw : HSat K F H μ w) : ∀ {xs ys : List (C ⊕ List C)}, FwT H xs ys → xs.length = ys.length ∧ ∀ (j : Nat) x y, getL xs j = some x → getL ys j = some y → ∀ v, RepE F H μ x v → RepE (ownM F H μ w) [] μ y v
 | [], [], _ => ⟨rfl, fun j x y h => by simp [getL] at h⟩
 | .inl x :: r, .inl y :: r', h => by
  obtain ⟨h1, h2⟩ := Qj8 hw h.2
  refine ⟨by simp [h1], fun j a b ha hb => ?_⟩
  cases j with
  | zero => simp only [getL, Qxv] at ha hb; subst ha; subst hb; exact fun v hv => RepF.toC _ _ y v (h.1 K F μ w v hw hv)
  | succ j => simp only [getL] at ha hb; exact h2 j a b ha hb
 | .inr x :: r, .inr y :: r', h => by
  obtain ⟨h1, h2⟩ := Qj8 hw h.2
  refine ⟨by simp [h1], fun j a b ha hb => ?_⟩
  cases j with
  | zero => simp only [getL, Qxv] at ha hb; subst ha; subst hb; exact fun v ⟨cs, e1, e2⟩ => ⟨cs, e1, h.1.ok hw e2⟩
  | succ j => simp only [getL] at ha hb; exact h2 j a b ha hb
 | [], _ :: _, h => h.elim
 | .inl _ :: _, [], h => h.elim
 | .inr _ :: _, [], h => h.elim
 | .inl _ :: _, .inr _ :: _, h => h.elim
 | .inr _ :: _, .inl _ :: _, h => h.elim
theorem QwK {s s' : S} (h : ∀ K F μ w v, HSat K F H μ w → RepS F H μ s v → RepS (ownM F H μ w) [] μ s' v) : RM 0 s H s' [] := by
 refine ⟨fun K F μ w v hw hs => ⟨ownM F H μ w, μ, QoS hw, Qto hw μ, h K F μ w v hw hs, fun H0 μ0 hl he => ?_⟩⟩
 have : H0 = [] := List.length_eq_zero_iff.1 om
 subst this
 exact ⟨fun _ _ hc => by simp [getL] at hc, fun _ _ _ _ _ hc => by simp [getL] at hc, fun _ _ _ _ _ _ hc => by simp [getL] at hc⟩
theorem Qwj {x y : C} (h : Fw H x y) : RM 0 (.c x) H (.c y) [] := QwK fun K F μ w v hw hv => RepF.toC _ _ y v (h K F μ w v hw hv)
theorem Qwz {x y : List C} (h : FwL H x y) : RM 0 (.a x) H (.a y) [] := QwK fun K F μ w v hw ⟨cs, e1, e2⟩ => ⟨cs, e1, h.ok hw e2⟩
theorem QvC {x y : List (C ⊕ List C)} (h : FwT H x y) : RM 0 (.t x) H (.t y) [] := QwK fun K F μ w v hw ⟨vs, e1, e2, e3⟩ => by
 obtain ⟨k1, k2⟩ := Qj8 hw h
 refine ⟨vs, e1, e2.trans k1, fun j y hy => ?_⟩
 have hj := Qt hy
 have hx : getL x j = some (x[j]'om) := by rw [Qc]; simp
 obtain ⟨u, u1, u2⟩ := e3 j _ hx
 exact ⟨u, u1, k2 j _ y hx hy u u2⟩
end Go.Am
end

section
namespace Go.Am
variable {σ : Nat → Nat} {H Hc : List O} {f : FuncId} {args args' : List S} {s0 : S}
theorem QrO {c : C} (h : c.plain = true) : reC σ c = c := by cases c <;> first | rfl | cases h
def O.plainP : O → Prop
 | .arr _ _ _ g => ∀ i j, (g i j).plain = true
 | _ => True
def PlainH (H : List O) : Prop := ∀ o ∈ H, o.plainP
theorem PlainH.nil : PlainH [] := fun o ho => by cases ho
theorem PlainH.vr {cs : List C} {r : List O} (h : PlainH r) : PlainH (.vr cs :: r) := fun o ho => by
 cases ho with
 | head => trivial
 | tail _ ho => exact h o ho
theorem PlainH.mp {sh : KS} {z : List Z} {va : Bool} {ks : List Key} {val : Key → Nat → C} {r : List O} (h : PlainH r) : PlainH (.mp sh z va ks val :: r) := fun o ho => by
 cases ho with
 | head => trivial
 | tail _ ho => exact h o ho
theorem PlainH.dead {r : List O} (h : PlainH r) : PlainH (.dead :: r) := fun o ho => by
 cases ho with
 | head => trivial
 | tail _ ho => exact h o ho
theorem PlainH.arr {e es n : Nat} {g : Nat → Nat → C} {r : List O} (hg : ∀ i j, (g i j).plain = true) (h : PlainH r) : PlainH (.arr e es n g :: r) := fun o ho => by
 cases ho with
 | head => exact hg
 | tail _ ho => exact h o ho
def reOI (σ : Nat → Nat) : O → O
 | .vr cs => .vr (reL σ cs)
 | o => o
theorem QoC {o : O} (h : o.plainP) : reOI σ o = reO σ o := by
 cases o with
 | arr e es n g =>
  simp only [reOI, reO]
  congr 1
  funext i j
  exact (QrO (h i j)).symm
 | _ => rfl
def QlO (σ : Nat → Nat) : List O → List O
 | [] => []
 | o :: r => reOI σ o :: QlO σ r
def Qjr (σ : Nat → Nat) (rs : List Nat) (Hc : List O) : Nat → List O → List O
 | _, [] => []
 | k, o :: r => (match idx rs k with
  | some i => match getL Hc i with
   | some o' => reOI σ o'
   | none => o
  | none => o) :: Qjr σ rs Hc (k + 1) r
def Qjq (rs : List Nat) (H Hc : List O) : List O :=
 Qjr (sg rs H.length) rs Hc 0 H ++ QlO (sg rs H.length) (QfP rs.length Hc)
theorem Ql8 {σ : Nat → Nat} : ∀ {l : List O}, PlainH l → QlO σ l = reHL σ l
 | [], _ => rfl
 | o :: r, h => by simp only [QlO, reHL, QoC (h o (Qys ..)), Ql8 (l := r) (fun x hx => h x (Qyi _ hx))]
theorem Qku {σ : Nat → Nat} {rs : List Nat} {Hc : List O} (h : PlainH Hc) : ∀ (l : List O) (k : Nat), Qjr σ rs Hc k l = Qdv σ rs Hc k l
 | [], _ => rfl
 | o :: r, k => by
  simp only [Qjr, Qdv, Qku h r (k + 1)]
  congr 1
  cases idx rs k with
  | none => rfl
  | some i =>
   cases hi : getL Hc i with
   | none => simp only [hi]
   | some o' =>
    simp only [hi]
    rw [Qc] at hi
    exact QoC (h o' (Qx8 hi))
theorem Qh4 {rs : List Nat} (h : PlainH Hc) : Qjq rs H Hc = plug rs H Hc := by
 unfold Qjq plug
 rw [Qku h, Ql8 (fun o ho => h o (by rw [QfI] at ho; exact List.mem_of_mem_drop ho))]
theorem plh (h : PlainH H := by repeat' (first | exact PlainH.nil | refine PlainH.vr ?_ | refine PlainH.mp ?_ | refine PlainH.arr (fun i j => ?_) ?_ | exact Qdb _ _ _)) : PlainH H := h
theorem CallN.autoI {X : Cx} {dst : Option Tmp} {ts : Ts} {Hc0 : List O} {k : Ts → List O → Prop} (rs : List Nat) (hb : HasBody X.P f) (hc : CSpec X.P f args' Hc fun s H' => s = s0 ∧ H' = Hc0) (hp : PlainH Hc0)
  (hk : Qat (Qjq rs H Hc0) fun H1 => Q4 (reS (sg rs H.length) s0) fun s' => putK X.nt dst s' ts fun ts' => k ts' H1) (hr : rs.Nodup := by decide) (h : WR (rho rs) Hc.length H rs Hc := by exact wb0)
  (hd : Qcd Hc = true := by exact rfl) (ha : WB (rho rs) Hc.length args args' := by exact wb0) : CallN X f args dst ts H k := CallN.frameQ rs hb hc hr h hd ha (by rw [← Qh4 hp]; exact hk)
theorem CallF.autoI {P : Program} {Hc0 : List O} {k : S → List O → Prop} (rs : List Nat) (hb : HasBody P f) (hc : CSpec P f args' Hc fun s H' => s = s0 ∧ H' = Hc0) (hp : PlainH Hc0)
  (hk : k (reS (sg rs H.length) s0) (Qjq rs H Hc0)) (hr : rs.Nodup := by decide) (h : WR (rho rs) Hc.length H rs Hc := by exact wb0)
  (hd : Qcd Hc = true := by exact rfl) (ha : WB (rho rs) Hc.length args args' := by exact wb0) : CallF P f args H k :=
 ⟨_, _, hb, CSpec.frame hc rs (Qwh hr h) (QbM hd) ha.out fun s Hc' hq => by
  obtain ⟨rfl, rfl⟩ := hq
  exact ⟨rfl, (Qh4 hp).symm⟩, hk⟩
end Go.Am
end

section
namespace Go.Am
open Go.Sort Go.Proofs
theorem QoB {i es j n : Nat} (hi : i < n) (hj : j < es) : i * es + j < n * es := by
 have : (i + 1) * es ≤ n * es := QxF es hi
 rw [Qyh] at this
 omega
theorem QqV {i es j : Nat} (hj : j < es) : (i * es + j) / es = i ∧ (i * es + j) % es = j := by
 have h0 : 0 < es := by omega
 constructor
 ·rw [Nat.mul_comm, Nat.mul_add_div h0, Nat.div_eq_of_lt hj]; omega
 ·rw [Nat.mul_comm, Nat.mul_add_mod, Nat.mod_eq_of_lt hj]
set_option maxHeartbeats 1000000 in
theorem Qw3 {P : Program} {f : FuncId} {e es n : Nat} {g g' : Nat → Nat → C} {fn : Fn} {α : Type} [Inhabited α] {enc : α → List Value} {d d' : Array α} (hn : 0 < n) (hes : 0 < es) (hd : d.size = n) (hd' : d'.size = n)
  (h1 : ∀ i, i < n → ∀ j, j < es → ∀ F v, RepF F (g i j) v → v = (enc d[i]!)[j]!) (hg : ∀ i, i < n → ∀ j, j < es → (g i j).imm = true) (h2 : ∀ i, i < n → ∀ j, j < es → ∀ F, RepF F (g' i j) (enc d'[i]!)[j]!)
  (hc : ∀ b cap w, HoldsK enc es w b 0 d → b < w.heap.size → n ≤ cap → cap ≤ maxLen → Calls P f #[.slice (some ⟨b, 0, none⟩) n cap, .func fn #[] #[]] w fun ex w' => ex = .returned (.tuple #[]) ∧ ∃ q os, w' = sortWorldK enc es w b 0 q d' os) {gx : Nat → C} :
  CSpec P f [.c (.sl 0 es n n false), .c (.fn fn 0 gx)] [.arr e es n g] fun s H => s = .t [] ∧ H = [.arr e es n g'] := by
 intro K F μ w vs hw hA
 have h0 : getL [O.arr e es n g] 0 = some (.arr e es n g) := rfl
 obtain ⟨xs, ⟨x1, x2⟩, x3, x4, x5⟩ := hw.ob 0 _ h0
 rcases x2 with ⟨_, q⟩ | ⟨b, cap, cur, q1, q2, q3, q4, q5, q6, q7⟩
 ·omega
 obtain ⟨v, v1, v2⟩ := hA.2 0 _ rfl
 obtain ⟨u, u1, cs, u2, u3, _⟩ := hA.2 1 _ rfl
 have hcs : cs = #[] := by apply Array.eq_empty_of_size_eq_zero; exact u3
 subst hcs
 obtain ⟨_, e', n', g'', y1, y2, y3, y4⟩ := v2
 have en : n' = n := by
  rw [h0] at y1
  cases y1; rfl
 obtain ⟨a, cap', z1, z2, -⟩ := y4 en.symm
 rw [q1, en] at z1
 cases z1
 have hvs : vs = #[.slice (some ⟨b, 0, none⟩) n cap, .func fn #[] #[]] := by
  apply QyM
  intro j
  match j with
  | 0 => rw [v1, z2]; rfl
  | 1 => rw [u1, u2]; rfl
  | j + 2 =>
   rw [Qx1 (by rw [hA.1]; simp), Qx1 (by simp)]
 subst hvs
 have hblt : b < w.heap.size := (QxH.1 q3).1
 have hcur : ∀ i, i < n → ∀ j, j < es → cur[i * es + j]? = some (enc d[i]!)[j]! := by
  intro i hi j hj
  obtain ⟨u, u1, u2⟩ := x4 i hi j hj
  rw [← q7, Qyb (QoB hi hj)] at u1
  rw [h1 i hi j hj F u (Qcn (hg i hi j hj) u2)] at u1
  simpa using u1
 have hflat : ∀ t, t < n * es → (flatK enc es d)[t]! = (enc d[t / es]!)[t % es]! := fun t ht => get_flatK enc es d t (by rw [hd]; exact ht)
 have hflat' : ∀ t, t < n * es → (flatK enc es d')[t]! = (enc d'[t / es]!)[t % es]! := fun t ht => get_flatK enc es d' t (by rw [hd']; exact ht)
 have hdm : ∀ t, t < n * es → t / es < n ∧ t % es < es ∧ t / es * es + t % es = t := fun t ht => ⟨Nat.div_lt_of_lt_mul (by rw [Nat.mul_comm]; exact ht), Nat.mod_lt _ hes, Nat.div_add_mod' t es⟩
 have hold : HoldsK enc es w b 0 d := by
  intro t ht
  rw [size_flatK, hd] at ht
  obtain ⟨t1, t2, t3⟩ := hdm t ht
  refine ⟨?_, ?_⟩
  ·rw [hflat t ht]
   unfold World.cell?
   simp only [q3, QxX]
   have := hcur (t / es) t1 (t % es) t2
   rw [t3] at this
   simpa using this
  ·unfold World.frozen?
   simp [q3]
 refine (hc b cap w hold hblt q4 q5).mono ?_
 rintro ex w' ⟨rfl, q, os, rfl⟩
 generalize hD : flatK enc es d' = D
 have hDs : D.size = n * es := by rw [← hD, size_flatK, hd']
 have hw' : sortWorldK enc es w b 0 q d' os = grow (putRow id (Go.Sort.ahead w q) b 0 D) os := by unfold sortWorldK putRowK; rw [hD]
 rw [hw']
 have hb' : (grow (putRow id (Go.Sort.ahead w q) b 0 D) os).heap[b]? = some (.cells (putCells id 0 D cur) e (0, 0)) := by
  show ((w.heap.modify b (onCells (putCells id 0 D))) ++ os)[b]? = _
  rw [Qyr (by simpa using hblt), QyW, Qxt rfl, q3]
  rfl
 have hgr : w.grownBy (grow (putRow id (Go.Sort.ahead w q) b 0 D) os) (some b) := by
  refine ⟨rfl, rfl, rfl, ?_, fun k hk hne => ?_⟩
  ·show w.heap.size ≤ ((w.heap.modify b (onCells (putCells id 0 D))) ++ os).size
   simp
  ·show ((w.heap.modify b (onCells (putCells id 0 D))) ++ os)[k]? = _
   rw [Qyr (by simpa using hk), QyW, Qxu (fun e => hne (by rw [e]))]
 have hsz : (putCells id 0 D cur).size = cur.size := by unfold putCells; simp
 have hnc : n * es ≤ cur.size := by rw [q6]; exact QxF es q4
 have hone : ∀ x ∈ (putCells id 0 D cur).toList, x.oneCell' = true := by
  intro x hx
  obtain ⟨i, hi, rfl⟩ := QxP hx
  have hi2 : i < cur.size := by simpa [putCells] using hi
  have ee : (putCells id 0 D cur).toList[i] = if i < n * es then D[i]! else cur[i] := by
   simp [putCells, hDs]
  rw [ee]
  split
  ·rename_i hin
   obtain ⟨t1, t2, t3⟩ := hdm i hin
   rw [← hD, hflat' _ hin]
   exact RepF.one _ _ (h2 (i / es) t1 (i % es) t2 F)
  ·exact x5 b cur e (0, 0) (by rw [q1]; rfl) q3 _ (Qy0 hi2)
 have hst := hw.step (H' := [.arr e es n g']) (w' := grow (putRow id (Go.Sort.ahead w q) b 0 D) os) 0 (.arr e es n g') (μ 0) rfl (fun i hi => by
   cases i with
   | zero => exact absurd rfl hi
   | succ i => rfl) (by rw [Qy]; exact Qhl h0 rfl) (row := some b) hgr (fun k hk => by cases hk; exact ⟨⟨_, h0, by simp⟩, by rw [q1]; rfl⟩) (fun b' hb => .inl ⟨⟨_, h0, by simp⟩, hb⟩) (by
   rw [Qy]
   refine ⟨(putCells id 0 D cur).toList.take (n * es), ⟨?_, .inr ⟨b, cap, putCells id 0 D cur, q1, Qxx _, hb', q4, q5, ?_, rfl⟩⟩, x3, fun i hi j hj => ?_, Sp.of (by rw [q1]; rfl) hb' hone⟩
   ·rw [QxO, Qx7, hsz]; omega
   ·rw [hsz]; exact q6
   ·have hlt := QoB hi hj
    refine ⟨(enc d'[i]!)[j]!, ?_, RepF.toC _ _ _ _ (h2 i hi j hj F)⟩
    rw [Qyb hlt]
    unfold putCells
    simp only [Qyt, Array.getElem?_mapIdx]
    rw [Qx9 om]
    simp only [Qyd, Qxx, QxX, true_and, Nat.sub_zero, hDs, id]
    rw [Qxt hlt, ← hD, hflat' _ hlt, (QqV hj).1, (QqV hj).2])
 rw [Qy] at hst
 refine ⟨_, F, μ, .t [], _, rfl, Mem.le_refl F, hst, Qhl h0 rfl, ⟨#[], rfl, rfl, fun j x hx => by simp [getL] at hx⟩, rfl, rfl⟩
end Go.Am
end

section
namespace Go.Am
theorem Qw2 {n0 : Nat} {s s' : S} {H H' : List O} (rs : List Nat) (hr : rs.Nodup) (hp : ∀ i, i < n0 → rho rs i = i) (h0 : n0 ≤ H'.length) (h : WR (rho rs) H'.length H rs H') (hs : WS (rho rs) H'.length s s') : RM n0 s H s' H' := by
 have hk : HWk (rho rs) H H' := (Qwh hr h).wk
 refine ⟨fun K F μ w v hw hv => ⟨F, fun i => μ (rho rs i), Mem.le_refl F, hw.wk hk, Qfx hk s s' hs.out v hv, fun H0 μ0 hl he => he.wkR hk (fun i hi => hp i (Nat.lt_of_lt_of_le hi hl)) (Qza hl h0)⟩⟩
theorem QwN {X : Cx} {f : FuncId} {args args' : List S} {dst : Option Tmp} {ts : Ts} {H Hc : List O} {ι : Type} {q : ι → Prop} {s0 : ι → S} {Hc0 : ι → List O} {k : Ts → List O → Prop} (rs : List Nat) (hb : HasBody X.P f) (hc : CSpec X.P f args' Hc fun s H' => ∃ i, q i ∧ s = s0 i ∧ H' = Hc0 i) (hp : ∀ i, PlainH (Hc0 i))
  (hk : ∀ i, q i → Qat (Qjq rs H (Hc0 i)) fun H1 => Q4 (reS (sg rs H.length) (s0 i)) fun s' => putK X.nt dst s' ts fun ts' => k ts' H1) (hr : rs.Nodup := by decide) (h : WR (rho rs) Hc.length H rs Hc := by exact wb0)
  (hd : Qcd Hc = true := by exact rfl) (ha : WB (rho rs) Hc.length args args' := by exact wb0) : CallN X f args dst ts H k :=
 CallN.frame hb hc rs (Qwh hr h) (QbM hd) ha.out fun s Hc' hq => by
  obtain ⟨i, hi, rfl, rfl⟩ := hq
  exact ⟨_, _, rfl, rfl, by rw [← Qh4 (hp i)]; exact hk i hi⟩
end Go.Am
end
