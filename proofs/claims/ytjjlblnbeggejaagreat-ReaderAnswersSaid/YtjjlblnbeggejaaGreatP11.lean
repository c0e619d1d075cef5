/- Contracts, lemmas; no condition. -/
import Derived.Test.YtjjlblnbeggejaaGreatP10
import Derived.ChangeOld
import Derived.Below
import Derived.ChangeSlices
set_option linter.all false
section
namespace Go.Am
variable {H H' : List O} {ts : Ts} {X : Cx} {args args' : List S} {s s' : S} {id i es : Nat} {g : Nat → Nat → C} {μ : Nat → Value}
structure WC (ρ : Nat → Nat) (n : Nat) (c c' : C) : Prop where
 out : wkC ρ n c c'
structure WL (ρ : Nat → Nat) (n : Nat) (l l' : List C) : Prop where
 out : wkL ρ n l l'
structure WTL (ρ : Nat → Nat) (n : Nat) (l l' : List (C ⊕ List C)) : Prop where
 out : wkTL ρ n l l'
structure WS (ρ : Nat → Nat) (n : Nat) (s s' : S) : Prop where
 out : wkS ρ n s s'
structure WO (ρ : Nat → Nat) (n : Nat) (o o' : O) : Prop where
 out : O.wk ρ n o o'
structure WH (ρ : Nat → Nat) (n : Nat) (l l' : List O) : Prop where
 out : HWkL ρ n l l'
structure WT (ρ : Nat → Nat) (n : Nat) (ts ts' : Ts) : Prop where
 out : wkT ρ n ts ts'
structure WA (l l' : List S) : Prop where
 out : leA l l'
structure WB (ρ : Nat → Nat) (n : Nat) (l l' : List S) : Prop where
 out : wkA ρ n l l'
variable {ρ : Nat → Nat} {n : Nat}
theorem WC.imm {c : C} (h : c.imm = true) : WC ρ n c c := ⟨wkC.imm h⟩
theorem WC.int {k : IntKind} {a b : Int} (h : a = b) : WC ρ n (.int k a) (.int k b) := ⟨wkC.int h⟩
theorem WC.bool {a b : Bool} (h : a = b) : WC ρ n (.bool a) (.bool b) := ⟨wkC.bool h⟩
theorem WC.str {a b : ByteArray} (h : a = b) : WC ρ n (.str a) (.str b) := ⟨wkC.str h⟩
theorem WC.nil {es m : Nat} {g : Nat → Nat → C} {t : Bool} (hm : m = 0) : WC ρ n .nils (.isl es m g t) := ⟨wkC.nil hm⟩
theorem WC.nils : WC ρ n .nils .nils := ⟨wkC.imm rfl⟩
theorem WC.nilp : WC ρ n .nilp .nilp := ⟨wkC.imm rfl⟩
theorem WC.ptr {a b o : Nat} (h : a = ρ b) (hb : b < n) : WC ρ n (.ptr a o) (.ptr b o) := ⟨⟨h, rfl, hb⟩⟩
theorem WC.sl {a b es l t l' t' : Nat} {x x' : Bool} (h : a = ρ b) (hb : b < n) (hl : l = l') (ht : t = t') (hx : x' = true → x = true) : WC ρ n (.sl a es l t x) (.sl b es l' t' x') := ⟨⟨h, rfl, hl, ht, hb, hx⟩⟩
theorem WC.leF {c c' : C} (h : c.imm = true) (hl : Am.leF c c') : WC ρ n c c' := by
 refine ⟨?_⟩
 cases c <;> cases c' <;> first | exact ⟨h, hl⟩ | exact True.intro | (cases h; done) | skip
 case fn.fn f m g f' m' g' =>
  have hm : m = 0 := QxD h
  subst hm
  obtain ⟨cs, h1, h2, -⟩ := hl (fun _ => none) (.func f #[] #[]) ⟨#[], rfl, rfl, fun j hj => by omega⟩
  injection h1 with h1 _ h3
  subst h1
  subst h3
  exact ⟨rfl, h2, fun j hj => by omega⟩
theorem WC.isl {es m m' : Nat} {g g' : Nat → Nat → C} {t t' : Bool} (hm : m = m') (hg : ∀ i, i < m → ∀ j, j < es → g i j = g' i j) (ht : t' = true → t = true) : WC ρ n (.isl es m g t) (.isl es m' g' t') := ⟨wkC.isl hm hg ht⟩
theorem WC.junk {c : C} : WC ρ n c .junk := by
 refine ⟨?_⟩
 cases c <;> exact True.intro
theorem WC.fz {m id n es l t l' : Nat} {x x' : Bool} {g g' : Nat → Nat → C} (ht : t = n) (hl : l = l') (hg : ∀ i, i < l → ∀ j, j < es → Am.leF (g i j) (g' i j)) (hx : x' = true → x = true ∧ l = t) : WC ρ m (fzC id n g (.sl id es l t x)) (.isl es l' g' x') := ⟨wkC.fz ht hl hg hx⟩
theorem WC.eq {ρ : Nat → Nat} {n : Nat} {c c' : C} (h : c = c') (hi : c'.imm = true) : WC ρ n c c' := by subst h; exact WC.imm hi
theorem WL.nil : WL ρ n [] [] := ⟨trivial⟩
theorem WL.cons {x y : C} {r r' : List C} (h : WC ρ n x y) (k : WL ρ n r r') : WL ρ n (x :: r) (y :: r') := ⟨⟨h.out, k.out⟩⟩
theorem WL.imm {xs : List C} (h : xs.all C.imm = true) : WL ρ n xs xs := ⟨Qv h⟩
theorem WTL.nil : WTL ρ n [] [] := ⟨trivial⟩
theorem WTL.consC {x y : C} {r r' : List (C ⊕ List C)} (h : WC ρ n x y) (k : WTL ρ n r r') : WTL ρ n (.inl x :: r) (.inl y :: r') := ⟨⟨h.out, k.out⟩⟩
theorem WTL.consL {x y : List C} {r r' : List (C ⊕ List C)} (h : WL ρ n x y) (k : WTL ρ n r r') : WTL ρ n (.inr x :: r) (.inr y :: r') := ⟨⟨h.out, k.out⟩⟩
theorem WS.u {s : S} : WS ρ n s .u := ⟨wkS.u⟩
theorem WS.c {x y : C} (h : WC ρ n x y) : WS ρ n (.c x) (.c y) := ⟨h.out⟩
theorem WS.a {xs ys : List C} (h : WL ρ n xs ys) : WS ρ n (.a xs) (.a ys) := ⟨wkS.a h.out⟩
theorem WS.t {xs ys : List (C ⊕ List C)} (h : WTL ρ n xs ys) : WS ρ n (.t xs) (.t ys) := ⟨wkS.t h.out⟩
theorem WS.imm {s : S} (h : s.imm = true) : WS ρ n s s := ⟨wkS.imm h⟩
theorem WO.vr {xs ys : List C} (h : WL ρ n xs ys) : WO ρ n (.vr xs) (.vr ys) := ⟨O.wk.vr h.out⟩
theorem WO.arr {e es m m' : Nat} {g g' : Nat → Nat → C} (hm : m = m') (h : ∀ i, i < m → ∀ j, j < es → WC ρ n (g i j) (g' i j)) : WO ρ n (.arr e es m g) (.arr e es m' g') := ⟨O.wk.arr hm fun i hi j hj => (h i hi j hj).out⟩
theorem WC.mpr {a b : Nat} (h : a = ρ b) (hb : b < n) : WC ρ n (.mpr a) (.mpr b) := ⟨⟨h, hb⟩⟩
theorem WO.mp {sh sh' : KS} {z z' : List Z} {va va' : Bool} {ks ks' : List Key} {val val' : Key → Nat → C} (h1 : sh = sh') (h2 : z = z') (h3 : va = va') (h4 : ks = ks') (h : ∀ k j, k.sh = sh → j < z.length → leF (val k j) (val' k j)) : WO ρ n (.mp sh z va ks val) (.mp sh' z' va' ks' val') := ⟨⟨h1, h2, h3, h4, fun k j hs hj F v => h k j hs hj F v⟩⟩
theorem Qwm {sh : KS} {z : List Z} {va : Bool} {ks : List Key} {val : Key → Nat → C} : WO ρ n (.mp sh z va ks val) (.mp sh z va ks val) := WO.mp rfl rfl rfl rfl fun _ _ _ _ => leF.refl
theorem WO.dead : WO ρ n .dead .dead := ⟨trivial⟩
theorem WH.nil : WH ρ n H [] := by
 refine ⟨?_⟩
 cases H <;> trivial
theorem WH.cons {o o' : O} {r r' : List O} (h : WO ρ n o o') (k : WH ρ n r r') : WH ρ n (o :: r) (o' :: r') := ⟨⟨h.out, k.out⟩⟩
theorem WT.nil : WT ρ n ts [] := ⟨trivial⟩
theorem WT.cons {ts r : Ts} {t : Nat} {s : S} (h : WS ρ n (find t ts) s) (k : WT ρ n ts r) : WT ρ n ts ((t, s) :: r) := ⟨⟨h.out, k.out⟩⟩
theorem WA.nil : WA [] [] := ⟨trivial⟩
theorem WA.cons {s s' : S} {r r' : List S} (h1 : s.imm = true) (h2 : WS idN 0 s s') (h3 : WA r r') : WA (s :: r) (s' :: r') := ⟨leA.cons h1 h2.out h3.out⟩
theorem WB.nil : WB ρ n [] [] := ⟨trivial⟩
theorem WB.cons {s s' : S} {r r' : List S} (h2 : WS ρ n s s') (h3 : WB ρ n r r') : WB ρ n (s :: r) (s' :: r') := ⟨⟨h2.out, h3.out⟩⟩
theorem CallN.pureW {f : FuncId} {r : S} {dst : Option Tmp} (hb : HasBody X.P f) (hp : PSpec X.P f args' r) (ha : WA args args') (hr : r.imm = true) {k : Ts → List O → Prop}
  (hk : Q4 r fun s' => putK X.nt dst s' ts fun ts' => k ts' H) : CallN X f args dst ts H k := CallN.pure hb hp ha.out hr hk
theorem CallP.mkW {P : Program} {f : FuncId} {r : S} (hb : HasBody P f) (hp : PSpec P f args' r) (ha : WA args args') (hr : r.imm = true) {k : S → Prop} (hk : k r) : CallP P true f args k := CallP.mk hb hp ha.out hr hk
theorem Mv.mkW {ts' : Ts} (h : WH idN H'.length H H') (t : WT idN H'.length ts ts') (h0 : X.n0 ≤ H'.length) : Mv X ts H ts' H' := Mv.mk' _ rfl h.out t.out h0
theorem Qvj (h : s.imm = true) (hs : WS idN 0 s s') : RM 0 s H s' [] := RM.imm h hs.out
theorem QvG {n0 : Nat} (h : WH idN H'.length H H') (hs : WS idN H'.length s s') (hn : n0 ≤ H'.length) : RM n0 s H s' H' := RM.wk _ rfl h.out hs.out hn
def QeU : List Nat → Ts → Ts
 | [], _ => []
 | t :: r, ts => (t, find t ts) :: QeU r ts
theorem QuY (hΓ : Qw X.P X.Γ) {c : Code} {k : Kp} {ι : Type} (kp : List Nat) (st : ι → Ts) (Hs : ι → List O) (ok : ι → Prop) (m : ι → Nat) (i0 : ι) (h0 : ok i0) (hw : Mv X ts H (st i0 ++ QeU kp ts) (Hs i0))
  (round : ∀ i, ok i → vc X c (st i ++ QeU kp ts) (Hs i) fun e ts' H' => match e with
   | .normal => ∃ j, ok j ∧ m j < m i ∧ Mv X ts' H' (st j ++ QeU kp ts) (Hs j)
   | .exit id => k (.exit id) ts' H'
   | .ret => k .ret ts' H') : Lp X c ts H k :=
 Lp.mk hΓ (fun i => st i ++ QeU kp ts) Hs ok m i0 h0 hw round
theorem Qxp {ops : Array Oper} {k : Kp} (kp : List Nat) (st : Ts) (H' : List O) (hm : Mv X ts H (st ++ QeU kp ts) H') (h : Dr X id ops (st ++ QeU kp ts) H' k) : Dr X id ops ts H k := ⟨AW.mv hm h.out⟩
def rowG {α : Type} [Inhabited α] (f : α → Nat → C) (l : List α) : Nat → Nat → C := fun i j => f (l.getD i default) j
section
variable {α : Type} [Inhabited α] {f : α → Nat → C}
theorem Qsv {l r : List α} {n : Nat} (hn : n = l.length) (j : Nat) : appG (rowG f l) n (rowG f r) i j = rowG f (l ++ r) i j := by
 subst hn
 simp only [appG, rowG, List.getD]
 split
 ·rw [QxS (by assumption)]
 ·rw [QxY om]
theorem QkY {l : List α} (j : Nat) : appG g 0 (rowG f l) i j = rowG f l i j := by simp [appG]
theorem QeY {l : List α} {n : Nat} {x : α} {cs : List C} (hn : n = l.length) (hc : ∀ j, j < es → lget cs j = f x j) {j : Nat} (hi : i < l.length + 1) (hj : j < es) : appG (rowG f l) n (QaE es cs) i j = rowG f (l ++ [x]) i j := by
 subst hn
 simp only [appG, rowG, List.getD]
 split
 ·rw [QxS (by assumption)]
 ·have : i = l.length := by omega
  subst this
  simp [QaE, hc j hj]
theorem QeA {l : List α} {k j0 : Nat} {x : α} {ys : List C} (hk : k < l.length) (hy : ∀ j, j < es → (if j0 ≤ j ∧ j < j0 + ys.length then lget ys (j - j0) else f (l.getD k default) j) = f x j) (i j : Nat) (hj : j < es) : updG (rowG f l) k j0 ys i j = rowG f (l.set k x) i j := by
 have hy' := hy j hj
 simp only [updG, rowG]
 by_cases c : i = k
 ·subst c
  have e : (l.set i x).getD i default = x := by simp [List.getD, hk]
  rw [e, ← hy']
  by_cases c2 : j0 ≤ j ∧ j < j0 + ys.length
  ·rw [Qxt ⟨rfl, c2⟩, Qxt c2]
  ·rw [Qxu (fun h => c2 h.2), Qxu c2]
 ·rw [Qxu (fun h => c h.1)]
  simp only [List.getD]
  rw [Qym (QyL c)]
end
theorem Qhl {e n : Nat} {g' : Nat → Nat → C} (hid : getL H id = some (.arr e es n g)) (hset : setL H id (.arr e es n g') = some H') : Ext H μ H' μ := by
 obtain ⟨h1, h2⟩ := Qaz hset
 refine ⟨fun i cs hc => ⟨⟨cs, ?_⟩, rfl⟩, fun i e' es' n' g'' hc => ?_, fun i sh z va ks val hc => ⟨⟨ks, val, ?_⟩, rfl⟩⟩
 ·by_cases c : i = id
  ·subst c; rw [hid] at hc; cases hc
  ·rw [h2 i c]; exact hc
 ·by_cases c : i = id
  ·subst c; rw [hid] at hc; cases hc
   exact ⟨_, g', h1, QxB _, fun _ => rfl⟩
  ·exact ⟨_, g'', by rw [h2 i c]; exact hc, QxB _, fun _ => rfl⟩
 ·by_cases c : i = id
  ·subst c; rw [hid] at hc; cases hc
  ·rw [h2 i c]; exact hc
theorem HSat.rg {K : Keep} {F : Mem} {w : World} (hw : HSat K F H μ w) {e n : Nat} {g' : Nat → Nat → C} (hid : getL H id = some (.arr e es n g))
  (hg : ∀ i, i < n → ∀ j, j < es → ∀ v, RepC F H μ (g i j) v → RepC F H μ (g' i j) v) (hset : setL H id (.arr e es n g') = some H') : HSat K F H' μ w := by
 obtain ⟨h1, h2⟩ := Qaz hset
 have hE : Ext H μ H' μ := Qhl hid hset
 have := hw.step id (.arr e es n g') (μ id) h1 h2 (by rw [Qy]; exact hE) (row := none) ⟨rfl, rfl, rfl, QxB _, fun _ _ _ => rfl⟩ (fun k e => by cases e) (fun b hb => .inl ⟨⟨_, hid, fun e => by cases e⟩, hb⟩) (by
  rw [Qy]
  obtain ⟨xs, x1, x2, x3, x4⟩ := hw.ob id _ hid
  exact ⟨xs, x1, x2, fun i hi j hj => by
   obtain ⟨v, v1, v2⟩ := x3 i hi j hj
   exact ⟨v, v1, RepC.mono (Mem.le_refl F) hE _ _ (hg i hi j hj v v2)⟩, x4⟩)
 rw [Qy] at this
 exact this
theorem RM.rg {n0 : Nat} {s s' : S} {H H' H'' : List O} (id : Nat) {e es n : Nat} {g g' : Nat → Nat → C} (hid : getL H id = some (.arr e es n g)) (hg : ∀ i, i < n → ∀ j, j < es → g i j = g' i j) (hset : setL H id (.arr e es n g') = some H')
  (h : RM n0 s H' s' H'') : RM n0 s H s' H'' :=
 RM.trans ⟨fun K F μ w v hw hs => by
  have hE : Ext H μ H' μ := Qhl hid hset
  exact ⟨F, μ, Mem.le_refl F, hw.rg hid (fun i hi j hj v hv => by rw [← hg i hi j hj]; exact hv) hset, RepS.mono (Mem.le_refl F) hE _ _ hs, fun _ _ _ he => he.trans hE⟩⟩ h
structure WR (ρ : Nat → Nat) (n : Nat) (H : List O) (rs : List Nat) (H' : List O) : Prop where
 len : rs.length = H'.length
 get : ∀ i a o', getL rs i = some a → getL H' i = some o' → ∃ o, getL H a = some o ∧ O.wk ρ n o o'
theorem WR.nil : WR ρ n H [] [] := ⟨rfl, fun i a o' h => by simp [getL] at h⟩
theorem WR.cons {H : List O} {a : Nat} {o o' : O} {r : List Nat} {r' : List O} (ha : getL H a = some o) (h : WO ρ n o o') (k : WR ρ n H r r') : WR ρ n H (a :: r) (o' :: r') := by
 refine ⟨by simp [k.len], fun i b x hb hx => ?_⟩
 cases i with
 | zero => simp only [getL, Qxv] at hb hx; subst hb; subst hx; exact ⟨o, ha, h.out⟩
 | succ i => exact k.get i b x (by simpa [getL] using hb) (by simpa [getL] using hx)
theorem QgY {α : Type} {l : List α} (h : i < l.length) : ∃ x, getL l i = some x := ⟨l[i], by rw [Qc]; simp [h]⟩
theorem Qwe (rs : List Nat) (hr : rs.Nodup) (h : WR (rho rs) H'.length H rs H') (hs : WS (rho rs) H'.length s s') : RM 0 s H s' H' := by
 refine QwR (rho rs) _ rfl ⟨fun i o' ho => ?_, fun i j hi hj e => ?_⟩ hs.out
 ·have hi := Qt ho
  rw [← h.len] at hi
  obtain ⟨a, ha⟩ := QgY hi
  have : rho rs i = a := by simp [rho, ha]
  rw [this]
  exact h.get i a o' ha ho
 ·rw [← h.len] at hi hj
  have e1 : rho rs i = rs[i] := by simp [rho, Qc, hi]
  have e2 : rho rs j = rs[j] := by simp [rho, Qc, hj]
  rw [e1, e2] at e
  have hp := Qyk.1 hr
  rcases Nat.lt_trichotomy i j with h | h | h
  ·exact absurd e (hp i j hi hj h)
  ·exact h
  ·exact absurd e.symm (hp j i hj hi h)
def intC (k : IntKind) (n : Int) (_ : Nat) : C := .int k n
def QaK (k : IntKind) (l : List Int) : Nat → Nat → C := rowG (intC k) l
def Qh (l : List Int) : C := .isl 1 l.length (QaK .i64 l) false
theorem Qnd {q : IntKind} {l : List Int} {k : Nat} {x : Int} (hk : k < l.length) (i j : Nat) (hj : j < 1) : updG (QaK q l) k 0 [.int q x] i j = QaK q (l.set k x) i j := by
 refine QeA hk (es := 1) (fun j hj => ?_) i j hj
 have : j = 0 := by omega
 subst this
 simp [lget, getL, intC]
section
variable {α : Type} [Inhabited α] {f : α → Int} {l : List α}
omit [Inhabited α] in
omit [Inhabited α] in
omit [Inhabited α] in
end
end Go.Am
end

section
namespace Go.Am
variable {H H' Hc : List O} {μ : Nat → Value} {id : Nat} {cs cs' : List C} {X : Cx} {ts : Ts} {f : FuncId} {args args' : List S} {dst : Option Tmp} {k : Ts → List O → Prop} {g : Bool} {s0 r : S} {P : Program}
theorem QmA (hid : getL H id = some (.vr cs)) (hset : setL H id (.vr cs') = some H') : Ext H μ H' μ := by
 obtain ⟨h1, h2⟩ := Qaz hset
 refine ⟨fun i ds hc => ⟨?_, rfl⟩, fun i e' es' n' g'' hc => ?_, fun i sh z va ks val hc => ⟨⟨ks, val, ?_⟩, rfl⟩⟩
 ·by_cases c : i = id
  ·subst c; exact ⟨_, h1⟩
  ·exact ⟨_, by rw [h2 i c]; exact hc⟩
 ·by_cases c : i = id
  ·subst c; rw [hid] at hc; cases hc
  ·exact ⟨_, g'', by rw [h2 i c]; exact hc, QxB _, fun _ => rfl⟩
 ·by_cases c : i = id
  ·subst c; rw [hid] at hc; cases hc
  ·rw [h2 i c]; exact hc
theorem HSat.rv {K : Keep} {F : Mem} {w : World} (hw : HSat K F H μ w) (hid : getL H id = some (.vr cs)) (hl : cs.length = cs'.length)
  (hg : ∀ (j : Nat) x y, getL cs j = some x → getL cs' j = some y → ∀ v, RepC F H μ x v → RepC F H μ y v) (hset : setL H id (.vr cs') = some H') : HSat K F H' μ w := by
 obtain ⟨h1, h2⟩ := Qaz hset
 have hE : Ext H μ H' μ := QmA hid hset
 have := hw.step id (.vr cs') (μ id) h1 h2 (by rw [Qy]; exact hE) (row := none) ⟨rfl, rfl, rfl, QxB _, fun _ _ _ => rfl⟩ (fun k e => by cases e) (fun b hb => .inl ⟨⟨_, hid, fun e => by cases e⟩, hb⟩) (by
  rw [Qy]
  obtain ⟨b, c, T, x1, x2, x3⟩ := hw.ob id _ hid
  refine ⟨b, c, T, x1, x2, by rw [x3.1, hl], fun j y hy => ?_⟩
  obtain ⟨x, hx⟩ := QgY (l := cs) (i := j) (by rw [hl]; exact Qt hy)
  obtain ⟨v, v1, v2⟩ := x3.2 j x hx
  exact ⟨v, v1, RepC.mono (Mem.le_refl F) hE _ _ (hg j x y hx hy v v2)⟩)
 rw [Qy] at this
 exact this
theorem Qv7 (id j e es : Nat) (g : Nat → Nat → C) (hid : getL H id = some (.vr cs)) (hj : getL cs j = some .nils) (hcs : setL cs j (.sl H.length es 0 0 false) = some cs')
  (hset : setL H id (.vr cs') = some H') : Mv X ts H ts (H' ++ [.arr e es 0 g]) := by
 intro K F0 H0 μ0 F μ a w hs
 have hE := Ext.push H μ (.arr e es 0 g) (.slice none 0 0)
 have hw : HSat K F (H ++ [.arr e es 0 g]) (upd μ H.length (.slice none 0 0)) w := hs.hs.push _ _ ⟨rfl, rfl, rfl, QxB _, fun _ _ _ => rfl⟩ (fun b hb => by cases hb) (by
  refine ⟨[], ?_, Qxx _, fun i hi => by omega, Sp.none (by simp [upd, blk])⟩
  simp only [upd, Qyo]
  exact World.ownsRow_nil w 0 e es)
 have hlt := Qt hid
 have hid' : getL (H ++ [.arr e es 0 g]) id = some (.vr cs) := by rw [Qad H _ id om]; exact hid
 have hset' : setL (H ++ [.arr e es 0 g]) id (.vr cs') = some (H' ++ [.arr e es 0 g]) := by
  have key : ∀ (l l' : List O) (i : Nat) (y z : O), setL l i y = some l' → setL (l ++ [z]) i y = some (l' ++ [z]) := by
   intro l
   induction l with
   | nil => intro l' i y z h; simp [setL] at h
   | cons x r ih =>
    intro l' i y z h
    cases i with
    | zero => simp only [setL, Qxv] at h; subst h; rfl
    | succ i =>
     simp only [setL, List.cons_append] at h ⊢
     cases hr : setL r i y with
     | none => rw [hr] at h; cases h
     | some r' =>
      rw [hr] at h
      cases h
      rw [ih r' i y z hr]
      rfl
  exact key _ _ _ _ _ hset
 obtain ⟨hjl, hcs2⟩ := Qkb _ _ _ _ hcs
 obtain ⟨hc1, hc2⟩ : getL cs' j = some (.sl H.length es 0 0 false) ∧ ∀ i, i ≠ j → getL cs' i = getL cs i := by
  subst hcs2
  refine ⟨by rw [Qc]; simp [hjl], fun i hi => ?_⟩
  rw [Qc, Qc, Qym (QyL hi)]
 have hE2 := QmA (μ := upd μ H.length (.slice none 0 0)) hid' hset'
 refine ⟨F, _, hs.le, (hs.ext.trans hE).trans hE2, hw.rv hid' (by rw [hcs2]; simp) (fun i x y hx hy v hv => ?_) hset', (hs.tp.mono (Mem.le_refl F) hE).mono (Mem.le_refl F) hE2, hs.sz, hs.df, hs.n0⟩
 by_cases c : i = j
 ·subst c
  rw [hj] at hx
  rw [hc1] at hy
  cases hx
  cases hy
  have hv' : v = .slice none 0 0 := hv
  subst hv'
  exact ⟨rfl, e, 0, g, QW _ _, QxB _, QxB _, fun _ => ⟨none, 0, by simp [upd], rfl, fun e => by cases e⟩⟩
 ·rw [hc2 i c, hx] at hy
  cases hy
  exact hv
theorem QvJ {e es n : Nat} {g : Nat → Nat → C} (id : Nat) (kp : List Nat) (st : Ts) (H' : List O) (args' : List S) (hid : getL H id = some (.arr e es n g)) (hn : X.n0 ≤ id)
  (him : ∀ i, i < n → ∀ j, j < es → (g i j).imm = true) (hH : WH idN H'.length (fzH id n g H) H') (ht : WT idN H'.length (fzT id n g ts) (st ++ QeU kp ts)) (ha : WB idN H'.length (fzA id n g args) args') (h0 : X.n0 ≤ H'.length)
  (h : CallN X f args' dst (st ++ QeU kp ts) H' k) : CallN X f args dst ts H k :=
 QwF id hid hn him _ rfl hH.out ht.out ha.out h0 h
def Qcd : List O → Bool
 | [] => true
 | .dead :: _ => false
 | _ :: r => Qcd r
theorem QbM : ∀ {H : List O}, Qcd H = true → ∀ i, getL H i ≠ some .dead
 | [], _, i => by simp [getL]
 | .dead :: _, h, _ => by simp [Qcd] at h
 | .vr cs :: r, h, i => by
  cases i with
  | zero => simp [getL]
  | succ i => exact QbM (H := r) h i
 | .arr e es n g :: r, h, i => by
  cases i with
  | zero => simp [getL]
  | succ i => exact QbM (H := r) h i
 | .mp sh z va ks val :: r, h, i => by
  cases i with
  | zero => simp [getL]
  | succ i => exact QbM (H := r) h i
theorem Qwh {rs : List Nat} (hr : rs.Nodup) (h : WR (rho rs) Hc.length H rs Hc) : Fr H Hc rs := by
 refine ⟨h.len, ⟨fun i o' ho => ?_, fun i j hi hj e => ?_⟩⟩
 ·have hi := Qt ho
  rw [← h.len] at hi
  obtain ⟨a, ha⟩ := QgY hi
  have : rho rs i = a := by simp [rho, ha]
  rw [this]
  exact h.get i a o' ha ho
 ·rw [← h.len] at hi hj
  have e1 : rho rs i = rs[i] := by simp [rho, Qc, hi]
  have e2 : rho rs j = rs[j] := by simp [rho, Qc, hj]
  rw [e1, e2] at e
  have hp := Qyk.1 hr
  rcases Nat.lt_trichotomy i j with h | h | h
  ·exact absurd e (hp i j hi hj h)
  ·exact h
  ·exact absurd e.symm (hp j i hj hi h)
theorem CallN.frameQ {Hc0 : List O} (rs : List Nat) (hb : HasBody X.P f) (hc : CSpec X.P f args' Hc fun s H' => s = s0 ∧ H' = Hc0) (hr : rs.Nodup) (h : WR (rho rs) Hc.length H rs Hc)
  (hd : Qcd Hc = true) (ha : WB (rho rs) Hc.length args args') 
  (hk : Qat (plug rs H Hc0) fun H1 => Q4 (reS (sg rs H.length) s0) fun s' => putK X.nt dst s' ts fun ts' => k ts' H1) : CallN X f args dst ts H k :=
 CallN.frame hb hc rs (Qwh hr h) (QbM hd) ha.out fun s Hc' hq => by
  obtain ⟨rfl, rfl⟩ := hq
  exact ⟨_, _, rfl, rfl, hk⟩
def memI : List S → Nat → Bool
 | [], _ => false
 | s :: r, n => (match idS s with
  | some m => Nat.beq m n
  | none => false) || memI r n
theorem QoK : ∀ {l : List S} {n : Nat}, memI l n = true → ∃ a ∈ l, idS a = some n
 | [], _, h => by simp [memI] at h
 | s :: r, n, h => by
  simp only [memI, QyA] at h
  rcases h with h | h
  ·refine ⟨s, by simp, ?_⟩
   cases hs : idS s with
   | none => rw [hs] at h; cases h
   | some m =>
    rw [hs] at h
    have := QxD h
    subst this; rfl
  ·obtain ⟨a, a1, a2⟩ := QoK h
   exact ⟨a, by simp [a1], a2⟩
theorem CallE.frameQ {Hc0 : List O} (rs : List Nat) (hb : HasBody P f) (hc : CSpec P f args' Hc fun s H' => s = s0 ∧ H' = Hc0) (hr : rs.Nodup) (h : WR (rho rs) Hc.length H rs Hc)
  (hd : Qcd Hc = true) (ha : WB (rho rs) Hc.length args args') (hrs : rs.all (memI args) = true) {k : S → List O → Prop} (hk : k (reS (sg rs H.length) s0) (plug rs H Hc0)) : CallE P f args H k := by
 refine ⟨_, _, hb, CSpec.frame hc rs (Qwh hr h) (QbM hd) ha.out fun s Hc' hq => ?_, fun id o hid ho => ?_, hk⟩
 ·obtain ⟨rfl, rfl⟩ := hq
  exact ⟨rfl, rfl⟩
 ·refine (Fr.old (μ := fun _ => undef) (μ' := fun _ => undef) (Qwh hr h) ho ?_).1
  cases hx : idx rs id with
  | none => rfl
  | some i =>
   have hm := Qbd hx
   rw [Qc] at hm
   have := Qx2.1 hrs id (Qx8 hm)
   obtain ⟨a, a1, a2⟩ := QoK this
   exact absurd a2 (hid a a1)
theorem QwG (hb : HasBody P f) (hp : g = true → PSpec P f args' r) (ha : WA args args') (hr : r.imm = true) {k : S → Prop} (hk : k r) : CallP P g f args k := Qw9 hb hp (fun _ => ha.out) hr hk
theorem CallG.pureW (hb : HasBody P f) (hp : g = true → PSpec P f args' r) (ha : WA args args') (hr : r.imm = true) {k : S → List O → Prop} (hk : k r H) : CallG P g f args H k := CallG.pure hb hp (fun _ => ha.out) hr hk
end Go.Am
end

section
namespace Go.Am
open Go.RowKit
variable {v : Value} {F : Mem} {μ : Nat → Value}
theorem PSpec.lawB {P : Program} {f : FuncId} {args : List S} (h : PSpec P f args (.c (.bool true))) (w : World) (vs : Array Value) (hA : RepA (QaV w) [] (fun _ => undef) args vs) :
  Calls P f vs w fun e w' => e = .returned (.bool true) ∧ Below w.heap.size w w' := by
 have hw0 : HSat ⟨[], fun _ => none, w.os, w.tape, w.output⟩ (QaV w) [] (fun _ => undef) w :=
  ⟨rfl, rfl, rfl, fun b o hb => hb, fun b o hb => (by cases hb), fun id o ho => by simp [getL] at ho, fun id b ⟨⟨o, ho, _⟩, _⟩ => by simp [getL] at ho, fun id id' b ⟨⟨o, ho, _⟩, _⟩ => by simp [getL] at ho, fun _ _ _ => rfl⟩
 refine (h _ (QaV w) (fun _ => undef) w vs hw0 hA).mono ?_
 rintro e w' ⟨v, F', μ', s, H', rfl, h1, h2, h3, h4, rfl⟩
 have hb : ∀ (b : Nat) (o : Obj), w.heap[b]? = some o → w'.heap[b]? = some o := fun b o hb => h2.fr b o (h1 b o hb)
 have hbl : ∀ k, k < w.heap.size → w'.heap[k]? = w.heap[k]? := fun k hk => by
  have e : w.heap[k]? = some w.heap[k] := by simp [hk]
  rw [e, hb k _ e]
 refine ⟨QxK _ h4, h2.os, h2.tape, h2.output, ?_, hbl⟩
 rcases Nat.lt_or_ge w'.heap.size w.heap.size with c | c
 ·have h0 := hbl w'.heap.size c
  rw [Qx1 (QxB _), Qx9 c] at h0
  cases h0
 ·exact c
theorem Qjo {w : World} {a : Addr} (h : w.cell? a = some v) : a = ⟨a.block, a.off, none⟩ ∧ (QaV w).cell a.block a.off = some v := by
 have hs := World.cell?_spot h
 unfold World.cell? at h
 refine ⟨by cases a; simp_all, ?_⟩
 unfold Mem.cell QaV
 split at h
 ·rename_i c e f hc
  rw [hc]
  rw [hs] at h
  simpa using h
 ·cases h
def RepAL (F : Mem) (μ : Nat → Value) : List S → List Value → Prop
 | [], [] => True
 | s :: r, v :: r' => RepS F [] μ s v ∧ RepAL F μ r r'
 | _, _ => False
theorem RepAL.get {F : Mem} {μ : Nat → Value} : ∀ {l : List S} {vs : List Value}, RepAL F μ l vs → vs.length = l.length ∧ ∀ (j : Nat) s, getL l j = some s → ∃ v, vs[j]? = some v ∧ RepS F [] μ s v
 | [], [], _ => ⟨rfl, fun j s h => by simp [getL] at h⟩
 | s :: r, v :: r', h => by
  obtain ⟨h1, h2⟩ := RepAL.get h.2
  refine ⟨by simp [h1], fun j x hx => ?_⟩
  cases j with
  | zero => simp only [getL, Qxv] at hx; subst hx; exact ⟨v, rfl, h.1⟩
  | succ j => simp only [getL] at hx; simpa using h2 j x hx
 | [], _ :: _, h => h.elim
 | _ :: _, [], h => h.elim
theorem RepA.ofL {l : List S} {vs : List Value} (h : RepAL F μ l vs) : RepA F [] μ l vs.toArray := by
 obtain ⟨h1, h2⟩ := RepAL.get h
 exact ⟨by simpa using h1, fun j s hs => by simpa using h2 j s hs⟩
theorem RepS.ofF {c : C} (h : RepF F c v) : RepS F [] μ (.c c) v := RepF.toC [] μ c v h
end Go.Am
end

section
namespace Go.Am
open Go.RowKit
section
variable {H : Type} {enc : TypeId × Value → H} {P : Program}
structure Rd (enc : TypeId × Value → H) (P : Program) (t : TypeId) (n : Nat) (α : Type) (cell : α → Nat → C) (good : α → DataW H → Prop) : Prop where
 cells : P.cellsOf t = n
 out : ∀ (W : World) (sp : Nat → Bool) (fuel : Nat) (cs : List Value) x, DataW.trod enc P W 0 sp true fuel t cs = some x → cs.length = n ∧ ∃ a : α, (∀ j, j < n → ∃ v, cs[j]? = some v ∧ RepF (QaV W) (cell a j) v) ∧ good a x.1
theorem Qj7 {v : Value} {j : Nat} (h : j < 1) : [v][j]? = some v := by
 have : j = 0 := by omega
 subst this; rfl
theorem Rd.int {t : TypeId} {k : IntKind} (ht : P.underlying t = some (.int k)) (hc : P.cellsOf t = 1) : Rd enc P t 1 Int (fun n _ => .int k n) fun n d => (Lit.int k n).wf = true ∧ d = .lit (.int k n) :=
 ⟨hc, fun W sp fuel cs x h => by
  obtain ⟨n, rfl, rfl, hw⟩ := DataW.trod_int ht h
  exact ⟨rfl, n, fun j hj => ⟨.int k n, Qj7 hj, rfl⟩, hw, rfl⟩⟩
theorem Rd.str {t : TypeId} (ht : P.underlying t = some .string) (hc : P.cellsOf t = 1) : Rd enc P t 1 ByteArray (fun s _ => .str s) fun s d => s.size ≤ maxLen ∧ d = .lit (.string s.data.toList) :=
 ⟨hc, fun W sp fuel cs x h => by
  obtain ⟨s, rfl, rfl, hw⟩ := DataW.trod_string ht h
  exact ⟨rfl, s, fun j hj => ⟨.string s, Qj7 hj, rfl, hw⟩, hw, rfl⟩⟩
theorem Rd.bool {t : TypeId} (ht : P.underlying t = some .bool) (hc : P.cellsOf t = 1) : Rd enc P t 1 Bool (fun b _ => .bool b) fun b d => d = .lit (.bool b) :=
 ⟨hc, fun W sp fuel cs x h => by
  obtain ⟨b, rfl, rfl⟩ := DataW.trod_bool ht h
  exact ⟨rfl, b, fun j hj => ⟨.bool b, Qj7 hj, rfl⟩, rfl⟩⟩
def Qtv {α : Type} (good : α → DataW H → Prop) (l : List α) (d : DataW H) : Prop :=
 (d = .nil ∧ l = []) ∨ ∃ es sp, d = .slice es sp ∧ es.length = l.length ∧ ∀ (i : Nat) a e, l[i]? = some a → es[i]? = some e → good a e
theorem Rd.slice {t e : TypeId} {n : Nat} {α : Type} [Inhabited α] {cell : α → Nat → C} {good : α → DataW H → Prop} (ht : P.underlying t = some (.slice e)) (hc : P.cellsOf t = 1) (hn : 0 < n) (he : Rd enc P e n α cell good) :
  Rd enc P t 1 (List α) (fun l _ => .isl n l.length (rowG cell l) false) (Qtv good) :=
 ⟨hc, fun W sp fuel cs x h => by
  rcases DataW.trod_slice ht h with ⟨rfl, rfl⟩ | ⟨a, len, cap, elems, rest, m, -, rfl, rfl, -, h1, h2, h3, h4, -⟩
  ·exact ⟨rfl, [], fun j hj => ⟨.slice none 0 0, Qj7 hj, none, 0, rfl, Qxx _, QxB _, fun e => (by cases e), fun _ => rfl, .inl rfl⟩, .inl ⟨rfl, rfl⟩⟩
  ·rw [he.cells] at h4
   have key : ∀ i, i < len → ∃ b : α, ∃ y, elems[i]? = some y ∧ good b y.1 ∧ ∀ j, j < n → ∃ v, W.cell? ((a.add (i * n)).add j) = some v ∧ RepF (QaV W) (cell b j) v := by
    intro i hi
    have hq := h4 i hi
    have hy : elems[i]? = some (elems[i]'om) := by simp [h3, hi]
    rw [hy] at hq
    simp only [Option.bind_eq_some_iff] at hq
    obtain ⟨cs', c1, c2⟩ := hq
    obtain ⟨-, l1, l2⟩ := World.cells?_some c1
    obtain ⟨l3, b, b1, b2⟩ := he.out W sp m cs' _ c2
    refine ⟨b, _, hy, b2, fun j hj => ?_⟩
    obtain ⟨v, v1, v2⟩ := b1 j hj
    exact ⟨v, by rw [l2 j hj]; exact v1, v2⟩
   classical
   let f : Nat → α := fun i => if h : i < len then (key i h).choose else default
   have hf : ∀ i (h : i < len), f i = (key i h).choose := fun i h => by simp only [f]; rw [dif_pos h]
   let l : List α := (List.range len).map f
   have hl : l.length = len := by simp [l]
   have hg : ∀ i, i < len → l.getD i default = f i := fun i h => by simp [l, List.getD, h]
   refine ⟨rfl, l, fun j hj => ⟨.slice (some a) len cap, Qj7 hj, ?_⟩, .inr ⟨elems.map (·.1), rest.map (·.1), rfl, by simp [h3, hl], fun i b e hb he' => ?_⟩⟩
   ·rw [hl]
    refine ⟨some a, cap, rfl, om, h1, fun e => (by cases e), fun e => (by cases e), ?_⟩
    by_cases c : len = 0
    ·exact .inl c
    ·right
     obtain ⟨v0, w0, -⟩ := (key 0 om).choose_spec.choose_spec.2.2 0 om
     rw [show (a.add (0 * n)).add 0 = a by simp [Addr.add]] at w0
     obtain ⟨hx, _⟩ := Qjo w0
     refine ⟨a.block, a.off, QxK some hx, fun i hi j hj => ?_⟩
     obtain ⟨v, v1, v2⟩ := (key i hi).choose_spec.choose_spec.2.2 j hj
     rw [hx, QaS, QaS] at v1
     obtain ⟨_, e⟩ := Qjo v1
     refine ⟨v, e, ?_⟩
     simp only [rowG]
     rw [hg i hi, hf i hi]
     exact v2
   ·have hi : i < len := by
     have := (QxU.1 hb).1
     omega
    obtain ⟨y1, y2, -⟩ := (key i hi).choose_spec.choose_spec
    have e1 : b = (key i hi).choose := by
     have : l[i]? = some (f i) := by simp [l, hi]
     rw [this, hf i hi] at hb
     exact (Qyv hb).symm
    rw [Qyx, y1] at he'
    cases he'
    rw [e1]
    exact y2⟩
end
end Go.Am
end

section
namespace Go.Am
variable {ρ : Nat → Nat} {g : Nat → Nat → C}
def C.plain : C → Bool
 | .ptr .. => false
 | .ep .. => false
 | .sl .. => false
 | .mpr .. => false
 | .fn .. => false
 | _ => true
theorem Qrv {c : C} (h : c.plain = true) : c.imm = true := by cases c <;> first | rfl | cases h
class PlainF {α : Type} (f : α → Nat → C) : Prop where
 out : ∀ x j, (f x j).plain = true
theorem Qdb {α : Type} [Inhabited α] {f : α → Nat → C} [PlainF f] (l : List α) (i j : Nat) : (rowG f l i j).plain = true := PlainF.out (f := f) (l.getD i default) j
theorem Qxg {n e es m m' : Nat} (h : ∀ i j, (g i j).plain = true) (hm : m = m') : WO ρ n (.arr e es m g) (.arr e es m' g) :=
 WO.arr hm fun i _ j _ => WC.imm (Qrv (h i j))
theorem Qv9 {n e es m m' : Nat} (h : ∀ i j, (g i j).plain = true) (hm : m = m' := by (first | with_reducible rfl | assumption | (symm; assumption) | omega | (dsimp only; omega) | (rw [Qa _ om om]; first | rfl | omega | (push_cast; omega)) | rfl | (simp <;> fail))) : WO ρ n (.arr e es m g) (.arr e es m' g) := Qxg h hm
end Go.Am
end
