import Derived.Test.YtbdhjlanfigdgaaA22
/- THE ABSTRACT MACHINE, PART 23: a call that only reads, and whose result has no memory. -/
namespace Go.Am

def C.flat : C → Bool
  | .junk => true
  | .bool _ => true
  | .int _ _ => true
  | .str _ => true
  | .nilp => true
  | .nilfn => true
  | .nils => true
  | _ => false

def E.flat : C ⊕ List C → Bool
  | .inl y => y.flat
  | .inr ys => ys.all C.flat

def S.flat : S → Bool
  | .u => true
  | .c x => x.flat
  | .a xs => xs.all C.flat
  | .t l => l.all E.flat
  | .lz _ s => s.flat

theorem flatC {F F' : Mem} {H H' : List O} {μ μ' : Nat → Value} {c : C} (hc : c.flat = true) {v : Value} (h : RepC F H μ c v) : RepC F' H' μ' c v := by
  cases c <;> first | exact h | exact absurd hc (by simp [C.flat])
theorem flatL {F F' : Mem} {H H' : List O} {μ μ' : Nat → Value} {xs : List C} (hc : xs.all C.flat = true) {cs : Array Value} (h : RepL F H μ xs cs) : RepL F' H' μ' xs cs :=
  ⟨h.1, fun j x hx => let ⟨v, v1, v2⟩ := h.2 j x hx; ⟨v, v1, flatC (all_get hc hx) v2⟩⟩
theorem flatS {F F' : Mem} {H H' : List O} {μ μ' : Nat → Value} : ∀ {s : S}, s.flat = true → ∀ {v : Value}, RepS F H μ s v → RepS F' H' μ' s v
  | .u, _, _, _ => trivial
  | .c _, hc, _, h => flatC hc h
  | .a _, hc, _, ⟨cs, h1, h2⟩ => ⟨cs, h1, flatL hc h2⟩
  | .t l, hc, _, ⟨vs, h1, h2, h3⟩ => ⟨vs, h1, h2, fun j x hx => by
      obtain ⟨u, u1, u2⟩ := h3 j x hx
      refine ⟨u, u1, ?_⟩
      have := all_get (p := E.flat) hc hx
      cases x with
      | inl c => exact flatC this u2
      | inr cs => obtain ⟨k, k1, k2⟩ := u2; exact ⟨k, k1, flatL this k2⟩⟩
  | .lz _ s, hc, _, h => ⟨fun hg => flatS (s := s) hc (h.1 hg), h.2⟩

def heapM (w : World) : Mem := fun b => w.heap[b]?

/-- A cell beside tracked objects, when all memory is taken for frozen. -/
def Bw (H : List O) (c c' : C) : Prop := ∀ K F μ w v, HSat K F H μ w → RepC F H μ c v → RepF (heapM w) c' v

theorem Bw.imm {H : List O} {c c' : C} (h : c.imm = true) (h' : c'.imm = true) (hw : wkC idN 0 c c') : Bw H c c' := by
  intro K F μ w v hs hv
  have hle : F.le (heapM w) := fun b o hb => hs.fr b o hb
  have h1 : RepC F [] μ c v := immC h hv
  have h2 := wkC_ok HWk.nil c c' hw v h1
  exact (imm_rep h' h2).mono hle

theorem Bw.same {H : List O} {c : C} (h : c.imm = true) : Bw H c c := Bw.imm h h (wkC.imm h)

theorem Bw.sl {H : List O} {id es l t e n : Nat} {x x' : Bool} {g g' : Nat → Nat → C} (hid : getL H id = some (.arr e es n g)) (ht : t = n) (hg : ∀ i, i < l → ∀ j, j < es → Bw H (g i j) (g' i j)) (hx : x' = true → x = true ∧ l = n) :
    Bw H (.sl id es l t x) (.isl es l g' x') := by
  subst ht
  intro K F μ w v hw hv
  obtain ⟨h0, e', n', g'', h1, h2, h3, h4⟩ := hv
  rw [hid] at h1
  cases h1
  obtain ⟨a', cap, q1, q2, q3⟩ := h4 rfl
  obtain ⟨xs, ⟨r1, r2⟩, r3, r4⟩ := hw.ob id _ hid
  rcases r2 with ⟨s1, s2⟩ | ⟨b, cap', cur, s1, _, s3, s4, s5, s6, s7⟩
  · rw [q1] at s1
    cases s1
    exact ⟨none, 0, q2, by omega, by omega, fun _ => by omega, fun _ => rfl, .inl (by omega)⟩
  · rw [q1] at s1
    cases s1
    refine ⟨_, _, q2, by omega, by omega, fun q => ?_, fun q => (by cases q), .inr ⟨b, 0, rfl, fun i hi j hj => ?_⟩⟩
    · obtain ⟨hx1, hx2⟩ := hx q
      rw [q3 hx1, hx2]
    · obtain ⟨y, y1, y2⟩ := r4 i (by omega) j hj
      have hlt : i * es + j < t * es := Nat.lt_of_lt_of_le (show i * es + j < (i + 1) * es by rw [Nat.add_mul]; omega) (Nat.mul_le_mul_right es (by omega))
      refine ⟨y, ?_, hg i hi j hj K F μ w y hw y2⟩
      simp only [Mem.cell, heapM, s3]
      simp only [Nat.zero_add]
      rw [← s7] at y1
      rw [List.getElem?_take_of_lt (by simpa using hlt)] at y1
      simpa using y1

theorem Bw.ptr {H : List O} {id off n : Nat} {cs : List C} {g : Nat → C} (hid : getL H id = some (.vr cs)) (hg : ∀ j, j < n → ∃ c, getL cs (off + j) = some c ∧ Bw H c (g j)) : Bw H (.ptr id off) (.ip n g) := by
  intro K F μ w v hw hv
  obtain ⟨_, b, h2, h3⟩ := hv
  obtain ⟨b', c, T, q1, q2, q3⟩ := hw.ob id _ hid
  rw [h2] at q1
  cases q1
  refine ⟨b, off, h3, fun j hj => ?_⟩
  obtain ⟨x, x1, x2⟩ := hg j hj
  obtain ⟨u, u1, u2⟩ := q3.2 _ x x1
  refine ⟨u, ?_, x2 K F μ w u hw u2⟩
  simp only [Mem.cell, heapM, q2]
  exact u1

def BwL (H : List O) : List C → List C → Prop
  | [], [] => True
  | c :: r, c' :: r' => Bw H c c' ∧ BwL H r r'
  | _, _ => False

theorem BwL_get {H : List O} : ∀ {xs ys : List C}, BwL H xs ys → xs.length = ys.length ∧ ∀ (j : Nat) x y, getL xs j = some x → getL ys j = some y → Bw H x y
  | [], [], _ => ⟨rfl, fun j x y h => by simp [getL] at h⟩
  | x :: r, y :: r', h => by
    obtain ⟨h1, h2⟩ := BwL_get h.2
    refine ⟨by simp [h1], fun j a b ha hb => ?_⟩
    cases j with
    | zero => simp only [getL, Option.some.injEq] at ha hb; subst ha; subst hb; exact h.1
    | succ j => simp only [getL] at ha hb; exact h2 j a b ha hb
  | [], _ :: _, h => h.elim
  | _ :: _, [], h => h.elim

/-- A slot's value. -/
def BwS (H : List O) : S → S → Prop
  | .c x, .c y => Bw H x y
  | .a xs, .a ys => BwL H xs ys
  | _, _ => False

def BwA (H : List O) : List S → List S → Prop
  | [], [] => True
  | s :: r, s' :: r' => BwS H s s' ∧ BwA H r r'
  | _, _ => False

theorem BwS_ok {H : List O} {K : Keep} {F : Mem} {μ : Nat → Value} {w : World} (hw : HSat K F H μ w) : ∀ {s s' : S}, BwS H s s' → ∀ {v : Value}, RepS F H μ s v → RepS (heapM w) [] μ s' v
  | .c x, .c y, h, v, hv => RepF.toC _ _ y v (h K F μ w v hw hv)
  | .a xs, .a ys, h, _, ⟨cs, h1, h2⟩ => by
    obtain ⟨k1, k2⟩ := BwL_get h
    refine ⟨cs, h1, h2.1.trans k1, fun j y hy => ?_⟩
    have hj := getL_lt hy
    have hx : getL xs j = some (xs[j]'(by omega)) := by rw [getL_eq]; simp
    obtain ⟨v, v1, v2⟩ := h2.2 j _ hx
    exact ⟨v, v1, RepF.toC _ _ y v (k2 j _ y hx hy K F μ w v hw v2)⟩
  | .u, _, h, _, _ => h.elim
  | .t _, _, h, _, _ => h.elim
  | .lz _ _, _, h, _, _ => h.elim
  | .c _, .u, h, _, _ => h.elim
  | .c _, .a _, h, _, _ => h.elim
  | .c _, .t _, h, _, _ => h.elim
  | .c _, .lz _ _, h, _, _ => h.elim
  | .a _, .u, h, _, _ => h.elim
  | .a _, .c _, h, _, _ => h.elim
  | .a _, .t _, h, _, _ => h.elim
  | .a _, .lz _ _, h, _, _ => h.elim

theorem BwA_ok {H : List O} {K : Keep} {F : Mem} {μ : Nat → Value} {w : World} (hw : HSat K F H μ w) : ∀ {l l' : List S}, BwA H l l' → ∀ {vs : Array Value} {o : Nat}, (∀ (j : Nat) s, getL l j = some s → ∃ v, vs[o + j]? = some v ∧ RepS F H μ s v) →
    l.length = l'.length ∧ ∀ (j : Nat) s, getL l' j = some s → ∃ v, vs[o + j]? = some v ∧ RepS (heapM w) [] μ s v
  | [], [], _, _, _, _ => ⟨rfl, fun j s h => by simp [getL] at h⟩
  | s :: r, s' :: r', ⟨h2, h3⟩, vs, o, hh => by
    obtain ⟨k1, k2⟩ := BwA_ok hw (o := o + 1) h3 (fun j t ht => by
      obtain ⟨v, v1, v2⟩ := hh (j + 1) t (by simpa [getL] using ht)
      exact ⟨v, by rw [← v1]; congr 1; omega, v2⟩)
    refine ⟨by simp [k1], fun j t ht => ?_⟩
    cases j with
    | zero =>
      simp only [getL, Option.some.injEq] at ht
      subst ht
      obtain ⟨v, v1, v2⟩ := hh 0 s rfl
      exact ⟨v, v1, BwS_ok hw h2 v2⟩
    | succ j =>
      simp only [getL] at ht
      obtain ⟨v, v1, v2⟩ := k2 j t ht
      exact ⟨v, by rw [← v1]; congr 1; omega, v2⟩
  | [], _ :: _, h, _, _, _ => h.elim
  | _ :: _, [], h, _, _, _ => h.elim

theorem HSat.later {K : Keep} {F : Mem} {H : List O} {μ : Nat → Value} {w w' : World} (hw : HSat K F H μ w) (h1 : w'.os = w.os) (h2 : w'.tape = w.tape) (h3 : w'.output = w.output) (h4 : ∀ (b : Nat) (o : Obj), w.heap[b]? = some o → w'.heap[b]? = some o) : HSat K F H μ w' := by
  refine ⟨h1.trans hw.os, h2.trans hw.tape, h3.trans hw.output, fun b o hb => h4 b o (hw.fr b o hb), fun b o hb => h4 b o (hw.kp b o hb), fun id o ho => ?_, hw.sp, hw.ij, hw.dj⟩
  have := hw.ob id o ho
  cases o with
  | vr cs =>
    obtain ⟨b, c, T, q1, q2, q3⟩ := this
    exact ⟨b, c, T, q1, h4 _ _ q2, q3⟩
  | arr e es n g =>
    obtain ⟨xs, ⟨q1, q2⟩, q3⟩ := this
    refine ⟨xs, ⟨q1, ?_⟩, q3⟩
    rcases q2 with q | ⟨g', cap, cur, q, r2, r3, rest⟩
    · exact .inl q
    · exact .inr ⟨g', cap, cur, q, r2, h4 _ _ r3, rest⟩
  | dead => trivial

/-- A call that only reads. -/
theorem CSpec.reads {P : Program} {f : FuncId} {args args' : List S} {r : S} {H : List O} (hp : PSpec P f args' r) (ha : BwA H args args') (hr : r.flat = true) {k : S → List O → Prop} (hk : k r H) : CSpec P f args H k := by
  intro K F μ w vs hw hA
  obtain ⟨l1, l2⟩ := BwA_ok hw (o := 0) ha (fun j s hs => by simpa using hA.2 j s hs)
  have hw0 : HSat { K with mem := fun _ => none } (heapM w) [] μ w :=
    ⟨hw.os, hw.tape, hw.output, fun b o hb => hb, fun b o hb => (by cases hb), fun id o ho => by simp [getL] at ho, fun id b ⟨⟨o, ho, _⟩, _⟩ => by simp [getL] at ho, fun id id' b ⟨⟨o, ho, _⟩, _⟩ => by simp [getL] at ho, fun _ _ _ => rfl⟩
  refine (hp _ (heapM w) μ w vs hw0 ⟨hA.1.trans l1, fun j s hs => by simpa using l2 j s hs⟩).mono ?_
  rintro e w' ⟨v, F', μ', s, H', rfl, h1, h2, h3, h4, rfl⟩
  exact ⟨v, F, μ, s, H, rfl, Mem.le_refl F, hw.later (h2.os.trans hw.os.symm) (h2.tape.trans hw.tape.symm) (h2.output.trans hw.output.symm) (fun b o hb => h2.fr b o (h1 b o hb)), Ext.refl H μ, flatS hr h4, hk⟩

theorem CallN.reads {X : Cx} {f : FuncId} {args args' : List S} {r : S} {dst : Option Tmp} {ts : Ts} {H : List O} (hb : HasBody X.P f) (hp : PSpec X.P f args' r) (ha : BwA H args args') (hr : r.flat = true) {k : Ts → List O → Prop}
    (hk : forceS r fun s' => putK X.nt dst s' ts fun ts' => k ts' H) : CallN X f args dst ts H k :=
  CallN.spec hb (CSpec.reads hp ha hr (by rw [forceH_eq]; exact hk))

theorem CallG.reads {P : Program} {g : Bool} {f : FuncId} {args args' : List S} {r : S} {H : List O} (hb : HasBody P f) (hp : g = true → PSpec P f args' r) (ha : g = true → BwA H args args') (hr : r.flat = true) {k : S → Prop} (hk : k r) : CallG P g f args H k :=
  CallG.mk r (fun hg => ⟨hb, CSpec.reads (hp hg) (ha hg) hr ⟨rfl, rfl⟩⟩) hk


theorem fzC_sl {id n es l t : Nat} {x : Bool} {g : Nat → Nat → C} (ht : t = n) : fzC id n g (.sl id es l t x) = .isl es l g (Nat.beq l t && x) := by
  subst ht
  have h1 : Nat.beq id id = true := Nat.beq_refl id
  have h2 : Nat.beq t t = true := Nat.beq_refl t
  simp only [fzC, h1, h2]

theorem wkC.fz {ρ : Nat → Nat} {m id n es l t l' : Nat} {x x' : Bool} {g g' : Nat → Nat → C} (ht : t = n) (hl : l = l') (hg : ∀ i, i < l → ∀ j, j < es → leF (g i j) (g' i j)) (hx : x' = true → x = true ∧ l = t) :
    wkC ρ m (fzC id n g (.sl id es l t x)) (.isl es l' g' x') := by
  rw [fzC_sl ht]
  refine wkC.isl' (leF.isl hl hg fun e => ?_)
  obtain ⟨h1, h2⟩ := hx e
  subst h2
  rw [Nat.beq_refl, h1]; rfl

/-- The array is frozen ahead of a call; what is needed afterwards is listed. -/
theorem CallN.fzTo {X : Cx} {f : FuncId} {args args' : List S} {dst : Option Tmp} {ts ts' : Ts} {H H' : List O} {k : Ts → List O → Prop} {e es n : Nat} {g : Nat → Nat → C} (id : Nat) (hid : getL H id = some (.arr e es n g)) (hn : X.n0 ≤ id)
    (him : ∀ i, i < n → ∀ j, j < es → (g i j).imm = true) (m : Nat) (hm : H'.length = m) (hH : HWkL idN m (fzH id n g H) H') (ht : wkT idN m (fzT id n g ts) ts') (ha : wkA idN m (fzA id n g args) args') (h0 : X.n0 ≤ m)
    (h : CallN X f args' dst ts' H' k) : CallN X f args dst ts H k := by
  refine CallN.fz id hid hn him ?_
  subst hm
  obtain ⟨h1, h2⟩ := h.out
  have hk : HWk idN (fzH id n g H) H' := ⟨fun i o' hi => HWkL_get hH i o' hi, fun i j _ _ e => e⟩
  refine ⟨h1, fun K F0 H0 μ0 F μ a w vs hs hA => ?_⟩
  obtain ⟨l1, l2⟩ := wkA_ok hk (o := 0) ha (fun j s hs => by simpa using hA.2 j s hs)
  exact h2 K F0 H0 μ0 F (fun i => μ (idN i)) a w vs (hs.wk ⟨hk, ht, h0⟩) ⟨hA.1.trans l1, fun j s hs => by simpa using l2 j s hs⟩


/-- A call by a contract that was proved beside nothing; what is there afterwards is said. -/
theorem CallN.opens {X : Cx} {f : FuncId} {args args' : List S} {dst : Option Tmp} {ts : Ts} {H : List O} {Q : S → List O → Prop} (hb : HasBody X.P f) (hc : CSpec X.P f args' [] Q) (ha : leA args args') {k : Ts → List O → Prop}
    (hk : ∀ s Hc', Q s Hc' → ∃ s'' H'', reS (sg [] H.length) s = s'' ∧ plug [] H Hc' = H'' ∧ forceH H'' fun H1 => forceS s'' fun s' => putK X.nt dst s' ts fun ts' => k ts' H1) : CallN X f args dst ts H k := by
  refine CallN.spec hb (CSpec.opens hc ha fun s Hc' hq => ?_)
  obtain ⟨s'', H'', rfl, rfl, h⟩ := hk s Hc' hq
  exact h

/-- A call by a contract that was proved beside fewer objects; what is there afterwards is said. -/
theorem CallN.frame {X : Cx} {f : FuncId} {args args' : List S} {dst : Option Tmp} {ts : Ts} {H Hc : List O} {Q : S → List O → Prop} (hb : HasBody X.P f) (hc : CSpec X.P f args' Hc Q) (rs : List Nat) (h : Fr H Hc rs) (hd : ∀ i, getL Hc i ≠ some .dead)
    (ha : wkA (rho rs) Hc.length args args') {k : Ts → List O → Prop}
    (hk : ∀ s Hc', Q s Hc' → ∃ s'' H'', reS (sg rs H.length) s = s'' ∧ plug rs H Hc' = H'' ∧ forceH H'' fun H1 => forceS s'' fun s' => putK X.nt dst s' ts fun ts' => k ts' H1) : CallN X f args dst ts H k := by
  refine CallN.spec hb (CSpec.frame hc rs h hd ha fun s Hc' hq => ?_)
  obtain ⟨s'', H'', rfl, rfl, h⟩ := hk s Hc' hq
  exact h

theorem CallN.imp {X : Cx} {f : FuncId} {args : List S} {dst : Option Tmp} {ts : Ts} {H : List O} {k k' : Ts → List O → Prop} (h : CallN X f args dst ts H k) (hk : ∀ ts' H', k ts' H' → k' ts' H') : CallN X f args dst ts H k' := by
  obtain ⟨h1, h2⟩ := h.out
  refine ⟨h1, fun K F0 H0 μ0 F μ a w vs hs hA => (h2 K F0 H0 μ0 F μ a w vs hs hA).mono ?_⟩
  rintro e w' ⟨v, rfl, ts', H', F', μ', p1, p2⟩
  exact ⟨v, rfl, ts', H', F', μ', hk _ _ p1, p2⟩


/-- One array of the call's own is left. -/
theorem RM.ren1 {s s' : S} {H : List O} {e es n n' : Nat} {g g' : Nat → Nat → C} (id : Nat) (hid : getL H id = some (.arr e es n g)) (hn : n = n') (hg : ∀ i, i < n → ∀ j, j < es → wkC (fun _ => id) 1 (g i j) (g' i j)) (hs : wkS (fun _ => id) 1 s s') : RM 0 s H s' [.arr e es n' g'] := by
  refine RM.ren (fun _ => id) 1 rfl ⟨?_, ?_⟩ hs
  · intro i o' hi
    match i with
    | 0 =>
      simp only [getL, Option.some.injEq] at hi
      subst hi
      exact ⟨_, hid, O.wk.arr hn hg⟩
    | i + 1 => simp [getL] at hi
  · intro i j hi hj _
    simp only [List.length_cons, List.length_nil] at hi hj
    omega

theorem wkC.own {id es l t l' t' : Nat} {x x' : Bool} (hl : l = l') (ht : t = t') (hx : x' = true → x = true) : wkC (fun _ => id) 1 (.sl id es l t x) (.sl 0 es l' t' x') := ⟨rfl, rfl, hl, ht, by decide, hx⟩


theorem Bw.leF {H : List O} {c c' : C} (h : c.imm = true) (hl : Am.leF c c') : Bw H c c' := by
  intro K F μ w v hs hv
  exact hl (heapM w) v ((imm_rep h hv).mono fun b o hb => hs.fr b o hb)
theorem BwA.nil {H : List O} : BwA H [] [] := trivial
theorem BwA.cons {H : List O} {s s' : S} {r r' : List S} (h : BwS H s s') (k : BwA H r r') : BwA H (s :: r) (s' :: r') := ⟨h, k⟩
theorem BwS.a {H : List O} {xs ys : List C} (h : BwL H xs ys) : BwS H (.a xs) (.a ys) := h
theorem BwS.c {H : List O} {x y : C} (h : Bw H x y) : BwS H (.c x) (.c y) := h
theorem BwL.nil {H : List O} : BwL H [] [] := trivial
theorem BwL.cons {H : List O} {s s' : C} {r r' : List C} (h : Bw H s s') (k : BwL H r r') : BwL H (s :: r) (s' :: r') := ⟨h, k⟩


theorem Fr.one {H : List O} {o o' : O} (id : Nat) (hid : getL H id = some o) (hw : O.wk (rho [id]) 1 o o') : Fr H [o'] [id] := by
  refine ⟨rfl, ⟨fun i x hi => ?_, fun i j hi hj _ => ?_⟩⟩
  · match i with
    | 0 =>
      simp only [getL, Option.some.injEq] at hi
      subst hi
      exact ⟨o, hid, hw⟩
    | i + 1 => simp [getL] at hi
  · simp only [List.length_cons, List.length_nil] at hi hj
    omega

theorem wkA.nil {ρ : Nat → Nat} {n : Nat} : wkA ρ n [] [] := trivial
theorem wkA.cons {ρ : Nat → Nat} {n : Nat} {s s' : S} {r r' : List S} (h : wkS ρ n s s') (k : wkA ρ n r r') : wkA ρ n (s :: r) (s' :: r') := ⟨h, k⟩
theorem wkC.ep1 {id i i' j j' t t' : Nat} (hi : i = i') (hj : j = j') (ht : t = t') : wkC (rho [id]) 1 (.ep id i j t) (.ep 0 i' j' t') := ⟨rfl, hi, hj, ht, by decide⟩
theorem wkC.sl1 {id es l t l' t' : Nat} {x x' : Bool} (hl : l = l') (ht : t = t') (hx : x' = true → x = true) : wkC (rho [id]) 1 (.sl id es l t x) (.sl 0 es l' t' x') := ⟨rfl, rfl, hl, ht, by decide, hx⟩

/-- A call that has one of the arrays. -/
theorem CallN.frame1 {X : Cx} {f : FuncId} {args args' : List S} {dst : Option Tmp} {ts : Ts} {H : List O} {e es n : Nat} {g g' : Nat → Nat → C} {Q : S → List O → Prop} (hb : HasBody X.P f) (hc : CSpec X.P f args' [.arr e es n g'] Q) (id : Nat)
    (hid : getL H id = some (.arr e es n g)) (hg : ∀ i, i < n → ∀ j, j < es → wkC (rho [id]) 1 (g i j) (g' i j)) (ha : wkA (rho [id]) 1 args args') {k : Ts → List O → Prop}
    (hk : ∀ s Hc', Q s Hc' → ∃ s'' H'', reS (sg [id] H.length) s = s'' ∧ plug [id] H Hc' = H'' ∧ forceH H'' fun H1 => forceS s'' fun s' => putK X.nt dst s' ts fun ts' => k ts' H1) : CallN X f args dst ts H k :=
  CallN.frame hb hc [id] (Fr.one id hid (O.wk.arr rfl hg)) (fun i hi => by
    match i with
    | 0 => simp [getL] at hi
    | i + 1 => simp [getL] at hi) ha hk

end Go.Am
