/- Contracts, lemmas; no condition. -/
import Derived.Test.YtkelkepdcfogaaaGreatP14D
set_option linter.all false
section
namespace Go.Am
def tightG (n : Nat) (g : Nat → Nat → C) : Nat → Nat → C := fun i j => if i < n then g i j else .junk
end Go.Am
namespace Go.Am
theorem Mv.reserve {X : Cx} {ts : Ts} {H : List O} (e es : Nat) (g : Nat → Nat → C) (t : Nat) (ht : find t ts = .c .nils) : Mv X ts H ((t, .c (.sl H.length es 0 0 false)) :: ts) (H ++ [.arr e es 0 g]) := by
 intro K F0 H0 μ0 F μ a w hs
 have hE := Ext.push H μ (.arr e es 0 g) (.slice none 0 0)
 have hw : HSat K F (H ++ [.arr e es 0 g]) (upd μ H.length (.slice none 0 0)) w := hs.hs.push _ _ ⟨rfl, rfl, rfl, Nat.le_refl _, fun _ _ _ => rfl⟩ (fun b hb => by cases hb) (by
  refine ⟨[], ?_, Nat.zero_le _, fun i hi => by omega, Sp.none (by simp [upd, blk])⟩
  simp only [upd, if_true]
  exact World.ownsRow_nil w 0 e es)
 refine ⟨F, _, hs.le, hs.ext.trans hE, hw, ?_, hs.sz, hs.df, hs.n0⟩
 intro u
 simp only [find]
 cases hb : Nat.beq t u with
 | true =>
  have : t = u := Nat.eq_of_beq_eq_true hb
  subst this
  have hv := hs.tp t
  rw [ht] at hv
  have hv' : a.tmps.getD t undef = .slice none 0 0 := hv
  rw [hv']
  exact ⟨rfl, e, 0, g, QM _ _, Nat.le_refl _, Nat.le_refl _, fun _ => ⟨none, 0, by simp [upd], rfl, fun e => by cases e⟩⟩
 | false => exact RepS.mono (Mem.le_refl F) hE _ _ (hs.tp u)
end Go.Am
end

section
namespace Go.Am
def C.loose : C → Bool
 | .ptr .. => true
 | .sl .. => true
 | .mpr .. => true
 | c => c.flat
def E.loose : C ⊕ List C → Bool
 | .inl y => y.loose
 | .inr ys => ys.all C.loose
def S.loose : S → Bool
 | .u => true
 | .c x => x.loose
 | .a xs => xs.all C.loose
 | .t l => l.all E.loose
 | .lz _ _ => false
 | .so .. => false
def O.loose : O → Prop
 | .vr cs => cs.all C.loose = true
 | .arr _ es n g => ∀ i, i < n → ∀ j, j < es → (g i j).loose = true
 | .dead => True
 | .mp _ _ _ ks val => ks = [] ∧ ∀ k j, (val k j).flat = true
def LooseH (H : List O) : Prop := ∀ id o, getL H id = some o → o.loose
theorem LooseH.nil : LooseH [] := fun id o h => by simp [getL] at h
theorem LooseH.cons {o : O} {H : List O} (ho : o.loose) (h : LooseH H) : LooseH (o :: H) := fun id o' h' => by
 cases id with
 | zero => simp only [getL, Option.some.injEq] at h'; subst h'; exact ho
 | succ id => exact h id o' h'
theorem C.loose_cases : ∀ {c : C}, c.loose = true → c.flat = true ∨ (∃ i o, c = .ptr i o) ∨ (∃ i es l t x, c = .sl i es l t x) ∨ ∃ i, c = .mpr i
 | .ptr i o, _ => .inr (.inl ⟨i, o, rfl⟩)
 | .sl i es l t x, _ => .inr (.inr (.inl ⟨i, es, l, t, x, rfl⟩))
 | .mpr i, _ => .inr (.inr (.inr ⟨i, rfl⟩))
 | .junk, _ => .inl rfl
 | .bool _, _ => .inl rfl
 | .int _ _, _ => .inl rfl
 | .str _, _ => .inl rfl
 | .nilp, _ => .inl rfl
 | .nilfn, _ => .inl rfl
 | .nils, _ => .inl rfl
 | .nilm, _ => .inl rfl
 | .isl _ _ _ _, h => .inl h
theorem Qjr {F F' : Mem} {H : List O} {μ : Nat → Value} {c : C} (hc : c.loose = true) {v : Value} (h : RepC F H μ c v) : RepC F' H μ c v := by
 rcases C.loose_cases hc with h1 | ⟨i, o, rfl⟩ | ⟨i, es, l, t, x, rfl⟩ | ⟨i, rfl⟩
 ·exact QiP h1 h
 ·exact h
 ·exact h
 ·exact h
theorem QmF {F F' : Mem} {H : List O} {μ : Nat → Value} {xs : List C} (hc : xs.all C.loose = true) {cs : Array Value} (h : RepL F H μ xs cs) : RepL F' H μ xs cs :=
 ⟨h.1, fun j x hx => let ⟨v, v1, v2⟩ := h.2 j x hx; ⟨v, v1, Qjr (QdA hc hx) v2⟩⟩
theorem Qsm {F F' : Mem} {H : List O} {μ : Nat → Value} : ∀ {s : S}, s.loose = true → ∀ {v : Value}, RepS F H μ s v → RepS F' H μ s v
 | .u, _, _, _ => trivial
 | .c _, hc, _, h => Qjr hc h
 | .a _, hc, _, ⟨cs, h1, h2⟩ => ⟨cs, h1, QmF hc h2⟩
 | .t l, hc, _, ⟨vs, h1, h2, h3⟩ => ⟨vs, h1, h2, fun j x hx => by
   obtain ⟨u, u1, u2⟩ := h3 j x hx
   refine ⟨u, u1, ?_⟩
   have := QdA (p := E.loose) hc hx
   cases x with
   | inl c => exact Qjr this u2
   | inr cs => obtain ⟨k, k1, k2⟩ := u2; exact ⟨k, k1, QmF this k2⟩⟩
 | .lz _ s, hc, _, _ => by cases hc
 | .so .., hc, _, _ => by cases hc
theorem Qwc {F F' : Mem} {c : C} (hc : c.flat = true) {v : Value} (h : RepF F c v) : RepF F' c v := by
 have := QiP (F := F) (F' := F') (H := []) (H' := []) (μ := fun _ => undef) (μ' := fun _ => undef) hc (RepF.toC _ _ c v h)
 cases c <;> first | exact this | cases hc
theorem HSat.loose {K K1 : Keep} {F F' : Mem} {H : List O} {μ : Nat → Value} {w : World} (h : HSat K F' H μ w) (hl : LooseH H) (hF : F.le F') (e1 : K.os = K1.os) (e2 : K.tape = K1.tape) (e3 : K.output = K1.output)
  (hk : ∀ b o, K1.mem b = some o → F' b = some o) (hd : ∀ b o, F b = some o → K1.mem b = none) : HSat K1 F H μ w := by
 refine ⟨h.os.trans e1, h.tape.trans e2, h.output.trans e3, fun b o hb => h.fr b o (hF b o hb), fun b o hb => h.fr b o (hk b o hb), fun id o ho => ?_, fun id b hb => ⟨?_, ?_⟩, h.ij, hd⟩
 ·have h1 := h.ob id o ho
  have h2 := hl id o ho
  cases o with
  | vr cs =>
   obtain ⟨b, c, T, q1, q2, q3⟩ := h1
   exact ⟨b, c, T, q1, q2, QmF h2 q3⟩
  | arr e es n g =>
   obtain ⟨xs, q1, q2, q3, q4⟩ := h1
   exact ⟨xs, q1, q2, fun i hi j hj => by
    obtain ⟨v, v1, v2⟩ := q3 i hi j hj
    exact ⟨v, v1, Qjr (h2 i hi j hj) v2⟩, q4⟩
  | dead => trivial
  | mp sh z va ks val =>
   obtain ⟨b, es, ck, q1, q2, q3, q4⟩ := h1
   obtain ⟨h3, h4⟩ := h2
   subst h3
   refine ⟨b, es, ck, q1, q2, ⟨q3.nd, q3.shp, q3.keys, fun i e k _ hk => by simp at hk, fun k hs hn j hj => ?_⟩, q4⟩
   obtain ⟨x, x1, x2⟩ := q3.none k hs hn j hj
   exact ⟨x, x1, Qwc (h4 k j) x2⟩
 ·have := (h.sp id b hb).1
  cases hq : F b with
  | none => rfl
  | some o => rw [hF b o hq] at this; cases this
 ·have := (h.sp id b hb).1
  cases hq : K1.mem b with
  | none => rfl
  | some o => rw [hk b o hq] at this; cases this
theorem CSpec.readsO {P : Program} {f : FuncId} {args args' : List S} {H : List O} {Q : S → List O → Prop} (hc : CSpec P f args' [] Q) (ha : BwA H args args') (hq : ∀ s Hc', Q s Hc' → s.loose = true ∧ LooseH Hc') {k : S → List O → Prop}
  (hk : ∀ s Hc', Q s Hc' → k (reS (sg [] H.length) s) (plug [] H Hc')) : CSpec P f args H k := by
 intro K F μ w vs hw hA
 obtain ⟨l1, l2⟩ := QnF hw (o := 0) ha (fun j s hs => by simpa using hA.2 j s hs)
 have hw0 : HSat { K with mem := fun _ => none } (Qaw w) [] μ w :=
  ⟨hw.os, hw.tape, hw.output, fun b o hb => hb, fun b o hb => (by cases hb), fun id o ho => by simp [getL] at ho, fun id b ⟨⟨o, ho, _⟩, _⟩ => by simp [getL] at ho, fun id id' b ⟨⟨o, ho, _⟩, _⟩ => by simp [getL] at ho, fun _ _ _ => rfl⟩
 have k0 := (Fr.nil (H := H)).aside hw
 refine (hc _ (Qaw w) μ w vs hw0 ⟨hA.1.trans l1, fun j s hs => by simpa using l2 j s hs⟩).mono ?_
 rintro e w' ⟨v, F', μ', s, Hc', rfl, h1, h2, h3, h4, h5⟩
 obtain ⟨q1, q2⟩ := hq s Hc' h5
 have h2' : HSat (K.but H μ w []) F Hc' μ' w' := h2.loose q2 (fun b o hb => h1 b o (hw.fr b o hb)) rfl rfl rfl (fun b o hb => h1 b o (k0.kp b o hb)) k0.dj
 have hl : ([] : List O).length ≤ Hc'.length := Nat.zero_le _
 have h3' : Ext [] (fun i => μ (rho [] i)) Hc' μ' := ⟨fun _ _ hc => by simp [getL] at hc, fun _ _ _ _ _ hc => by simp [getL] at hc, fun _ _ _ _ _ _ hc => by simp [getL] at hc⟩
 exact ⟨v, F, QbD [] H.length μ μ', _, _, rfl, Mem.le_refl F, Fr.nil.back hw hl h3' (Mem.le_refl F) h2', Fr.nil.ext hl h3', Fr.nil.repS hl (Qsm q1 h4), hk s Hc' h5⟩
theorem CallN.readsO {X : Cx} {f : FuncId} {args args' : List S} {dst : Option Tmp} {ts : Ts} {H Hc0 : List O} {s0 : S} (hb : HasBody X.P f) (hc : CSpec X.P f args' [] fun s H' => s = s0 ∧ H' = Hc0) (ha : BwA H args args') (hs : s0.loose = true) (hl : LooseH Hc0) {k : Ts → List O → Prop}
  (hk : QaG (plug [] H Hc0) fun H1 => Q0 (reS (sg [] H.length) s0) fun s' => putK X.nt dst s' ts fun ts' => k ts' H1) : CallN X f args dst ts H k := by
 refine CallN.spec hb (CSpec.readsO hc ha (fun s Hc' ⟨e1, e2⟩ => by subst e1 e2; exact ⟨hs, hl⟩) fun s Hc' hq => ?_)
 obtain ⟨rfl, rfl⟩ := hq
 exact hk
def immTs (ts : Ts) : Prop := ∀ t, (find t ts).imm = true
theorem immTs.nil : immTs [] := fun _ => rfl
theorem immTs.cons {d : Nat} {s : S} {ts : Ts} (h : s.imm = true) (k : immTs ts) : immTs ((d, s) :: ts) := fun t => by
 simp only [find]
 split
 ·exact h
 ·exact k t
def KeepT (a0 : Act) (l : List Oper) (a : Act) : Prop := ∀ t, (∀ o ∈ l, o.dst ≠ some t) → a.tmps.getD t undef = a0.tmps.getD t undef
theorem KeepT.put {a0 a : Act} {l : List Oper} {o : Oper} (h : KeepT a0 l a) (ho : o ∈ l) (v : Value) : KeepT a0 l (a.put o.dst v) := by
 intro t ht
 rw [← h t ht]
 cases hd : o.dst with
 | none => rfl
 | some d =>
  have hne : d ≠ t := fun e => ht o ho (by rw [hd, e])
  simp only [Act.put, Array.getD_eq_getD_getElem?]
  rw [Array.getElem?_setIfInBounds_ne hne]
theorem QmU {P : Program} {a0 : Act} {l : List Oper} {o : Oper} (ho : o ∈ l) {a : Act} {w : World} {K K' : Act → World → Prop} {Q Q' : Exit → Act → World → Prop} (hq : ∀ e a w, Q e a w → e ≠ .normal → Q' e a w)
  (h : ∀ a w, KeepT a0 l a → K a w → K' a w) (ha : KeepT a0 l a) (hh : o.wp P a w K Q) : o.wp P a w K' Q' := by
 have hL : LetsOut Q → LetsOut Q' := fun ⟨x, y, z⟩ => ⟨x, y, hq _ _ _ z (by simp)⟩
 unfold Oper.wp at *
 generalize (execOp a.eval o).run P w = r at *
 cases r with
 | ok n w' =>
  cases n with
  | value v => exact h _ _ (ha.put ho v) hh
  | skip => exact h _ _ (ha.put ho _) hh
  | defer d => exact h _ _ (KeepT.put (a := { a with defers := d :: a.defers }) (fun t ht => ha t ht) ho _) hh
  | enter f args =>
   refine Calls.mono hh fun e w'' he => ?_
   cases e with
   | returned v => exact h _ _ (ha.put ho v) he
   | panicked c => exact hq _ _ _ he (by simp)
   | outgrown => exact hL he
  | row r args => exact Rows.mono hh fun v w'' he => h _ _ (ha.put ho v) he
  | _ => exact hh
 | halt x w' =>
  cases x with
  | panic v => exact hq _ _ _ hh (by simp)
  | _ => exact hh
theorem QdT {P : Program} {md : Region.Mode} {ops : Array Oper} {Q : Exit → Act → World → Prop} {a0 : Act} : ∀ (fuel : Nat) (listed : Array Bool) (a : Act) (w : World), KeepT a0 ops.toList a → wpAny P md ops Q fuel listed a w →
  wpAny P md ops (fun e a' w' => Q e a' w' ∧ (e = .normal → KeepT a0 ops.toList a')) fuel listed a w
 | 0, listed, a, w, ha, h => ⟨h.1, h.2, fun _ => ha⟩
 | fuel + 1, listed, a, w, ha, h => by
  refine ⟨fun hr => ⟨h.1 hr, fun _ => ha⟩, fun i hi => ?_⟩
  have := h.2 i hi
  unfold wpOp at this ⊢
  cases ho : ops[i]? with
  | none =>
   simp only [ho] at this ⊢
   exact QdT fuel _ a w ha this
  | some o =>
   simp only [ho] at this ⊢
   have hm : o ∈ ops.toList := by
    have := Array.mem_of_getElem? ho
    simpa using this
   split
   ·rename_i hw
    simp only [hw, if_true] at this
    rcases this with h1 | h1
    ·exact .inl (QmU hm (fun e a w q hn => ⟨q, fun e' => absurd e' hn⟩) (fun a w ha h => QdT fuel _ a w ha h) ha h1)
    ·obtain ⟨x, y, z⟩ := h1.2
     exact .inr ⟨h1.1, x, y, z, fun e' => by cases e'⟩
   ·rename_i hw
    simp only [hw] at this
    exact QdT fuel _ _ w (ha.put hm _) this
inductive BwT (H : List O) (ts : Ts) : Ts → Prop
 | nil : BwT H ts []
 | cons {t : Nat} {s : S} {r : Ts} (h : BwS H (find t ts) s) (k : BwT H ts r) : BwT H ts ((t, s) :: r)
theorem BwT.ok {K : Keep} {F : Mem} {H : List O} {μ : Nat → Value} {w : World} {ts : Ts} {tm : Array Value} (hw : HSat K F H μ w) (ht : TSat F H μ ts tm) {r : Ts} (h : BwT H ts r) : TSat (Qaw w) [] μ r tm := by
 induction h with
 | nil => intro t; trivial
 | @cons t s r h k ih =>
  intro t'
  simp only [find]
  cases hb : Nat.beq t t' with
  | true =>
   have := Nat.eq_of_beq_eq_true hb
   subst this
   exact QrY hw h (ht t)
  | false => exact ih t'
def Qi1 (ts : Ts) : Bool := ts.all fun p => p.2.flat
def QlW (l : List Oper) (t : Nat) : Bool := l.all fun o => match o.dst with
 | none => true
 | some d => !Nat.beq d t
theorem Qiv {l : List Oper} {t : Nat} (h : QlW l t = true) : ∀ o ∈ l, o.dst ≠ some t := by
 intro o ho hd
 have := List.all_eq_true.1 h o ho
 rw [hd] at this
 simp at this
theorem Qiy {F : Mem} {H : List O} {μ : Nat → Value} {r : Ts} {t : Nat} {v : Value} (hr : RepS F H μ (find t r) v) : ∀ {l : Ts}, RepS F H μ (find t l) v → RepS F H μ (find t (l ++ r)) v
 | [], _ => hr
 | (d, s) :: l, h => by
  simp only [List.cons_append, find] at h ⊢
  cases hb : Nat.beq d t with
  | true => rw [hb] at h; exact h
  | false => rw [hb] at h; exact Qiy hr h
theorem QkO {t : Nat} : ∀ {l : Ts}, Qi1 l = true → (find t l).flat = true
 | [], _ => rfl
 | (d, s) :: l, h => by
  simp only [Qi1, List.all_cons, Bool.and_eq_true] at h
  simp only [find]
  split
  ·exact h.1
  ·exact QkO (l := l) h.2
theorem Dr.thawS {X : Cx} (hΓ : Qo X.P X.Γ) (hm : X.P.follows .mixedOrders = true) {id : Nat} {ops : Array Oper} {ts : Ts} {H : List O} {k : Kp} (S : List (Nat × Nat)) (kp : List Nat) (tsF : Ts) (hF : BwT H ts tsF) (hkp : kp.all (QlW ops.toList) = true)
  (hok : Qgn [] S ops.toList = true) (h : Qcw { X with n0 := 0 } [] ops.toList ops.toList tsF [] fun ts' H' => match S.all (fun p => Qdm ops.toList ts' p.1 p.2) with
   | true => ∃ tsN, WT idN 0 ts' tsN ∧ Qi1 tsN = true ∧ k .normal (tsN ++ Qad kp ts) H
   | false => StuckC .skip ts' H') : Dr X id ops ts H k := by
 refine ⟨fun K F0 H0 μ0 F μ a w hs => ?_⟩
 have hw0 : HSat { K with mem := fun _ => none } (Qaw w) [] μ w :=
  ⟨hs.hs.os, hs.hs.tape, hs.hs.output, fun b o hb => hb, fun b o hb => (by cases hb), fun id o ho => by simp [getL] at ho, fun id b ⟨⟨o, ho, _⟩, _⟩ => by simp [getL] at ho, fun id id' b ⟨⟨o, ho, _⟩, _⟩ => by simp [getL] at ho, fun _ _ _ => rfl⟩
 have s0 : Sat { X with n0 := 0 } { K with mem := fun _ => none } (Qaw w) [] μ tsF [] (Qaw w) μ a w :=
  ⟨Mem.le_refl _, Ext.refl [] μ, hw0, hF.ok hs.hs hs.tp, hs.sz, hs.df, Nat.le_refl _⟩
 have h1 := QiK (X := { X with n0 := 0 }) (k := fun e ts' _ => match e with
  | .normal => ∃ tsN, WT idN 0 ts' tsN ∧ Qi1 tsN = true ∧ k .normal (tsN ++ Qad kp ts) H
  | _ => False) hΓ hm [] S hok h _ _ _ _ _ _ _ _ s0
 refine wp_mono (wp_region_any hm (QdT (a0 := a) _ _ _ _ (fun _ _ => rfl) h1)) ?_
 rintro e a' w' ⟨⟨ts', H', F', μ', hs', he⟩, hk⟩
 cases e with
 | normal =>
  obtain ⟨tsN, n1, n2, n3⟩ := he
  have kk := hk rfl
  have old : ∀ b o, w.heap[b]? = some o → w'.heap[b]? = some o := fun b o hb => hs'.hs.fr b o (hs'.le b o hb)
  refine ⟨_, H, F, μ, ⟨hs.le, hs.ext, hs.hs.later (hs'.hs.os.trans hs.hs.os.symm) (hs'.hs.tape.trans hs.hs.tape.symm) (hs'.hs.output.trans hs.hs.output.symm) old, fun t => ?_, hs'.sz, hs'.df, hs.n0⟩, n3⟩
  have hN : RepS F H μ (find t tsN) (a'.tmps.getD t undef) := by
   have h1 : HWk idN H' [] := ⟨fun i o' h => by simp [getL] at h, fun i j h => by simp at h⟩
   exact Qra (QkO n2) (TSat.wk h1 n1.out hs'.tp t)
  refine Qiy ?_ hN
  clear n3 hN h h1
  induction kp with
  | nil => trivial
  | cons t0 r ih =>
   simp only [List.all_cons, Bool.and_eq_true] at hkp
   simp only [Qad, find]
   cases hb : Nat.beq t0 t with
   | true =>
    have := Nat.eq_of_beq_eq_true hb
    subst this
    rw [kk t0 (Qiv hkp.1)]
    exact hs.tp t0
   | false => exact ih hkp.2
 | exit id => exact he.elim
 | ret => exact he.elim
 | _ => exact he.elim
theorem Qdg {P : Program} {ops : Array Oper} {Q : Exit → Act → World → Prop} {a0 : Act} {L : List Oper} : ∀ (l : List Oper) (a : Act) (w : World), (∀ o ∈ l, o ∈ L) → KeepT a0 L a → wpList P ops Q l a w →
  wpList P ops (fun e a' w' => Q e a' w' ∧ (e = .normal → KeepT a0 L a')) l a w
 | [], a, w, _, ha, h => ⟨h, fun _ => ha⟩
 | o :: r, a, w, hl, ha, h => by
  unfold wpList at h ⊢
  have hm := hl o List.mem_cons_self
  have hr : ∀ o ∈ r, o ∈ L := fun x hx => hl x (List.mem_cons_of_mem _ hx)
  split
  ·rename_i hw
   simp only [hw, if_true] at h
   rcases h with h1 | h1
   ·exact .inl (QmU hm (fun e a w q hn => ⟨q, fun e' => absurd e' hn⟩) (fun a w ha h => Qdg r a w hr ha h) ha h1)
   ·obtain ⟨x, y, z⟩ := h1.2
    exact .inr ⟨h1.1, x, y, z, fun e' => by cases e'⟩
  ·rename_i hw
   simp only [hw] at h
   exact Qdg r _ w hr (ha.put hm _) h
structure AWz (X : Cx) (kp : List Nat) (ts : Ts) (H : List O) (c : Code) (ts1 : Ts) (H1 : List O) (k : Kp) : Prop where
 out : ∀ K F0 H0 μ0 F μ a0 w0, Sat X K F0 H0 μ0 ts H F μ a0 w0 → ∀ F1 μ1 a w, Sat { X with n0 := 0 } { K with mem := fun _ => none } (Qaw w0) [] μ ts1 H1 F1 μ1 a w → (∀ t, t ∈ kp → a.tmps.getD t undef = a0.tmps.getD t undef) → c.wp X.P (Post X K F0 H0 μ0 k) a w
theorem AWn.freeze {X : Cx} {c : Code} {ts : Ts} {H : List O} {k : Kp} (kp : List Nat) (tsF : Ts) (hF : BwT H ts tsF) (h : AWz X kp ts H c tsF [] k) : AWn X c ts H k := by
 refine ⟨fun K F0 H0 μ0 F μ a w hs => ?_⟩
 have hw0 : HSat { K with mem := fun _ => none } (Qaw w) [] μ w :=
  ⟨hs.hs.os, hs.hs.tape, hs.hs.output, fun b o hb => hb, fun b o hb => (by cases hb), fun id o ho => by simp [getL] at ho, fun id b ⟨⟨o, ho, _⟩, _⟩ => by simp [getL] at ho, fun id id' b ⟨⟨o, ho, _⟩, _⟩ => by simp [getL] at ho, fun _ _ _ => rfl⟩
 exact h.out K F0 H0 μ0 F μ a w hs (Qaw w) μ a w ⟨Mem.le_refl _, Ext.refl [] μ, hw0, hF.ok hs.hs hs.tp, hs.sz, hs.df, Nat.le_refl _⟩ fun _ _ => rfl
theorem AWz.rg {X : Cx} (hΓ : Qo X.P X.Γ) {kp : List Nat} {ts : Ts} {H : List O} {id : Nat} {ops : Array Oper} {y : Code} {ts1 : Ts} {H1 : List O} {k : Kp} (hkp : kp.all (QlW ops.toList) = true)
  (h : QcH { X with n0 := 0 } ops.toList ops.toList ts1 H1 fun ts' H' => AWz X kp ts H y ts' H' k) : AWz X kp ts H (.seq (.region id ops false) y) ts1 H1 k := by
 refine ⟨fun K F0 H0 μ0 F μ a0 w0 hs F1 μ1 a w h1 hk => wp_seq ?_⟩
 have hq := QdP (X := { X with n0 := 0 }) hΓ ops.toList (Q := fun e a' w' => e = .normal ∧ ∃ ts' H' F' μ', AWz X kp ts H y ts' H' k ∧ Sat { X with n0 := 0 } { K with mem := fun _ => none } (Qaw w0) [] μ ts' H' F' μ' a' w') ops.toList h h1 fun ts' H' F' μ' a' w' q1 q2 => ⟨rfl, ts', H', F', μ', q1, q2⟩
 have hq2 := Qdg (a0 := a) (L := ops.toList) ops.toList a w (fun _ h => h) (fun _ _ => rfl) hq
 rw [show ops.toList.toArray = ops by simp] at hq2
 refine wp_mono (wp_region_list hq2) ?_
 rintro e a' w' ⟨⟨rfl, ts', H', F', μ', q1, q2⟩, q3⟩
 refine q1.out K F0 H0 μ0 F μ a0 w0 hs F' μ' a' w' q2 fun t ht => ?_
 rw [← hk t ht]
 exact q3 rfl t (Qiv (List.all_eq_true.1 hkp t ht))
theorem AWz.rgNo {X : Cx} (hΓ : Qo X.P X.Γ) {kp : List Nat} {ts : Ts} {H : List O} {id d : Nat} {ops : Array Oper} {x y : Code} {ts1 : Ts} {H1 : List O} {k : Kp} (hkp : kp.all (QlW ops.toList) = true)
  (h : QcH { X with n0 := 0 } ops.toList ops.toList ts1 H1 fun ts' H' => find d ts' = .c (.bool false) ∧ AWz X kp ts H y ts' H' k) : AWz X kp ts H (.seq (.seq (.region id ops false) (.cond (.tmp d) x .skip)) y) ts1 H1 k := by
 refine ⟨fun K F0 H0 μ0 F μ a0 w0 hs F1 μ1 a w h1 hk => wp_seq (wp_seq ?_)⟩
 have hq := QdP (X := { X with n0 := 0 }) hΓ ops.toList (Q := fun e a' w' => e = .normal ∧ ∃ ts' H' F' μ', (find d ts' = .c (.bool false) ∧ AWz X kp ts H y ts' H' k) ∧ Sat { X with n0 := 0 } { K with mem := fun _ => none } (Qaw w0) [] μ ts' H' F' μ' a' w') ops.toList h h1 fun ts' H' F' μ' a' w' q1 q2 => ⟨rfl, ts', H', F', μ', q1, q2⟩
 have hq2 := Qdg (a0 := a) (L := ops.toList) ops.toList a w (fun _ h => h) (fun _ _ => rfl) hq
 rw [show ops.toList.toArray = ops by simp] at hq2
 refine wp_mono (wp_region_list hq2) ?_
 rintro e a' w' ⟨⟨rfl, ts', H', F', μ', ⟨q0, q1⟩, q2⟩, q3⟩
 have hb := q2.tp d
 rw [q0] at hb
 refine wp_cond_false hb (wp_skip ?_)
 refine q1.out K F0 H0 μ0 F μ a0 w0 hs F' μ' a' w' q2 fun t ht => ?_
 rw [← hk t ht]
 exact q3 rfl t (Qiv (List.all_eq_true.1 hkp t ht))
def Qj5 (ts : Ts) : Bool := ts.all fun p => p.2.loose
def reTs (σ : Nat → Nat) : Ts → Ts
 | [] => []
 | (t, s) :: r => (t, reS σ s) :: reTs σ r
theorem QiS {σ : Nat → Nat} {Hc : List O} : ∀ (H : List O) (k : Nat), QcY σ [] Hc k H = H
 | [], _ => rfl
 | o :: r, k => by simp only [QcY, idx, QiS r (k + 1)]
theorem AWz.leave {X : Cx} {kp : List Nat} {ts : Ts} {H : List O} {c : Code} {ts1 : Ts} {H1 : List O} {k : Kp} (st : Ts) (Hn : List O) (hm : Mv { X with n0 := 0 } ts1 H1 st Hn) (h1 : Qj5 st = true) (h2 : LooseH Hn) (st' : Ts) (H' : List O) (e1 : reTs (sg [] H.length) st = st') (e2 : H ++ reHL (sg [] H.length) Hn = H')
  (h : AWn X c (st' ++ Qad kp ts) H' k) : AWz X kp ts H c ts1 H1 k := by
 have e3 : plug [] H Hn = H' := by
  unfold plug
  rw [QiS, ← e2]
  simp only [List.length_nil, QhK]
 rw [← e1, ← e3] at h
 clear e1 e2 e3
 refine ⟨fun K F0 H0 μ0 F μ a0 w0 hs F1 μ1 a w hs1 hk => ?_⟩
 obtain ⟨F2, μ2, hs2⟩ := hm _ _ _ _ _ _ _ _ hs1
 have k0 := (Fr.nil (H := H)).aside hs.hs
 have old : ∀ b o, w0.heap[b]? = some o → F2 b = some o := fun b o hb => hs2.le b o hb
 have h2' : HSat (K.but H μ w0 []) F Hn μ2 w := hs2.hs.loose h2 (fun b o hb => old b o (hs.hs.fr b o hb)) rfl rfl rfl (fun b o hb => old b o (k0.kp b o hb)) k0.dj
 have hl : ([] : List O).length ≤ Hn.length := Nat.zero_le _
 have h3' : Ext [] (fun i => μ (rho [] i)) Hn μ2 := ⟨fun _ _ hc => by simp [getL] at hc, fun _ _ _ _ _ hc => by simp [getL] at hc, fun _ _ _ _ _ _ hc => by simp [getL] at hc⟩
 have e1 := Fr.nil.back hs.hs hl h3' (Mem.le_refl F) h2'
 have e2 := Fr.nil.ext (H := H) (μ := μ) hl h3'
 refine h.out K F0 H0 μ0 F (QbD [] H.length μ μ2) a w ⟨hs.le, hs.ext.trans e2, e1, fun t => ?_, hs2.sz, hs2.df, hs.n0⟩
 refine Qiy ?_ ?_
 ·clear h
  induction kp with
  | nil => trivial
  | cons t0 r ih =>
   simp only [Qad, find]
   cases hb : Nat.beq t0 t with
   | true =>
    have := Nat.eq_of_beq_eq_true hb
    subst this
    rw [hk t0 List.mem_cons_self]
    exact RepS.mono (Mem.le_refl F) e2 _ _ (hs.tp t0)
   | false => exact ih fun t ht => hk t (List.mem_cons_of_mem _ ht)
 ·have key : ∀ {st : Ts}, Qj5 st = true → RepS F2 Hn μ2 (find t st) (a.tmps.getD t undef) → RepS F (plug [] H Hn) (QbD [] H.length μ μ2) (find t (reTs (sg [] H.length) st)) (a.tmps.getD t undef) := by
   intro st
   induction st with
   | nil => intro _ _; trivial
   | cons p r ih =>
    obtain ⟨t0, s⟩ := p
    intro hl' hp
    simp only [Qj5, List.all_cons, Bool.and_eq_true] at hl'
    simp only [reTs, find] at hp ⊢
    cases hb : Nat.beq t0 t with
    | true =>
     rw [hb] at hp
     exact Fr.nil.repS hl (Qsm hl'.1 hp)
    | false =>
     rw [hb] at hp
     exact ih hl'.2 hp
  exact key h1 (hs2.tp t)
end Go.Am
end
