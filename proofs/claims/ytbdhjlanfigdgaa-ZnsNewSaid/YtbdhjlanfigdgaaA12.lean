import Derived.Test.YtbdhjlanfigdgaaA11
/- THE ABSTRACT MACHINE, PART 12: the verification condition of a piece of code, and that it is enough. -/
namespace Go.Am

/-- A node: what is needed, then the rest. -/
structure Need (p : Prop) (k : Prop) : Prop where
  fst : p
  snd : k
/-- A node: what is known from here on. -/
structure Have (p : Prop) (k : Prop) : Prop where
  out : p → k
/-- A node: a branch. -/
structure Br (b : Bool) (x y : Prop) : Prop where
  ofTrue : b = true → x
  ofFalse : b = false → y
/-- A node: a value whose cells must be brought out. -/
structure Frc (s : S) (k : S → Prop) : Prop where
  intro ::
  out : k s

theorem Br.yes {b : Bool} {x y : Prop} (h : b = true) (h' : x) : Br b x y := Br.mk (fun _ => h') (fun e => by rw [h] at e; cases e)
theorem Br.no {b : Bool} {x y : Prop} (h : b = false) (h' : y) : Br b x y := Br.mk (fun e => by rw [h] at e; cases e) (fun _ => h')
theorem Frc.mk {s : S} {k : S → Prop} (s' : S) (h : s = s') (hk : k s') : Frc s k := ⟨by rw [h]; exact hk⟩
theorem Br.out {b : Bool} {x y : Prop} (h : Br b x y) : (b = true → x) ∧ (b = false → y) := ⟨h.ofTrue, h.ofFalse⟩

/-- What a function does, called with these arguments beside these tracked objects. -/
def CSpec (P : Program) (f : FuncId) (args : List S) (H : List O) (Q : S → List O → Prop) : Prop :=
  ∀ K F μ w vs, HSat K F H μ w → RepA F H μ args vs → Calls P f vs w fun e w' => ∃ v F' μ' s H', e = .returned v ∧ F.le F' ∧ HSat K F' H' μ' w' ∧ Ext H μ H' μ' ∧ RepS F' H' μ' s v ∧ Q s H'

/-- The program has a text of the function. -/
structure HasBody (P : Program) (f : FuncId) : Prop where
  out : ∃ fn, P.funcs[f]? = some fn ∧ fn.body.isSome = true ∧ (fn.name == "runtime.NumGoroutine") = false

structure Cx where
  P : Program
  Γ : Env
  nt : Nat
  n0 : Nat

structure Sat (X : Cx) (K : Keep) (F0 : Mem) (H0 : List O) (μ0 : Nat → Value) (ts : Ts) (H : List O) (F : Mem) (μ : Nat → Value) (a : Act) (w : World) : Prop where
  le : F0.le F
  ext : Ext H0 μ0 H μ
  hs : HSat K F H μ w
  tp : TSat F H μ ts a.tmps
  sz : a.tmps.size = X.nt
  df : a.defers = []
  n0 : H0.length ≤ X.n0

inductive Ex where
  | normal | exit (id : Nat) | ret

def exOk : Exit → (Ex → Prop) → Prop
  | .normal, k => k .normal
  | .exit id, k => k (.exit id)
  | .ret, k => k .ret
  | _, _ => False

abbrev Kp := Ex → Ts → List O → Prop

def Post (X : Cx) (K : Keep) (F0 : Mem) (H0 : List O) (μ0 : Nat → Value) (k : Kp) : Exit → Act → World → Prop := fun e a w =>
  ∃ ts H F μ, Sat X K F0 H0 μ0 ts H F μ a w ∧ exOk e fun ex => k ex ts H

/-- A piece of code, from these slots and objects on. -/
def AW (X : Cx) (c : Code) (ts : Ts) (H : List O) (k : Kp) : Prop :=
  ∀ K F0 H0 μ0 F μ a w, Sat X K F0 H0 μ0 ts H F μ a w → c.wp X.P (Post X K F0 H0 μ0 k) a w

/-- A node: a loop. -/
structure Lp (X : Cx) (c : Code) (ts : Ts) (H : List O) (k : Kp) : Prop where
  intro ::
  out : AW X (.loop c) ts H k
/-- A node: a region whose order is open. -/
structure Dr (X : Cx) (id : Nat) (ops : Array Oper) (ts : Ts) (H : List O) (k : Kp) : Prop where
  intro ::
  out : AW X (.region id ops true) ts H k
/-- A node: a call. -/
structure CallN (X : Cx) (f : FuncId) (args : List S) (dst : Option Tmp) (ts : Ts) (H : List O) (k : Ts → List O → Prop) : Prop where
  intro ::
  body : HasBody X.P f
  run : ∀ K F0 H0 μ0 F μ a w vs, Sat X K F0 H0 μ0 ts H F μ a w → RepA F H μ args vs →
    Calls X.P f vs w fun e w' => ∃ v, e = .returned v ∧ ∃ ts' H' F' μ', k ts' H' ∧ Sat X K F0 H0 μ0 ts' H' F' μ' (a.put dst v) w'

/-- A node: what is not modelled. -/
inductive Stuck (_o : Oper) (_ts : Ts) (_H : List O) : Prop
inductive StuckC (_c : Code) (_ts : Ts) (_H : List O) : Prop

def forceP : List Prop → (List Prop → Prop) → Prop
  | [], k => k []
  | p :: r, k => forceP r fun r' => k (p :: r')

theorem forceP_eq : ∀ (l : List Prop) (k : List Prop → Prop), forceP l k = k l
  | [], _ => rfl
  | p :: r, k => by simp only [forceP, forceP_eq r]

noncomputable def needs (l : List Prop) (k : Prop) : Prop := forceP l fun l' => List.rec (motive := fun _ => Prop) k (fun p _ ih => Need p ih) l'

theorem needs_nil {k : Prop} : needs [] k = k := rfl
theorem needs_cons {p : Prop} {r : List Prop} {k : Prop} : needs (p :: r) k = Need p (needs r k) := by simp only [needs, forceP_eq]

theorem needs_out : ∀ {l : List Prop} {k : Prop}, needs l k → (∀ p ∈ l, p) ∧ k
  | [], _, h => ⟨by simp, h⟩
  | p :: r, k, h => by
    rw [needs_cons] at h
    obtain ⟨h1, h2⟩ := needs_out (l := r) h.snd
    refine ⟨fun q hq => ?_, h2⟩
    rcases List.mem_cons.1 hq with rfl | hq
    · exact h.fst
    · exact h1 q hq

noncomputable def needsG (g : Bool) (l : List Prop) (k : Prop) : Prop := forceP l fun l' => List.rec (motive := fun _ => Prop) k (fun p _ ih => Need (g = true → p) ih) l'

theorem needsG_nil {g : Bool} {k : Prop} : needsG g [] k = k := rfl
theorem needsG_cons {g : Bool} {p : Prop} {r : List Prop} {k : Prop} : needsG g (p :: r) k = Need (g = true → p) (needsG g r k) := by simp only [needsG, forceP_eq]

theorem needsG_out {g : Bool} : ∀ {l : List Prop} {k : Prop}, needsG g l k → (g = true → ∀ p ∈ l, p) ∧ k
  | [], _, h => ⟨by simp, h⟩
  | p :: r, k, h => by
    rw [needsG_cons] at h
    obtain ⟨h1, h2⟩ := needsG_out (l := r) h.snd
    refine ⟨fun hg q hq => ?_, h2⟩
    rcases List.mem_cons.1 hq with rfl | hq
    · exact h.fst hg
    · exact h1 hg q hq

noncomputable def haves (l : List Prop) (k : Prop) : Prop := forceP l fun l' => List.rec (motive := fun _ => Prop) k (fun p _ ih => Have p ih) l'

theorem haves_cons {p : Prop} {r : List Prop} {k : Prop} : haves (p :: r) k = Have p (haves r k) := by simp only [haves, forceP_eq]

theorem haves_out : ∀ {l : List Prop} {k : Prop}, haves l k → (∀ p ∈ l, p) → k
  | [], _, h, _ => h
  | p :: _, _, h, hl => by
    rw [haves_cons] at h
    exact haves_out (h.out (hl p (by simp))) (fun q hq => hl q (by simp [hq]))

/-- A value is put into a slot. -/
def putK (nt : Nat) (dst : Option Tmp) (s : S) (ts : Ts) (k : Ts → Prop) : Prop :=
  match dst with
  | none => k ts
  | some d => match Nat.blt d nt with
    | true => k ((d, s) :: ts)
    | false => k ts

def forceH : List O → (List O → Prop) → Prop
  | [], k => k []
  | o :: r, k => match o with
    | .vr cs => forceL cs fun cs' => forceH r fun r' => k (.vr cs' :: r')
    | .arr e es n g => forceH r fun r' => k (.arr e es n g :: r')
    | .dead => forceH r fun r' => k (.dead :: r')

theorem forceH_eq : ∀ (l : List O) (k : List O → Prop), forceH l k = k l
  | [], _ => rfl
  | o :: r, k => by cases o <;> simp only [forceH, forceL_eq, forceH_eq r]

def forceN (n : Nat) (k : Nat → Prop) : Prop :=
  match n with
  | 0 => k 0 | 1 => k 1 | 2 => k 2 | 3 => k 3 | 4 => k 4 | 5 => k 5 | 6 => k 6 | 7 => k 7 | 8 => k 8 | 9 => k 9
  | 10 => k 10 | 11 => k 11 | 12 => k 12 | 13 => k 13 | 14 => k 14 | 15 => k 15 | 16 => k 16 | 17 => k 17 | 18 => k 18 | 19 => k 19
  | 20 => k 20 | 21 => k 21 | 22 => k 22 | 23 => k 23 | 24 => k 24 | 25 => k 25 | 26 => k 26 | 27 => k 27 | 28 => k 28 | 29 => k 29
  | 30 => k 30 | 31 => k 31 | 32 => k 32 | 33 => k 33 | 34 => k 34 | 35 => k 35 | 36 => k 36 | 37 => k 37 | 38 => k 38 | 39 => k 39
  | n => k n

theorem forceN_eq (n : Nat) (k : Nat → Prop) : forceN n k = k n := by
  unfold forceN
  split <;> rfl

def forceS (s : S) (k : S → Prop) : Prop :=
  match s with
  | .u => k .u
  | .a xs => k (.a xs)
  | .t l => k (.t l)
  | .lz g s => k (.lz g s)
  | .c x => match x with
    | .ptr id off => forceN id fun id' => k (.c (.ptr id' off))
    | .sl id es len tot x => forceN id fun id' => k (.c (.sl id' es len tot x))
    | .ep id i j tot => k (.c (.ep id i j tot))
    | .junk => k (.c .junk)
    | .bool b => k (.c (.bool b))
    | .int q n => k (.c (.int q n))
    | .str s => k (.c (.str s))
    | .nilp => k (.c .nilp)
    | .ip n get => k (.c (.ip n get))
    | .isl es n get tight => k (.c (.isl es n get tight))
    | .fn f n get => k (.c (.fn f n get))
    | .nilfn => k (.c .nilfn)
    | .nils => k (.c .nils)

theorem forceS_eq (s : S) (k : S → Prop) : forceS s k = k s := by
  cases s with
  | c x => cases x <;> first | rfl | (simp only [forceS, forceN_eq])
  | _ => rfl

/-- A load through an element's address is brought out. -/
def isEp (ts : Ts) (op : Op) : Bool :=
  match op with
  | .load _ a => match opnd ts a with
    | .c (.ep ..) => true
    | .lz _ (.c (.ep ..)) => true
    | _ => false
  | _ => false

def frcK (b : Bool) (s : S) (k : S → Prop) : Prop :=
  match b with
  | true => Frc s k
  | false => k s

theorem frcK_out {b : Bool} {s : S} {k : S → Prop} (h : frcK b s k) : k s := by
  cases b
  · exact h
  · exact Frc.out h

/-- A guard's outcome. -/
def guardB (want : Bool) : S → Option Bool
  | .c (.bool b) => match want with
    | true => some b
    | false => some (!b)
  | .lz g s => match guardB want s with
    | some b => some (g && b)
    | none => none
  | _ => none

noncomputable def vcOp (X : Cx) (o : Oper) (ts : Ts) (H : List O) (K : Ts → List O → Prop) : Prop :=
  match isCall o.op with
  | true => match callOf ts o.op with
    | some (q, f, l) => needs q (CallN X f l o.dst ts H K)
    | none => Stuck o ts H
  | false => match val X.Γ ts H o.op with
    | some (ns, s) => haves (facts ts o.op) (needs ns (frcK (isEp ts o.op) s fun s' => forceS s' fun s'' => putK X.nt o.dst s'' ts fun ts' => K ts' H))
    | none => match eff X.Γ ts H o.op with
      | some (ns, s, H') => needs ns (forceH H' fun H'' => forceS s fun s' => putK X.nt o.dst s' ts fun ts' => K ts' H'')
      | none => Stuck o ts H

/-- A node: a call under a guard, of a function that changes nothing. -/
inductive CallG (P : Program) (g : Bool) (f : FuncId) (args : List S) (H : List O) (k : S → Prop) : Prop
  | mk (s : S) (h : g = true → HasBody P f ∧ CSpec P f args H fun s' H' => s' = s ∧ H' = H) (hk : k s) : CallG P g f args H k

theorem CallG.out {P : Program} {g : Bool} {f : FuncId} {args : List S} {H : List O} {k : S → Prop} (h : CallG P g f args H k) : ∃ s, (g = true → HasBody P f ∧ CSpec P f args H fun s' H' => s' = s ∧ H' = H) ∧ k s := by
  obtain ⟨s, h1, h2⟩ := h
  exact ⟨s, h1, h2⟩

noncomputable def vcG (X : Cx) (o : Oper) (g : Bool) (ts : Ts) (H : List O) (K : Ts → List O → Prop) : Prop :=
  match isCall o.op with
  | true => match callOf ts o.op with
    | some (q, f, l) => needsG g q (CallG X.P g f l H fun s => forceS s fun s' => putK X.nt o.dst (.lz g s') ts fun ts' => K ts' H)
    | none => Stuck o ts H
  | false => match val X.Γ ts H o.op with
    | some (ns, s) => needsG g ns (frcK (isEp ts o.op) s fun s0 => forceS s0 fun s' => putK X.nt o.dst (.lz g s') ts fun ts' => K ts' H)
    | none => Br g (vcOp X o ts H K) (putK X.nt o.dst .u ts fun ts' => K ts' H)

noncomputable def vcOps (X : Cx) (all : List Oper) (l : List Oper) : Ts → List O → (Ts → List O → Prop) → Prop :=
  List.rec (motive := fun _ => Ts → List O → (Ts → List O → Prop) → Prop) (fun ts H K => K ts H) (fun o _ ih ts H K =>
    match o.guard with
    | none => vcOp X o ts H fun ts' H' => ih ts' H' K
    | some (j, want) => match getL all j with
      | some oj => match oj.dst with
        | some d => match guardB want (find d ts) with
          | some g => match Nat.blt d X.nt with
            | true => vcG X o g ts H fun ts' H' => ih ts' H' K
            | false => Stuck o ts H
          | none => Stuck o ts H
        | none => Stuck o ts H
      | none => Stuck o ts H) l

theorem vcOps_nil {X : Cx} {all : List Oper} {ts : Ts} {H : List O} {K : Ts → List O → Prop} : vcOps X all [] ts H K = K ts H := rfl
theorem vcOps_cons {X : Cx} {all : List Oper} {o : Oper} {r : List Oper} {ts : Ts} {H : List O} {K : Ts → List O → Prop} : vcOps X all (o :: r) ts H K = (match o.guard with
    | none => vcOp X o ts H fun ts' H' => vcOps X all r ts' H' K
    | some (j, want) => match getL all j with
      | some oj => match oj.dst with
        | some d => match guardB want (find d ts) with
          | some g => match Nat.blt d X.nt with
            | true => vcG X o g ts H fun ts' H' => vcOps X all r ts' H' K
            | false => Stuck o ts H
          | none => Stuck o ts H
        | none => Stuck o ts H
      | none => Stuck o ts H) := rfl

noncomputable def vc (X : Cx) (c : Code) : Ts → List O → Kp → Prop :=
  Code.rec (motive := fun _ => Ts → List O → Kp → Prop)
    (fun ts H K => K .normal ts H)
    (fun id ops draw ts H K => match draw with
      | false => vcOps X ops.toList ops.toList ts H (K .normal)
      | true => Dr X id ops ts H K)
    (fun _ _ iha ihb ts H K => iha ts H fun e ts' H' => match e with
      | .normal => ihb ts' H' K
      | .exit id => K (.exit id) ts' H'
      | .ret => K .ret ts' H')
    (fun c t e iht ihe ts H K => match bare (opnd ts c) with
      | (p, .c (.bool b)) => needs p (Br b (iht ts H K) (ihe ts H K))
      | _ => StuckC (.cond c t e) ts H)
    (fun id _ ih ts H K => ih ts H fun e ts' H' => match e with
      | .exit id' => match Nat.beq id' id with
        | true => K .normal ts' H'
        | false => K (.exit id') ts' H'
      | .normal => K .normal ts' H'
      | .ret => K .ret ts' H')
    (fun c _ ts H K => Lp X c ts H K)
    (fun f p a b _ _ ts H _ => StuckC (.rangeFunc f p a b) ts H)
    (fun id ts H K => K (.exit id) ts H)
    (fun b _ ts H _ => StuckC (.scope b) ts H)
    (fun l ts H _ => StuckC (.label l) ts H)
    (fun l ts H _ => StuckC (.goto l) ts H)
    (fun ts H K => K .ret ts H)
    (fun why ts H _ => StuckC (.refuse why) ts H) c

section
variable {X : Cx} {ts : Ts} {H : List O} {K : Kp}
theorem vc_skip : vc X .skip ts H K = K .normal ts H := rfl
theorem vc_region {id : Nat} {ops : Array Oper} {draw : Bool} : vc X (.region id ops draw) ts H K = (match draw with
    | false => vcOps X ops.toList ops.toList ts H (K .normal)
    | true => Dr X id ops ts H K) := rfl
theorem vc_seq {a b : Code} : vc X (.seq a b) ts H K = vc X a ts H fun e ts' H' => match e with
    | .normal => vc X b ts' H' K
    | .exit id => K (.exit id) ts' H'
    | .ret => K .ret ts' H' := rfl
theorem vc_cond {c : Operand} {t e : Code} : vc X (.cond c t e) ts H K = (match bare (opnd ts c) with
    | (p, .c (.bool b)) => needs p (Br b (vc X t ts H K) (vc X e ts H K))
    | _ => StuckC (.cond c t e) ts H) := rfl
theorem vc_block {id : Nat} {c : Code} : vc X (.block id c) ts H K = vc X c ts H fun e ts' H' => match e with
    | .exit id' => match Nat.beq id' id with
      | true => K .normal ts' H'
      | false => K (.exit id') ts' H'
    | .normal => K .normal ts' H'
    | .ret => K .ret ts' H' := rfl
theorem vc_loop {c : Code} : vc X (.loop c) ts H K = Lp X c ts H K := rfl
theorem vc_exit {id : Nat} : vc X (.exit id) ts H K = K (.exit id) ts H := rfl
theorem vc_ret : vc X .ret ts H K = K .ret ts H := rfl
end

theorem stuck_out {o : Oper} {ts : Ts} {H : List O} (h : Stuck o ts H) : False := by cases h
theorem stuckC_out {c : Code} {ts : Ts} {H : List O} (h : StuckC c ts H) : False := by cases h

theorem Sat.put {X : Cx} {K : Keep} {F0 : Mem} {H0 : List O} {μ0 : Nat → Value} {ts : Ts} {H H' : List O} {F F' : Mem} {μ μ' : Nat → Value} {a : Act} {w w' : World} (h : Sat X K F0 H0 μ0 ts H F μ a w)
    (hF : F.le F') (hE : Ext H μ H' μ') (hw : HSat K F' H' μ' w') {s : S} {v : Value} (hs : RepS F' H' μ' s v) {dst : Option Tmp} {k : Ts → Prop} (hk : putK X.nt dst s ts k) :
    ∃ ts', k ts' ∧ Sat X K F0 H0 μ0 ts' H' F' μ' (a.put dst v) w' := by
  have ht := h.tp.mono hF hE
  cases dst with
  | none => exact ⟨ts, hk, h.le.le_trans' hF, h.ext.trans hE, hw, ht, h.sz, h.df, h.n0⟩
  | some d =>
    simp only [putK] at hk
    cases hb : Nat.blt d X.nt with
    | true =>
      rw [hb] at hk
      have hd : d < a.tmps.size := by rw [h.sz]; exact Nat.le_of_ble_eq_true hb
      exact ⟨_, hk, h.le.le_trans' hF, h.ext.trans hE, hw, ht.put hd hs, by simp [Act.put, h.sz], h.df, h.n0⟩
    | false =>
      rw [hb] at hk
      have hd : ¬ d < a.tmps.size := by
        rw [h.sz]
        intro hlt
        have : Nat.blt d X.nt = true := Nat.ble_eq_true_of_le hlt
        rw [this] at hb
        cases hb
      refine ⟨_, hk, h.le.le_trans' hF, h.ext.trans hE, hw, ?_, by simp [Act.put, h.sz], h.df, h.n0⟩
      have : (a.put (some d) v).tmps = a.tmps := by
        simp only [Act.put]
        exact Array.setIfInBounds_eq_of_size_le (Nat.le_of_not_lt hd)
      rw [this]
      exact ht

end Go.Am
