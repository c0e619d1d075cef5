/- Contracts, lemmas; no condition. -/
import Derived.Test.YtjjlblnbeggejaaGreatP08
set_option linter.all false
section
namespace Go.Am
variable {P : Program} {f : FuncId} {args args' : List S} {k : S → List O → Prop} {g : Bool} {E : List Nat} {Γ : Env} {ts ts' : Ts} {H H' : List O} {op : Op} {K : Keep} {F : Mem} {μ : Nat → Value} {w : World} {a : Act} {ns : List Prop} {s : S} {X : Cx} {all l : List Oper} {o : Oper} {i : Nat} {D : Nat → Bool}
inductive CallP (P : Program) (g : Bool) (f : FuncId) (args : List S) (k : S → Prop) : Prop
 | intro (args' : List S) (r : S) (hb : HasBody P f) (hp : g = true → PSpec P f args' r) (ha : g = true → leA args args') (hr : r.imm = true) (hk : k r) : CallP P g f args k
theorem CallP.mk {r : S} (hb : HasBody P f) (hp : PSpec P f args' r) (ha : leA args args') (hr : r.imm = true) {k : S → Prop} (hk : k r) : CallP P true f args k :=
 ⟨args', r, hb, fun _ => hp, fun _ => ha, hr, hk⟩
theorem Qw9 {r : S} (hb : HasBody P f) (hp : g = true → PSpec P f args' r) (ha : g = true → leA args args') (hr : r.imm = true) {k : S → Prop} (hk : k r) : CallP P g f args k :=
 ⟨args', r, hb, hp, ha, hr, hk⟩
theorem CallP.out {k : S → Prop} (h : CallP P g f args k) : ∃ args' r, HasBody P f ∧ (g = true → PSpec P f args' r) ∧ (g = true → leA args args') ∧ r.imm = true ∧ k r := by
 obtain ⟨args', r, h1, h2, h3, h4, h5⟩ := h
 exact ⟨args', r, h1, h2, h3, h4, h5⟩
def QlQ : Op → Bool
 | .alloc _ | .box .. | .store .. | .makeSlice .. | .buildSlice .. | .makeMap .. | .mapUpdate .. | .insert .. => true
 | .call { callee := .builtin .append, .. } | .call { callee := .builtin .copy, .. } | .call { callee := .builtin .delete, .. } | .call { callee := .builtin .clear, .. } => true
 | _ => false
def QaR : Op → Bool
 | .alloc _ | .box .. | .makeSlice .. | .buildSlice .. | .makeMap .. => true
 | _ => false
def memN : List Nat → Nat → Bool
 | [], _ => false
 | x :: r, n => Nat.beq x n || memN r n
def Qeh (E : List Nat) : Op → Bool
 | .call { callee := .value (.func f), .. } => memN E f
 | _ => false
def litN : Nat := 4294967296
def QlS (E : List Nat) : Op → Bool
 | .buildSlice _ len _ => memN E litN && Nat.blt 0 len
 | .makeSlice .. => memN E litN
 | _ => false
def cutN : Nat := 4294967297
def fulN : Nat := 4294967298
def effE (E : List Nat) (Γ : Env) (ts : Ts) (H : List O) (op : Op) : Option (List Prop × S × List O) :=
 match memN E cutN with
 | true => match Qb8 (memN E fulN) Γ ts H op with
  | some r => some r
  | none => eff Γ ts H op
 | false => eff Γ ts H op
theorem Qec {r : List Prop × S × List O} (h : effE E Γ ts H op = some r) : eff Γ ts H op = some r ∨ ∃ md, Qb8 md Γ ts H op = some r := by
 unfold effE at h
 split at h
 ·split at h
  ·rename_i hc
   cases h
   exact .inr ⟨_, hc⟩
  ·exact .inl h
 ·exact .inl h
theorem QmY {md : Bool} (he : ∀ x ∈ op.operands, opnd ts' x = opnd ts x) : Qb8 md Γ ts' H op = Qb8 md Γ ts H op := by
 unfold Qb8
 split
 ·rename_i args argTypes
  split
  ·rename_i x y hargs
   have ha : args = #[x, y] := by apply QxV.1; simpa using hargs
   subst ha
   simp only [he x (by simp [Op.operands, Call.operands]), he y (by simp [Op.operands, Call.operands])]
  ·rfl
 ·rfl
theorem QpK (he : ∀ x ∈ op.operands, opnd ts' x = opnd ts x) : effE E Γ ts' H op = effE E Γ ts H op := by
 unfold effE
 rw [Qkt he, QmY he]
theorem Qt4 (hΓ : Qw P Γ) (hw : HSat K F H μ w) (hT : TSat F H μ ts a.tmps) (o : Oper) 
  (h : effE E Γ ts H o.op = some (ns, s, H')) (hn : ∀ q ∈ ns, q) :
  ∃ nx w' μ', (execOp a.eval o).run P w = .ok nx w' ∧ (nx = .skip ∨ ∃ v, nx = .value v) ∧ HSat K F H' μ' w' ∧ Ext H μ H' μ' ∧ RepS F H' μ' s (Qei nx) := by
 rcases Qec h with h | ⟨_, h⟩
 ·exact Qm9 hΓ hw hT o h hn
 ·exact Qrm hΓ hw hT o h hn
def isE (E : List Nat) (o : Oper) : Bool := (QlQ o.op && !QlS E o.op) || Qeh E o.op
def immO (s : S) : S := match s.imm with
 | true => s
 | false => .u
def immT : Ts → Ts
 | [] => []
 | (t, s) :: r => (t, immO s) :: immT r
def allI : Nat → (Nat → Bool) → Bool
 | 0, _ => true
 | n + 1, p => p n && allI n p
def litV (Γ : Env) (ts : Ts) (op : Op) : Option S :=
 match eff Γ (immT ts) [] op with
 | some ([], s, [.arr _ es n g]) => match allI n fun i => allI es fun j => (g i j).imm with
  | true => match (fzS 0 n g s).imm with
   | true => some (fzS 0 n g s)
   | false => none
  | false => none
 | _ => none
theorem Qfw {p : Nat → Bool} : ∀ {n : Nat}, allI n p = true → ∀ i, i < n → p i = true
 | 0, _, i, hi => by omega
 | n + 1, h, i, hi => by
  simp only [allI, QxA] at h
  by_cases c : i = n
  ·subst c; exact h.1
  ·exact Qfw h.2 i om
theorem QeW (t : Nat) : ∀ ts : Ts, find t (immT ts) = immO (find t ts)
 | [] => rfl
 | (u, s) :: r => by
  simp only [immT, find]
  split
  ·rfl
  ·exact QeW t r
theorem Qo6 (he : ∀ x ∈ op.operands, opnd ts' x = opnd ts x) : litV Γ ts' op = litV Γ ts op := by
 unfold litV
 rw [Qkt (ts := immT ts) (ts' := immT ts') fun x hx => ?_]
 have := he x hx
 cases x with
 | tmp t =>
  simp only [opnd] at this ⊢
  rw [QeW, QeW, this]
 | _ => rfl
theorem QtI (hΓ : Qw P Γ) (hw : HSat K F H μ w) (hT : TSat F H μ ts a.tmps) (o : Oper) (h : litV Γ ts o.op = some s) :
  ∃ nx w' F', (execOp a.eval o).run P w = .ok nx w' ∧ (nx = .skip ∨ ∃ v, nx = .value v) ∧ F.le F' ∧ HSat K F' H μ w' ∧ RepS F' H μ s (Qei nx) := by
 unfold litV at h
 split at h
 ·rename_i s0 e es n g he
  split at h
  ·rename_i hi
   split at h
   ·rename_i himm
    cases h
    have hT' : TSat F [] μ (immT ts) a.tmps := by
     intro t
     rw [QeW]
     unfold immO
     split
     ·rename_i hm; exact immS hm (hT t)
     ·trivial
    obtain ⟨nx, w', μ', r1, r2, r3, r4, r5⟩ := Qm9 (P := P) hΓ (hw.aside μ) hT' o he (fun q hq => by cases hq)
    have hid : getL [O.arr e es n g] 0 = some (.arr e es n g) := rfl
    have him : ∀ i, i < n → ∀ j, j < es → (g i j).imm = true := fun i h1 j h2 => Qfw (Qfw hi i h1) j h2
    have hb := hw.back (QiS r3 hid him) (QdV r3)
    exact ⟨nx, w', _, r1, r2, QdV r3, hb, immS himm (Qfp r3 hid him r5)⟩
   ·cases h
  ·cases h
 ·cases h
def Qhi (Γ : Env) (ts : Ts) (op : Op) : Option (List Prop × S) :=
 match op with
 | .makeSlice t l c => match Q2 Γ t with
  | some (e, te) => match QeG te && (QN te).all C.imm with
   | true => match bare (opnd ts l) with
    | (p, .c (.int _ l')) => match bare (opnd ts c) with
     | (q, .c (.int _ c')) => some (p ++ q ++ (Qbt e te [] l' c' (QcW l c)).1, .c (.isl te.size l'.toNat (Qbx (QN te)) (QcW l c)))
     | _ => none
    | _ => none
   | false => none
  | none => none
 | _ => none
theorem QnH (he : ∀ x ∈ op.operands, opnd ts' x = opnd ts x) : Qhi Γ ts' op = Qhi Γ ts op := by
 unfold Qhi
 split
 ·rename_i t l c
  rw [he l (by simp [Op.operands]), he c (by simp [Op.operands])]
 ·rfl
theorem QsY (hΓ : Qw P Γ) (hw : HSat K F H μ w) (hT : TSat F H μ ts a.tmps) (o : Oper) (h : Qhi Γ ts o.op = some (ns, s)) (hn : ∀ q ∈ ns, q) :
  ∃ nx w' F', (execOp a.eval o).run P w = .ok nx w' ∧ (nx = .skip ∨ ∃ v, nx = .value v) ∧ F.le F' ∧ HSat K F' H μ w' ∧ RepS F' H μ s (Qei nx) := by
 unfold Qhi at h
 split at h
 ·rename_i t l c ho
  split at h
  ·rename_i e te he
   split at h
   ·rename_i hg
    rw [QxA] at hg
    split at h
    ·rename_i p kl l' hb1
     split at h
     ·rename_i q kc c' hb2
      obtain ⟨hu, hte⟩ := Qab (P := P) hΓ he
      cases h
      have h1 : a.eval l = .int kl l' := Qaq (Q9 hT l) hb1 (Qd (Qd hn))
      have h2 : a.eval c = .int kc c' := Qaq (Q9 hT c) hb2 (Qb (Qd hn))
      obtain ⟨r, w', μ', r1, r2, r3, r4⟩ := QmV (P := P) (hw.aside μ) hu hte (Qbz hg.1).1 (l := l') (c := c') (xq := QcW l c) (kl := kl) (kc := kc) (Qb hn)
      have hid : getL (Qbt e te [] l' c' (QcW l c)).2.2 0 = some (.arr e te.size l'.toNat (Qbx (QN te))) := rfl
      have him : ∀ i, i < l'.toNat → ∀ j, j < te.size → (Qbx (QN te) i j).imm = true := fun i _ j _ => by
       simp only [Qbx, lget, Qc]
       cases hj : (QN te)[j]? with
       | none => rfl
       | some x => exact Qx2.1 hg.2 x (Qx8 hj)
      have hb := hw.back (QiS r2 hid him) (QdV r2)
      refine ⟨.value r, w', _, by unfold execOp; rw [ho]; simp only [h1, h2]; exact val1 r1, .inr ⟨r, rfl⟩, QdV r2, hb, immS rfl (?_ : RepS _ (fzH 0 l'.toNat (Qbx (QN te)) (Qbt e te [] l' c' (QcW l c)).2.2) μ' _ r)⟩
      have := Qfp r2 hid him (s := .c (Qbt e te [] l' c' (QcW l c)).2.1) r4
      simpa [Qbt, fzS, fzC] using this
     ·cases h
    ·cases h
   ·cases h
  ·cases h
 ·cases h
def litW (Γ : Env) (ts : Ts) (op : Op) : Option (List Prop × S) :=
 match litV Γ ts op with
 | some s => some ([], s)
 | none => Qhi Γ ts op
theorem Qpk (he : ∀ x ∈ op.operands, opnd ts' x = opnd ts x) : litW Γ ts' op = litW Γ ts op := by
 unfold litW
 rw [Qo6 he, QnH he]
theorem Qt0 (hΓ : Qw P Γ) (hw : HSat K F H μ w) (hT : TSat F H μ ts a.tmps) (o : Oper) (h : litW Γ ts o.op = some (ns, s)) (hn : ∀ q ∈ ns, q) :
  ∃ nx w' F', (execOp a.eval o).run P w = .ok nx w' ∧ (nx = .skip ∨ ∃ v, nx = .value v) ∧ F.le F' ∧ HSat K F' H μ w' ∧ RepS F' H μ s (Qei nx) := by
 unfold litW at h
 split at h
 ·rename_i s' hv
  cases h
  exact QtI hΓ hw hT o hv
 ·exact QsY hΓ hw hT o h hn
inductive CallE (P : Program) (f : FuncId) (args : List S) (H : List O) (k : S → List O → Prop) : Prop
 | intro (s : S) (H' : List O) (hb : HasBody P f) (hp : CSpec P f args H fun s' H'' => s' = s ∧ H'' = H') (hch : ∀ id o, (∀ a ∈ args, idS a ≠ some id) → getL H id = some o → getL H' id = some o) (hk : k s H') : CallE P f args H k
theorem CallE.out (h : CallE P f args H k) :
  ∃ s H', HasBody P f ∧ CSpec P f args H (fun s' H'' => s' = s ∧ H'' = H') ∧ (∀ id o, (∀ a ∈ args, idS a ≠ some id) → getL H id = some o → getL H' id = some o) ∧ k s H' := by
 obtain ⟨s, H', h1, h2, h3, h4⟩ := h
 exact ⟨s, H', h1, h2, h3, h4⟩
inductive CallF (P : Program) (f : FuncId) (args : List S) (H : List O) (k : S → List O → Prop) : Prop
 | intro (s : S) (H' : List O) (hb : HasBody P f) (hp : CSpec P f args H fun s' H'' => s' = s ∧ H'' = H') (hk : k s H') : CallF P f args H k
theorem CallF.out (h : CallF P f args H k) :
  ∃ s H', HasBody P f ∧ CSpec P f args H (fun s' H'' => s' = s ∧ H'' = H') ∧ k s H' := by
 obtain ⟨s, H', h1, h2, h3⟩ := h
 exact ⟨s, H', h1, h2, h3⟩
def QqB (E : List Nat) : Op → Bool
 | .call { callee := .value (.func f), .. } => memN E (8589934592 + f)
 | _ => false
def lzOk (ts : Ts) : List Operand → Bool
 | [] => true
 | x :: r => (match opnd ts x with
  | .lz _ s => match idS s with
   | some _ => false
   | none => true
  | _ => true) && lzOk ts r
noncomputable def QlR (X : Cx) (E : List Nat) (all : List Oper) (o : Oper) (ts : Ts) (H : List O) (K : Ts → List O → Prop) : Prop :=
 match o.guard with
 | none => match Q3 o.op with
  | true => match Qa6 ts o.op with
   | some (q, f, l) => match Qeh E o.op with
    | true => match QqB E o.op with
     | true => Qbh q (CallF X.P f l H fun s H' => Qat H' fun H'' => Q4 s fun s' => putK X.nt o.dst s' ts fun ts' => K ts' H'')
     | false => Qbh q (CallE X.P f l H fun s H' => Qat H' fun H'' => Q4 s fun s' => putK X.nt o.dst s' ts fun ts' => K ts' H'')
    | false => Qbh q (CallP X.P true f l fun s => Q4 s fun s' => putK X.nt o.dst s' ts fun ts' => K ts' H)
   | none => Stuck o ts H
  | false => match QlQ o.op && !QlS E o.op with
   | true => match effE E X.Γ ts H o.op with
    | some (ns, s, H') => Qbh ns (Qat H' fun H'' => Q4 s fun s' => putK X.nt o.dst s' ts fun ts' => K ts' H'')
    | none => Stuck o ts H
   | false => match lzOk ts o.op.operands.toList with
    | true => match QlS E o.op with
     | true => match litW X.Γ ts o.op with
      | some (ns, s) => Qbh ns (Q4 s fun s' => putK X.nt o.dst s' ts fun ts' => K ts' H)
      | none => Stuck o ts H
     | false => match val X.Γ ts H o.op with
      | some (ns, s) => Qbh ns (frcK (isEp ts o.op) s fun s0 => Q4 s0 fun s' => putK X.nt o.dst s' ts fun ts' => K ts' H)
      | none => Stuck o ts H
    | false => Stuck o ts H
 | some (j, want) => match isE E o with
  | true => Stuck o ts H
  | false => match getL all j with
   | some oj => match oj.dst with
    | some d => match Q6 want (find d ts) with
     | some g => match Nat.blt d X.nt with
      | true => match Q3 o.op with
       | true => match Qa6 ts o.op with
        | some (q, f, l) => QdQ g q (CallP X.P g f l fun s => Q4 s fun s' => putK X.nt o.dst (.lz g s') ts fun ts' => K ts' H)
        | none => Stuck o ts H
       | false => match QlS E o.op with
        | true => match litW X.Γ ts o.op with
         | some (ns, s) => QdQ g ns (Q4 s fun s' => putK X.nt o.dst (.lz g s') ts fun ts' => K ts' H)
         | none => Stuck o ts H
        | false => match val X.Γ ts H o.op with
         | some (ns, s) => QdQ g ns (frcK (isEp ts o.op) s fun s0 => Q4 s0 fun s' => putK X.nt o.dst (.lz g s') ts fun ts' => K ts' H)
         | none => Stuck o ts H
      | false => Stuck o ts H
     | none => Stuck o ts H
    | none => Stuck o ts H
   | none => Stuck o ts H
noncomputable def Qb7 (X : Cx) (E : List Nat) (all : List Oper) (l : List Oper) : Ts → List O → (Ts → List O → Prop) → Prop :=
 List.rec (motive := fun _ => Ts → List O → (Ts → List O → Prop) → Prop) (fun ts H K => K ts H) (fun o _ ih ts H K => QlR X E all o ts H fun ts' H' => ih ts' H' K) l
theorem Qoh {r : List Oper} {K : Ts → List O → Prop} : Qb7 X E all (o :: r) ts H K = QlR X E all o ts H fun ts' H' => Qb7 X E all r ts' H' K := rfl
inductive Ev (X : Cx) (E : List Nat) (all : List Oper) (o : Oper) (ts : Ts) (H : List O) : S → List O → Prop
 | val (ns : List Prop) (s : S) (hg : o.guard = none) (hc : Q3 o.op = false) (he : isE E o = false) (hl : lzOk ts o.op.operands.toList = true) (hv : val X.Γ ts H o.op = some (ns, s)) (hn : ∀ q ∈ ns, q) : Ev X E all o ts H s H
 | lit (ns : List Prop) (s : S) (hg : o.guard = none) (hc : Q3 o.op = false) (he : isE E o = false) (hl : lzOk ts o.op.operands.toList = true) (hv : litW X.Γ ts o.op = some (ns, s)) (hn : ∀ q ∈ ns, q) : Ev X E all o ts H s H
 | eff (ns : List Prop) (s : S) (H' : List O) (hg : o.guard = none) (hc : Q3 o.op = false) (he : isE E o = true) (hv : effE E X.Γ ts H o.op = some (ns, s, H')) (hn : ∀ q ∈ ns, q) : Ev X E all o ts H s H'
 | callE (q : List Prop) (f : FuncId) (l : List S) (s : S) (H' : List O) (hg : o.guard = none) (hc : Q3 o.op = true) (he : isE E o = true) (hv : Qa6 ts o.op = some (q, f, l)) (hq : ∀ p ∈ q, p) (hb : HasBody X.P f) (hp : CSpec X.P f l H fun s' H'' => s' = s ∧ H'' = H') (hch : QqB E o.op = false → ∀ id o, (∀ a ∈ l, idS a ≠ some id) → getL H id = some o → getL H' id = some o) : Ev X E all o ts H s H'
 | call (q : List Prop) (f : FuncId) (l l' : List S) (r : S) (hg : o.guard = none) (hc : Q3 o.op = true) (he : isE E o = false) (hv : Qa6 ts o.op = some (q, f, l)) (hq : ∀ p ∈ q, p) (hb : HasBody X.P f) (hp : PSpec X.P f l' r) (ha : leA l l') (hr : r.imm = true) : Ev X E all o ts H r H
 | gval (j : Nat) (want : Bool) (oj : Oper) (d : Nat) (g : Bool) (ns : List Prop) (s : S) (hg : o.guard = some (j, want)) (hj : getL all j = some oj) (hd : oj.dst = some d) (hgb : Q6 want (find d ts) = some g) (hlt : d < X.nt)
   (hc : Q3 o.op = false) (he : isE E o = false) (hv : Am.val X.Γ ts H o.op = some (ns, s)) (hn : g = true → ∀ q ∈ ns, q) : Ev X E all o ts H (.lz g s) H
 | glit (j : Nat) (want : Bool) (oj : Oper) (d : Nat) (g : Bool) (ns : List Prop) (s : S) (hg : o.guard = some (j, want)) (hj : getL all j = some oj) (hd : oj.dst = some d) (hgb : Q6 want (find d ts) = some g) (hlt : d < X.nt)
   (hc : Q3 o.op = false) (he : isE E o = false) (hv : litW X.Γ ts o.op = some (ns, s)) (hn : g = true → ∀ q ∈ ns, q) : Ev X E all o ts H (.lz g s) H
 | gcall (j : Nat) (want : Bool) (oj : Oper) (d : Nat) (g : Bool) (q : List Prop) (f : FuncId) (l l' : List S) (r : S) (hg : o.guard = some (j, want)) (hj : getL all j = some oj) (hd : oj.dst = some d) (hgb : Q6 want (find d ts) = some g) (hlt : d < X.nt)
   (hc : Q3 o.op = true) (he : isE E o = false) (hv : Qa6 ts o.op = some (q, f, l)) (hq : g = true → ∀ p ∈ q, p) (hb : HasBody X.P f) (hp : g = true → PSpec X.P f l' r) (ha : g = true → leA l l') (hr : r.imm = true) : Ev X E all o ts H (.lz g r) H
def putT (nt : Nat) (dst : Option Tmp) (s : S) (ts : Ts) : Ts :=
 match dst with
 | none => ts
 | some d => match Nat.blt d nt with
  | true => (d, s) :: ts
  | false => ts
theorem QcO (nt : Nat) (dst : Option Tmp) (s : S) (ts : Ts) (k : Ts → Prop) : putK nt dst s ts k = k (putT nt dst s ts) := by
 unfold putK putT
 cases dst with
 | none => rfl
 | some d => simp only; cases Nat.blt d nt <;> rfl
theorem Ql3 (h : Qeh E op = true) : Q3 op = true := by
 unfold Qeh at h
 split at h
 ·rfl
 ·cases h
theorem QqI (h : Q3 op = true) : QlQ op = false := by
 cases op <;> simp only [Q3, Qy3] at h
 rename_i c
 obtain ⟨cal, args, at'⟩ := c
 cases cal <;> simp [Q3] at h
 rfl
theorem Qmo (h : Q3 o.op = false) : isE E o = (QlQ o.op && !QlS E o.op) := by
 unfold isE
 cases he : Qeh E o.op with
 | false => simp
 | true => rw [Ql3 he] at h; cases h
theorem Qio (h : Q3 o.op = true) : isE E o = Qeh E o.op := by
 unfold isE
 rw [QqI h]; rfl
theorem Qtl {K : Ts → List O → Prop} (h : QlR X E all o ts H K) : ∃ s H', Ev X E all o ts H s H' ∧ K (putT X.nt o.dst s ts) H' := by
 unfold QlR at h
 split at h
 ·rename_i hg
  split at h
  ·rename_i hc
   split at h
   ·rename_i q f l hv
    split at h
    ·rename_i hec
     split at h
     ·rename_i hfr
      obtain ⟨h1, h2⟩ := Qao h
      obtain ⟨s, H', hb, hp, hk⟩ := h2.out
      rw [QaO, Qag, QcO] at hk
      exact ⟨s, H', .callE q f l s H' hg hc (by rw [Qio hc]; exact hec) hv h1 hb hp (fun e => by rw [hfr] at e; cases e), hk⟩
     ·obtain ⟨h1, h2⟩ := Qao h
      obtain ⟨s, H', hb, hp, hch, hk⟩ := h2.out
      rw [QaO, Qag, QcO] at hk
      exact ⟨s, H', .callE q f l s H' hg hc (by rw [Qio hc]; exact hec) hv h1 hb hp (fun _ => hch), hk⟩
    ·rename_i hec
     obtain ⟨h1, h2⟩ := Qao h
     obtain ⟨l', r, hb, hp, ha, hr, hk⟩ := h2.out
     rw [Qag, QcO] at hk
     exact ⟨r, H, .call q f l l' r hg hc (by rw [Qio hc]; exact hec) hv h1 hb (hp rfl) (ha rfl) hr, hk⟩
   ·exact (QZ h).elim
  ·rename_i hc
   split at h
   ·rename_i he
    split at h
    ·rename_i ns s H' hv
     obtain ⟨h1, h2⟩ := Qao h
     rw [QaO, Qag, QcO] at h2
     exact ⟨s, H', .eff ns s H' hg hc (by rw [Qmo hc]; exact he) hv h1, h2⟩
    ·exact (QZ h).elim
   ·rename_i he
    split at h
    ·rename_i hl
     split at h
     ·split at h
      ·rename_i ns s hv
       obtain ⟨h1, h2⟩ := Qao h
       rw [Qag, QcO] at h2
       exact ⟨s, H, .lit ns s hg hc (by rw [Qmo hc]; exact he) hl hv h1, h2⟩
      ·exact (QZ h).elim
     ·split at h
      ·rename_i ns s hv
       obtain ⟨h1, h2⟩ := Qao h
       replace h2 := QfU h2
       rw [Qag, QcO] at h2
       exact ⟨s, H, .val ns s hg hc (by rw [Qmo hc]; exact he) hl hv h1, h2⟩
      ·exact (QZ h).elim
    ·exact (QZ h).elim
 ·rename_i j want hg
  split at h
  ·exact (QZ h).elim
  ·rename_i he
   split at h
   ·rename_i oj hj
    split at h
    ·rename_i d hd
     split at h
     ·rename_i g hgb
      split at h
      ·rename_i hlt
       have hlt' : d < X.nt := QxJ hlt
       split at h
       ·rename_i hc
        split at h
        ·rename_i q f l hv
         obtain ⟨h1, h2⟩ := QcV h
         obtain ⟨l', r, hb, hp, ha, hr, hk⟩ := h2.out
         rw [Qag, QcO] at hk
         exact ⟨.lz g r, H, .gcall j want oj d g q f l l' r hg hj hd hgb hlt' hc he hv h1 hb hp ha hr, hk⟩
        ·exact (QZ h).elim
       ·rename_i hc
        split at h
        ·split at h
         ·rename_i ns s hv
          obtain ⟨h1, h2⟩ := QcV h
          rw [Qag, QcO] at h2
          exact ⟨.lz g s, H, .glit j want oj d g ns s hg hj hd hgb hlt' hc he hv h1, h2⟩
         ·exact (QZ h).elim
        ·split at h
         ·rename_i ns s hv
          obtain ⟨h1, h2⟩ := QcV h
          replace h2 := QfU h2
          rw [Qag, QcO] at h2
          exact ⟨.lz g s, H, .gval j want oj d g ns s hg hj hd hgb hlt' hc he hv h1, h2⟩
         ·exact (QZ h).elim
      ·exact (QZ h).elim
     ·exact (QZ h).elim
    ·exact (QZ h).elim
   ·exact (QZ h).elim
def QdJ (all : List Oper) (o : Oper) : List Nat :=
 (o.op.operands.toList.filterMap fun | .tmp t => some t | _ => none) ++ (match o.guard with
  | some (j, _) => match getL all j with
   | some oj => oj.dst.toList
   | none => []
  | none => [])
theorem QfH (h : ∀ t ∈ QdJ all o, find t ts' = find t ts) : ∀ x ∈ o.op.operands, opnd ts' x = opnd ts x := by
 intro x hx
 cases x with
 | tmp t =>
  refine h t ?_
  simp only [QdJ, Qyc, List.mem_filterMap]
  exact .inl ⟨.tmp t, by simpa using hx, rfl⟩
 | _ => rfl
theorem Qf7 {ts ts' : Ts} : ∀ (xs : List Operand), (∀ x ∈ xs, opnd ts' x = opnd ts x) → lzOk ts' xs = lzOk ts xs
 | [], _ => rfl
 | x :: r, h => by
  have hx : opnd ts' x = opnd ts x := h x (by simp)
  have ih := Qf7 r (fun y hy => h y (by simp [hy]))
  simp only [lzOk, hx, ih]
def Qcm : Op → Bool
 | .move _ => true
 | _ => false
theorem Qti (h : Qcm op = true) {r : List Prop × S} (hv : val Γ ts H op = some r) (he : ∀ x ∈ op.operands, opnd ts' x = opnd ts x) : val Γ ts' H' op = some r := by
 cases op <;> simp only [Qcm, Qy3] at h
 rename_i a
 have := he a (by simp [Op.operands])
 simp only [val, this] at hv ⊢
 exact hv
theorem Ev.move {H2 : List O} (h : Ev X E all o ts H s H') (ht : ∀ t ∈ QdJ all o, find t ts' = find t ts)
  (hH : H2 = H ∨ (Q3 o.op = true ∧ isE E o = false) ∨ (isE E o = false ∧ o.guard = none ∧ (Qcm o.op = true ∨ ∀ x ∈ o.op.operands, Sees H H2 (idS (opnd ts x))))) : ∃ H2', Ev X E all o ts' H2 s H2' ∧ (isE E o = true → H2' = H') ∧ (isE E o = false → H2' = H2) := by
 have he := QfH ht
 have guard : ∀ {j : Nat} {want : Bool} {oj : Oper} {d : Nat}, o.guard = some (j, want) → getL all j = some oj → oj.dst = some d → find d ts' = find d ts := by
  intro j want oj d h1 h2 h3
  refine ht d ?_
  simp only [QdJ, Qyc, h1, h2, h3]
  right; simp
 have self : ∀ x ∈ o.op.operands, Sees H H (idS (opnd ts x)) := fun x _ i _ o ho => ho
 cases h with
 | val ns _ hg hc hef hl hv hn =>
  have hv2 : Am.val X.Γ ts' H2 o.op = some (ns, s) := by
   rcases hH with rfl | ⟨h1, _⟩ | ⟨_, _, h2 | h2⟩
   ·exact Qim hv he self
   ·rw [hc] at h1; cases h1
   ·exact Qti h2 hv he
   ·exact Qim hv he h2
  exact ⟨H2, .val ns s hg hc hef (by rw [Qf7 _ (fun x hx => he x (by simpa using hx))]; exact hl) hv2 hn, ⟨fun (e : isE E o = true) => absurd e (by rw [hef]; simp), fun _ => rfl⟩⟩
 | lit ns _ hg hc hef hl hv hn =>
  exact ⟨H2, .lit ns s hg hc hef (by rw [Qf7 _ (fun x hx => he x (by simpa using hx))]; exact hl) (by rw [Qpk he]; exact hv) hn, ⟨fun (e : isE E o = true) => absurd e (by rw [hef]; simp), fun _ => rfl⟩⟩
 | eff ns _ _ hg hc hef hv hn =>
  rcases hH with rfl | ⟨h1, _⟩ | ⟨h1, _⟩
  ·exact ⟨H', .eff ns s H' hg hc hef (by rw [QpK he]; exact hv) hn, ⟨fun _ => rfl, fun (e : isE E o = false) => absurd e (by rw [hef]; simp)⟩⟩
  ·rw [hc] at h1; cases h1
  ·rw [hef] at h1; cases h1
 | callE q f l _ _ hg hc hef hv hq hb hp hch =>
  rcases hH with rfl | ⟨_, h1⟩ | ⟨h1, _⟩
  ·exact ⟨H', .callE q f l s H' hg hc hef (by rw [Qes he]; exact hv) hq hb hp hch, ⟨fun _ => rfl, fun (e : isE E o = false) => absurd e (by rw [hef]; simp)⟩⟩
  ·rw [hef] at h1; cases h1
  ·rw [hef] at h1; cases h1
 | call q f l l' _ hg hc hef hv hq hb hp ha hr =>
  exact ⟨H2, .call q f l l' s hg hc hef (by rw [Qes he]; exact hv) hq hb hp ha hr, ⟨fun (e : isE E o = true) => absurd e (by rw [hef]; simp), fun _ => rfl⟩⟩
 | gval j want oj d g ns s' hg hj hd hgb hlt hc hef hv hn =>
  have hsee : ∀ x ∈ o.op.operands, Sees H H2 (idS (opnd ts x)) := by
   rcases hH with rfl | ⟨h1, _⟩ | ⟨_, h1, _⟩
   ·exact self
   ·rw [hc] at h1; cases h1
   ·rw [hg] at h1; cases h1
  exact ⟨H2, .gval j want oj d g ns s' hg hj hd (by rw [guard hg hj hd]; exact hgb) hlt hc hef (Qim hv he hsee) hn, ⟨fun (e : isE E o = true) => absurd e (by rw [hef]; simp), fun _ => rfl⟩⟩
 | glit j want oj d g ns s' hg hj hd hgb hlt hc hef hv hn =>
  exact ⟨H2, .glit j want oj d g ns s' hg hj hd (by rw [guard hg hj hd]; exact hgb) hlt hc hef (by rw [Qpk he]; exact hv) hn, ⟨fun (e : isE E o = true) => absurd e (by rw [hef]; simp), fun _ => rfl⟩⟩
 | gcall j want oj d g q f l l' r hg hj hd hgb hlt hc hef hv hq hb hp ha hr =>
  exact ⟨H2, .gcall j want oj d g q f l l' r hg hj hd (by rw [guard hg hj hd]; exact hgb) hlt hc hef (by rw [Qes he]; exact hv) hq hb hp ha hr, ⟨fun (e : isE E o = true) => absurd e (by rw [hef]; simp), fun _ => rfl⟩⟩
theorem Ev.run (hΓ : Qw X.P X.Γ) (hi : getL all i = some o) (h : Ev X E all o ts H s H') {F0 : Mem} {H0 : List O} {μ0 : Nat → Value} 
  (hs : Sat X K F0 H0 μ0 ts H F μ a w) {k : Act → World → Prop} {Q : Exit → Act → World → Prop} (hk : ∀ F' μ' v w', F.le F' → Ext H μ H' μ' → HSat K F' H' μ' w' → RepS F' H' μ' s v → k (a.put o.dst v) w') : wpOp X.P all.toArray Q i k a w := by
 have hi' : all.toArray[i]? = some o := by rw [Qc] at hi; simpa using hi
 unfold wpOp
 simp only [hi']
 have plain : o.guard = none → o.wp X.P a w k Q → (if Region.wanted o (yielded all.toArray a.tmps) = true then o.wp X.P a w k Q ∨ (o.asks X.P a w ∧ LetsOut Q) else k (a.put o.dst undef) w) := by
  intro hg hw
  rw [Qxt (by simp [Region.wanted, hg])]
  exact .inl hw
 have guarded : ∀ {j : Nat} {want : Bool} {oj : Oper} {d : Nat} {g : Bool}, o.guard = some (j, want) → getL all j = some oj → oj.dst = some d → Q6 want (find d ts) = some g → d < X.nt → (g = true → o.wp X.P a w k Q) → (g = false → k (a.put o.dst undef) w) →
   (if Region.wanted o (yielded all.toArray a.tmps) = true then o.wp X.P a w k Q ∨ (o.asks X.P a w ∧ LetsOut Q) else k (a.put o.dst undef) w) := by
  intro j want oj d g hg hj hd hgb hlt h1 h2
  have hdlt : d < a.tmps.size := by rw [hs.sz]; exact hlt
  have hrep := QgS hgb (hs.tp d)
  have hy : (Region.wanted o (yielded all.toArray a.tmps) = true) ↔ g = true := by
   rw [Qc] at hj
   simp only [Region.wanted, hg, yielded]
   simp only [QyU, hj, Option.bind_some, hd]
   have : a.tmps[d]? = some a.tmps[d] := Qx9 hdlt
   simp only [this]
   have he : a.tmps.getD d undef = a.tmps[d] := by simp [Array.getD, hdlt]
   rw [he] at hrep
   rw [hrep]
   generalize a.tmps[d] = vv
   cases vv <;> simp
  by_cases c : g = true
  ·rw [Qxt (hy.2 c)]; exact .inl (h1 c)
  ·rw [Qxu (fun e => c (hy.1 e))]; exact h2 (by simpa using c)
 cases h with
 | val ns _ hg hc hef hl hv hn =>
  refine plain hg ?_
  obtain ⟨r, r1, r2⟩ := QjE (P := X.P) hΓ hs.hs hs.tp o hv hn
  unfold Oper.wp
  rw [r1, Oper.upon_value]
  exact hk F μ r w (Mem.le_refl F) (Ext.refl H μ) hs.hs r2
 | lit ns _ hg hc hef hl hv hn =>
  refine plain hg ?_
  obtain ⟨nx, w', F', r1, r2, r3, r4, r5⟩ := Qt0 (P := X.P) hΓ hs.hs hs.tp o hv hn
  unfold Oper.wp
  rw [r1]
  rcases r2 with rfl | ⟨v, rfl⟩
  ·rw [Oper.upon_skip]; exact hk F' μ undef w' r3 (Ext.refl H μ) r4 r5
  ·rw [Oper.upon_value]; exact hk F' μ v w' r3 (Ext.refl H μ) r4 r5
 | eff ns _ _ hg hc hef hv hn =>
  refine plain hg ?_
  obtain ⟨nx, w', μ', r1, r2, r3, r4, r5⟩ := Qt4 (P := X.P) hΓ hs.hs hs.tp o hv hn
  unfold Oper.wp
  rw [r1]
  rcases r2 with rfl | ⟨v, rfl⟩
  ·rw [Oper.upon_skip]; exact hk F μ' undef w' (Mem.le_refl F) r4 r3 r5
  ·rw [Oper.upon_value]; exact hk F μ' v w' (Mem.le_refl F) r4 r3 r5
 | callE q f l _ _ hg hc hef hv hq hb hp hch =>
  refine plain hg ?_
  obtain ⟨fn, f1, f2, f3⟩ := hb.out
  obtain ⟨vs, r1, r2⟩ := QdM (P := X.P) hs.tp o hv hq f1 f2 f3 w
  unfold Oper.wp
  rw [r1, Oper.upon_enter]
  refine (hp K F μ w vs hs.hs r2).mono ?_
  rintro e w' ⟨v, F', μ', s', H'', rfl, g1, g2, g3, g4, rfl, rfl⟩
  exact hk F' μ' v w' g1 g3 g2 g4
 | call q f l l' _ hg hc hef hv hq hb hp ha hr =>
  refine plain hg ?_
  obtain ⟨fn, f1, f2, f3⟩ := hb.out
  obtain ⟨vs, r1, r2⟩ := QdM (P := X.P) hs.tp o hv hq f1 f2 f3 w
  unfold Oper.wp
  rw [r1, Oper.upon_enter]
  refine (CSpec.pure hp ha hr (k := fun s' H' => s' = s ∧ H' = H) ⟨rfl, rfl⟩ K F μ w vs hs.hs r2).mono ?_
  rintro e w' ⟨v, F', μ', s', H', rfl, g1, g2, g3, g4, rfl, rfl⟩
  exact hk F' μ' v w' g1 g3 g2 g4
 | gval j want oj d g ns s' hg hj hd hgb hlt hc hef hv hn =>
  refine guarded hg hj hd hgb hlt (fun e => ?_) (fun e => hk F μ undef w (Mem.le_refl F) (Ext.refl H μ) hs.hs ⟨fun e' => by (rw [e] at e'; cases e'), fun _ => rfl⟩)
  obtain ⟨r, r1, r2⟩ := QjE (P := X.P) hΓ hs.hs hs.tp o hv (hn e)
  unfold Oper.wp
  rw [r1, Oper.upon_value]
  exact hk F μ r w (Mem.le_refl F) (Ext.refl H μ) hs.hs ⟨fun _ => r2, fun e' => by (rw [e] at e'; cases e')⟩
 | glit j want oj d g ns s' hg hj hd hgb hlt hc hef hv hn =>
  refine guarded hg hj hd hgb hlt (fun e => ?_) (fun e => hk F μ undef w (Mem.le_refl F) (Ext.refl H μ) hs.hs ⟨fun e' => by (rw [e] at e'; cases e'), fun _ => rfl⟩)
  obtain ⟨nx, w', F', r1, r2, r3, r4, r5⟩ := Qt0 (P := X.P) hΓ hs.hs hs.tp o hv (hn e)
  unfold Oper.wp
  rw [r1]
  rcases r2 with rfl | ⟨v, rfl⟩
  ·rw [Oper.upon_skip]; exact hk F' μ undef w' r3 (Ext.refl H μ) r4 ⟨fun _ => r5, fun e' => absurd (e.symm.trans e') (by decide)⟩
  ·rw [Oper.upon_value]; exact hk F' μ v w' r3 (Ext.refl H μ) r4 ⟨fun _ => r5, fun e' => absurd (e.symm.trans e') (by decide)⟩
 | gcall j want oj d g q f l l' r hg hj hd hgb hlt hc hef hv hq hb hp ha hr =>
  refine guarded hg hj hd hgb hlt (fun e => ?_) (fun e => hk F μ undef w (Mem.le_refl F) (Ext.refl H μ) hs.hs ⟨fun e' => by (rw [e] at e'; cases e'), fun _ => rfl⟩)
  obtain ⟨fn, f1, f2, f3⟩ := hb.out
  obtain ⟨vs, r1, r2⟩ := QdM (P := X.P) hs.tp o hv (hq e) f1 f2 f3 w
  unfold Oper.wp
  rw [r1, Oper.upon_enter]
  refine (CSpec.pure (hp e) (ha e) hr (k := fun s' H' => s' = r ∧ H' = H) ⟨rfl, rfl⟩ K F μ w vs hs.hs r2).mono ?_
  rintro e' w' ⟨v, F', μ', s', H', rfl, g1, g2, g3, g4, rfl, rfl⟩
  exact hk F' μ' v w' g1 g3 g2 ⟨fun _ => g4, fun e' => by (rw [e] at e'; cases e')⟩
def Qa4 (l : List Oper) (k : Nat) : Option Tmp :=
 match getL l k with
 | some o => o.dst
 | none => none
def tsF (nt : Nat) (l : List Oper) (sv : Nat → S) (D : Nat → Bool) (ts : Ts) : Nat → Ts
 | 0 => ts
 | k + 1 => if D k = true then putT nt (Qa4 l k) (sv k) (tsF nt l sv D ts k) else tsF nt l sv D ts k
theorem QgJ (nt : Nat) (o : Oper) (r : List Oper) (s : S) (sv : Nat → S) (ts : Ts) : ∀ k, tsF nt (o :: r) (fun k => match k with | 0 => s | k + 1 => sv k) (fun _ => true) ts (k + 1) = tsF nt r sv (fun _ => true) (putT nt o.dst s ts) k
 | 0 => by simp [tsF, Qa4, getL]
 | k + 1 => by
  have ih := QgJ nt o r s sv ts k
  rw [tsF, Qxt rfl, ih, tsF, Qxt rfl]
  rfl
theorem QkA {X : Cx} {E : List Nat} {all : List Oper} : ∀ (l : List Oper) {ts : Ts} {H : List O} {k : Ts → List O → Prop}, Qb7 X E all l ts H k →
  ∃ (sv : Nat → S) (HH : Nat → List O), HH 0 = H ∧ (∀ i o, getL l i = some o → Ev X E all o (tsF X.nt l sv (fun _ => true) ts i) (HH i) (sv i) (HH (i + 1))) ∧ k (tsF X.nt l sv (fun _ => true) ts l.length) (HH l.length)
 | [], ts, H, k, h => ⟨fun _ => .u, fun _ => H, rfl, fun i o hi => by simp [getL] at hi, h⟩
 | o :: r, ts, H, k, h => by
  rw [Qoh] at h
  obtain ⟨s, H1, h1, h2⟩ := Qtl h
  obtain ⟨sv, HH, e1, e2, e3⟩ := QkA r h2
  refine ⟨fun k => match k with | 0 => s | k + 1 => sv k, fun k => match k with | 0 => H | k + 1 => HH k, rfl, fun i o' hi => ?_, ?_⟩
  ·cases i with
   | zero => simp only [getL, Qxv] at hi; subst hi; simp only [e1]; exact h1
   | succ i =>
    simp only [getL] at hi
    rw [QgJ]
    exact e2 i o' hi
  ·rw [QxR, QgJ]
   exact e3
def Qg0 (ms : List Nat) (es : List Edge) : Nat := es.foldl (fun s e => if Region.binds .any e then s ||| (2 ^ e.on) ||| ms.getD e.on 0 else s) 0
def QiJ : List Oper → List Nat → List Nat
 | [], acc => acc
 | o :: r, acc => QiJ r (acc ++ [Qg0 acc o.after.toList])
inductive Anc (l : List Oper) : Nat → Nat → Prop
 | here {i j : Nat} {o : Oper} {e : Edge} (hj : getL l j = some o) (he : e ∈ o.after.toList) (hb : Region.binds .any e = true) (hi : e.on = i) : Anc l i j
 | far {i j : Nat} {o : Oper} {e : Edge} (hj : getL l j = some o) (he : e ∈ o.after.toList) (hb : Region.binds .any e = true) (hi : Anc l i e.on) : Anc l i j
theorem QkU (ms : List Nat) (i : Nat) : ∀ (es : List Edge) (s : Nat), (es.foldl (fun s e => if Region.binds .any e then s ||| (2 ^ e.on) ||| ms.getD e.on 0 else s) s).testBit i = true →
  s.testBit i = true ∨ ∃ e ∈ es, Region.binds .any e = true ∧ (e.on = i ∨ (ms.getD e.on 0).testBit i = true)
 | [], s, h => .inl h
 | e :: es, s, h => by
  rw [List.foldl_cons] at h
  rcases QkU ms i es _ h with h | ⟨e', h1, h2, h3⟩
  ·by_cases hb : Region.binds .any e = true
   ·rw [Qxt hb, Nat.testBit_or, Nat.testBit_or, QyA, QyA] at h
    rcases h with (h | h) | h
    ·exact .inl h
    ·rw [Nat.testBit_two_pow] at h
     exact .inr ⟨e, by simp, hb, .inl (by simpa using h)⟩
    ·exact .inr ⟨e, by simp, hb, .inr h⟩
   ·rw [Qxu hb] at h; exact .inl h
  ·exact .inr ⟨e', by simp [h1], h2, h3⟩
theorem Qih (l : List Oper) : ∀ (r : List Oper) (acc : List Nat), (∀ k, getL r k = getL l (acc.length + k)) → (∀ j i, (acc.getD j 0).testBit i = true → Anc l i j) → ∀ j i, ((QiJ r acc).getD j 0).testBit i = true → Anc l i j
 | [], acc, _, h => h
 | o :: r, acc, hr, h => by
  refine Qih l r _ (fun k => ?_) (fun j i hj => ?_)
  ·have := hr (k + 1)
   simp only [getL] at this
   rw [this]
   simp [Nat.add_assoc, Nat.add_comm 1 k]
  ·by_cases c : j < acc.length
   ·rw [show (acc ++ [Qg0 acc o.after.toList]).getD j 0 = acc.getD j 0 by simp [List.getD, QxS c]] at hj
    exact h j i hj
   ·by_cases c2 : j = acc.length
    ·subst c2
     rw [show (acc ++ [Qg0 acc o.after.toList]).getD acc.length 0 = Qg0 acc o.after.toList by simp [List.getD]] at hj
     have ho : getL l acc.length = some o := by rw [← Qzb acc.length, ← hr 0]; rfl
     rcases QkU acc i _ _ hj with hz | ⟨e, e1, e2, e3⟩
     ·simp at hz
     ·rcases e3 with e3 | e3
      ·exact .here ho e1 e2 e3
      ·exact .far ho e1 e2 (h _ i e3)
    ·rw [show (acc ++ [Qg0 acc o.after.toList]).getD j 0 = 0 by
      rw [List.getD, QyV (by simp; omega)]; rfl] at hj
     simp at hj
def QlV (E : List Nat) (S : List (Nat × Nat)) (all : List Oper) (ms : List Nat) (i j : Nat) (x y : Oper) : Bool :=
 (ms.getD j 0).testBit i ||
 (!(isE E x && isE E y) && !(isE E x && (!QaR x.op || y.guard.isSome) && !Q3 y.op && !S.contains (j, i)) && !(isE E y && (!QaR y.op || x.guard.isSome) && !Q3 x.op && !S.contains (i, j)) &&
  (match x.dst with
   | some t => !(QdJ all y).contains t && !(y.dst == some t)
   | none => true) &&
  (match y.dst with
   | some t => !(QdJ all x).contains t
   | none => true))
def rowB (E : List Nat) (S : List (Nat × Nat)) (all : List Oper) (ms : List Nat) (j : Nat) (y : Oper) : Nat → List Oper → Bool
 | _, [] => true
 | i, x :: r => (!Nat.blt i j || QlV E S all ms i j x y) && rowB E S all ms j y (i + 1) r
def QlL (E : List Nat) (S : List (Nat × Nat)) (all : List Oper) (ms : List Nat) : Nat → List Oper → Bool
 | _, [] => true
 | j, y :: r => (y.after.toList.all fun e => !Region.binds .any e || Nat.blt e.on j) && rowB E S all ms j y 0 all && QlL E S all ms (j + 1) r
def Qeb (E : List Nat) (S : List (Nat × Nat)) (l : List Oper) : Bool := QlL E S l (QiJ l []) 0 l && S.all fun p => match getL l p.2 with
 | some y => !QqB E y.op
 | none => true
theorem QoF {E : List Nat} {S : List (Nat × Nat)} {all : List Oper} {ms : List Nat} {j : Nat} {y : Oper} : ∀ (r : List Oper) (i0 : Nat), rowB E S all ms j y i0 r = true → ∀ k x, getL r k = some x → i0 + k < j → QlV E S all ms (i0 + k) j x y = true
 | [], _, _, k, x, hx, _ => by simp [getL] at hx
 | z :: r, i0, h, k, x, hx, hlt => by
  simp only [rowB, QxA, QyA, Qyp] at h
  cases k with
  | zero =>
   simp only [getL, Qxv] at hx
   subst hx
   rcases h.1 with h1 | h1
   ·have : Nat.blt i0 j = true := Nat.ble_eq_true_of_le hlt
    rw [this] at h1; cases h1
   ·exact h1
  | succ k =>
   simp only [getL] at hx
   have := QoF r (i0 + 1) h.2 k x hx om
   rw [show i0 + (k + 1) = i0 + 1 + k by omega]
   exact this
theorem Qma {E : List Nat} {S : List (Nat × Nat)} {all : List Oper} {ms : List Nat} : ∀ (r : List Oper) (j0 : Nat), QlL E S all ms j0 r = true → ∀ k y, getL r k = some y →
  (∀ e ∈ y.after.toList, Region.binds .any e = true → e.on < j0 + k) ∧ ∀ i x, getL all i = some x → i < j0 + k → QlV E S all ms i (j0 + k) x y = true
 | [], _, _, k, y, hy => by simp [getL] at hy
 | z :: r, j0, h, k, y, hy => by
  simp only [QlL, QxA] at h
  obtain ⟨⟨h1, h2⟩, h3⟩ := h
  cases k with
  | zero =>
   simp only [getL, Qxv] at hy
   subst hy
   refine ⟨fun e he hb => ?_, fun i x hx hlt => ?_⟩
   ·have := Qx2.1 h1 e he
    rw [hb] at this
    simp only [Bool.not_true, Bool.false_or] at this
    exact QxJ this
   ·have := QoF all 0 h2 i x hx om
    simpa using this
  | succ k =>
   simp only [getL] at hy
   have := Qma r (j0 + 1) h3 k y hy
   rw [show j0 + (k + 1) = j0 + 1 + k by omega]
   exact this
def Closed (l : List Oper) (D : Nat → Bool) : Prop := ∀ j o, getL l j = some o → D j = true → ∀ e ∈ o.after.toList, Region.binds .any e = true → D e.on = true
theorem Closed.anc (h : Closed l D) {j : Nat} (ha : Anc l i j) : (∀ o, getL l j = some o → ∀ e ∈ o.after.toList, Region.binds .any e = true → D e.on = true) → D i = true := by
 induction ha with
 | here hj he hb hi => intro hd; rw [← hi]; exact hd _ hj _ he hb
 | far hj he hb _ ih =>
  intro hd
  have hk := hd _ hj _ he hb
  exact ih fun o ho e he' hb' => h _ o ho hk e he' hb'
theorem Qaf (nt : Nat) (dst : Option Tmp) (s : S) (ts : Ts) (t : Nat) : find t (putT nt dst s ts) = if dst = some t ∧ t < nt then s else find t ts := by
 unfold putT
 cases dst with
 | none => simp
 | some d =>
  simp only
  cases hb : Nat.blt d nt with
  | true =>
   have hlt : d < nt := QxJ hb
   simp only [find]
   cases hd : Nat.beq d t with
   | true =>
    have : d = t := QxD hd
    subst this
    simp [hlt]
   | false =>
    have : d ≠ t := fun e => by subst e; simp at hd
    rw [Qxu (by simp [this])]
  | false =>
   have hlt : ¬ d < nt := fun e => by
    have : Nat.blt d nt = true := Nat.ble_eq_true_of_le e
    rw [this] at hb; cases hb
   simp only
   rw [Qxu]
   rintro ⟨e, h⟩
   cases e
   exact hlt h
theorem Qic {nt : Nat} {sv : Nat → S} {t : Nat} {D' : Nat → Bool} : ∀ m, i ≤ m → (∀ k, k < m → Qa4 l k = some t → D k = (decide (k < i) && D' k)) → find t (tsF nt l sv D ts m) = find t (tsF nt l sv D' ts i) := by
 have low : ∀ m, (∀ k, k < m → Qa4 l k = some t → D k = D' k) → find t (tsF nt l sv D ts m) = find t (tsF nt l sv D' ts m) := by
  intro m
  induction m with
  | zero => intro _; rfl
  | succ m ih =>
   intro h
   have ih' := ih fun k hk => h k om
   simp only [tsF]
   by_cases c : Qa4 l m = some t
   ·rw [h m om c]
    split
    ·rw [Qaf, Qaf, ih']
    ·exact ih'
   ·have e1 : find t (if D m = true then putT nt (Qa4 l m) (sv m) (tsF nt l sv D ts m) else tsF nt l sv D ts m) = find t (tsF nt l sv D ts m) := by
     split
     ·rw [Qaf, Qxu (by simp [c])]
     ·rfl
    have e2 : find t (if D' m = true then putT nt (Qa4 l m) (sv m) (tsF nt l sv D' ts m) else tsF nt l sv D' ts m) = find t (tsF nt l sv D' ts m) := by
     split
     ·rw [Qaf, Qxu (by simp [c])]
     ·rfl
    rw [e1, e2, ih']
 intro m hm
 induction m with
 | zero =>
  intro h
  have : i = 0 := by omega
  subst this
  rfl
 | succ m ih =>
  intro h
  by_cases c : i = m + 1
  ·subst c
   exact low (m + 1) fun k hk hd => by rw [h k hk hd]; simp [hk]
  ·have ih' := ih om fun k hk => h k om
   rw [← ih']
   simp only [tsF]
   by_cases cd : Qa4 l m = some t
   ·have := h m om cd
    rw [show decide (m < i) = false by simp; omega, Qyw] at this
    rw [Qxu (by simp [this])]
   ·split
    ·rw [Qaf, Qxu (by simp [cd])]
    ·rfl
end Go.Am
end
