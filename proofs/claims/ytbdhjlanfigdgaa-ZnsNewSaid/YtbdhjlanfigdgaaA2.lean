import Derived.Test.YtbdhjlanfigdgaaA1
import Derived.Laws.Small
import Derived.Laws.Entries
import Derived.Laws.Strings
/- THE ABSTRACT MACHINE, PART 2: types; the operations that change nothing that is tracked. -/
namespace Go.Am

inductive Z where
  | b | i (k : IntKind) | s | p | sl | f
  deriving DecidableEq

def Z.toC : Z → C
  | .b => .bool false
  | .i k => .int k 0
  | .s => .str ByteArray.empty
  | .p => .nilp
  | .sl => .nils
  | .f => .nilfn

def Z.toV : Z → Value
  | .b => .bool false
  | .i k => .int k 0
  | .s => .string ByteArray.empty
  | .p => .pointer none
  | .sl => .slice none 0 0
  | .f => .nilFunc

inductive TD where
  | bool | int (k : IntKind) | str | ptr (e : Nat) | slice (e : Nat) | strct (fs : List (Nat × Nat)) | arr (n e : Nat) | fn

structure TI where
  td : TD
  size : Nat
  bytes : Nat
  zero : List Z

abbrev Env := List (Nat × TI)

def Env.at : Env → Nat → Option TI
  | [], _ => none
  | (u, i) :: r, t => match Nat.beq u t with
    | true => some i
    | false => Env.at r t

def TI.agg (i : TI) : Bool := match i.td with
  | .strct _ | .arr _ _ => true
  | _ => false

def tdOk (P : Program) : TypeDesc → TD → Prop
  | .bool, .bool => True
  | .int k, .int k' => k = k'
  | .string, .str => True
  | .pointer e, .ptr e' => e = e'
  | .slice e, .slice e' => e = e'
  | .struct fs, .strct l => l = fs.toList.map (fun f => (f.offset, f.type)) ∧ ∀ f ∈ fs.toList, ∃ i, P.info? f.type = some i ∧ i.size ≠ 0
  | .array n e, .arr n' e' => n = n' ∧ e = e'
  | .func .., .fn => True
  | _, _ => False

structure TIok (P : Program) (t : Nat) (i : TI) : Prop where
  info : ∃ x, P.info? t = some x ∧ x.size = i.size ∧ x.bytes = i.bytes ∧ ∃ z, x.zero = some z ∧ z.cells.toList = i.zero.map Z.toV
  und : ∃ d, P.underlying t = some d ∧ tdOk P d i.td

def EnvOk (P : Program) (Γ : Env) : Prop := ∀ t i, Γ.at t = some i → TIok P t i

def zOf : Value → Option Z
  | .bool false => some .b
  | .int k n => if n = 0 then some (.i k) else none
  | .string s => if s.size = 0 then some .s else none
  | .pointer none => some .p
  | .slice none 0 0 => some .sl
  | .nilFunc => some .f
  | _ => none

theorem zOf_ok {v : Value} {z : Z} (h : zOf v = some z) : v = z.toV := by
  unfold zOf at h
  split at h <;> first | (cases h; rfl) | skip
  · split at h
    · cases h; rename_i e; subst e; rfl
    · cases h
  · split at h
    · rename_i s e
      cases h
      show Value.string s = Value.string ByteArray.empty
      congr 1
      have : s.data = #[] := by apply Array.eq_empty_of_size_eq_zero; exact e
      cases s; simp_all
    · cases h
  · cases h

def zsOf : List Value → Option (List Z)
  | [] => some []
  | v :: r => match zOf v, zsOf r with
    | some z, some zs => some (z :: zs)
    | _, _ => none

theorem zsOf_ok : ∀ (l : List Value) (zs : List Z), zsOf l = some zs → l = zs.map Z.toV
  | [], zs, h => by simp [zsOf] at h; subst h; rfl
  | v :: r, zs, h => by
    simp only [zsOf] at h
    cases h1 : zOf v with
    | none => simp [h1] at h
    | some z =>
      cases h2 : zsOf r with
      | none => simp [h1, h2] at h
      | some zs' =>
        simp only [h1, h2, Option.some.injEq] at h
        subst h
        rw [List.map_cons, ← zOf_ok h1, ← zsOf_ok r zs' h2]

def tdB (P : Program) : TypeDesc → TD → Bool
  | .bool, .bool => true
  | .int k, .int k' => decide (k = k')
  | .string, .str => true
  | .pointer e, .ptr e' => decide (e = e')
  | .slice e, .slice e' => decide (e = e')
  | .struct fs, .strct l => decide (l = fs.toList.map (fun f => (f.offset, f.type))) && fs.toList.all (fun f => match P.info? f.type with | some i => decide (i.size ≠ 0) | none => false)
  | .array n e, .arr n' e' => decide (n = n') && decide (e = e')
  | .func .., .fn => true
  | _, _ => false

theorem tdB_ok {P : Program} {d : TypeDesc} {t : TD} (h : tdB P d t = true) : tdOk P d t := by
  unfold tdB at h
  split at h
  case h_6 fs l =>
    simp only [Bool.and_eq_true, decide_eq_true_eq, List.all_eq_true] at h
    refine ⟨h.1, fun f hf => ?_⟩
    have := h.2 f hf
    cases hi : P.info? f.type with
    | none => simp [hi] at this
    | some i => exact ⟨i, rfl, by simpa [hi] using this⟩
  all_goals simp_all [tdOk]

def tiB (P : Program) (t : Nat) (i : TI) : Bool :=
  match P.info? t, P.underlying t with
  | some x, some d => decide (x.size = i.size) && decide (x.bytes = i.bytes) && (match x.zero with | some z => decide (zsOf z.cells.toList = some i.zero) | none => false) && tdB P d i.td
  | _, _ => false

theorem tiB_ok {P : Program} {t : Nat} {i : TI} (h : tiB P t i = true) : TIok P t i := by
  unfold tiB at h
  cases h1 : P.info? t with
  | none => simp [h1] at h
  | some x =>
    cases h2 : P.underlying t with
    | none => simp [h1, h2] at h
    | some d =>
      simp only [h1, h2, Bool.and_eq_true, decide_eq_true_eq] at h
      obtain ⟨⟨⟨e1, e2⟩, e3⟩, e4⟩ := h
      refine ⟨⟨x, h1, e1, e2, ?_⟩, ⟨d, h2, tdB_ok e4⟩⟩
      cases hz : x.zero with
      | none => simp [hz] at e3
      | some z =>
        simp only [hz, decide_eq_true_eq] at e3
        exact ⟨z, rfl, zsOf_ok _ _ e3⟩

def envB (P : Program) (Γ : Env) : Bool := Γ.all fun x => tiB P x.1 x.2

theorem envB_ok {P : Program} {Γ : Env} (h : envB P Γ = true) : EnvOk P Γ := by
  intro t i hi
  induction Γ with
  | nil => simp [Env.at] at hi
  | cons x r ih =>
    obtain ⟨u, j⟩ := x
    simp only [envB, List.all_cons, Bool.and_eq_true] at h
    simp only [Env.at] at hi
    cases hb : Nat.beq u t with
    | true =>
      have : u = t := Nat.eq_of_beq_eq_true hb
      subst this
      simp only [hb, Option.some.injEq] at hi
      subst hi
      exact tiB_ok h.1
    | false =>
      simp only [hb] at hi
      exact ih h.2 hi

/-- A constant. -/
def constC : Value → Option C
  | .bool b => some (.bool b)
  | .int k n => some (.int k n)
  | .string s => match Nat.ble s.size 1000000 with
    | true => some (.str s)
    | false => none
  | .pointer none => some .nilp
  | .slice none 0 0 => some .nils
  | .nilFunc => some .nilfn
  | _ => none

def constL : List Value → Option (List C)
  | [] => some []
  | v :: r => match constC v with
    | some c => match constL r with
      | some l => some (c :: l)
      | none => none
    | none => none

def constS (v : Value) : S :=
  match v with
  | .agg cs => match constL cs.toList with
    | some l => .a l
    | none => .u
  | v => match constC v with
    | some c => .c c
    | none => .u

theorem constC_ok {F : Mem} {H : List O} {μ : Nat → Value} {v : Value} {c : C} (h : constC v = some c) : RepC F H μ c v := by
  unfold constC at h
  split at h <;> first | (cases h; rfl) | skip
  · split at h
    · rename_i hb
      cases h
      refine ⟨rfl, ?_⟩
      have := Nat.le_of_ble_eq_true hb
      unfold maxLen
      omega
    · cases h
  · cases h

theorem constL_ok {F : Mem} {H : List O} {μ : Nat → Value} : ∀ {l : List Value} {cs : List C}, constL l = some cs → l.length = cs.length ∧ ∀ (j : Nat) x, getL cs j = some x → ∃ v, l[j]? = some v ∧ RepC F H μ x v
  | [], cs, h => by simp [constL] at h; subst h; simp [getL]
  | v :: r, cs, h => by
    simp only [constL] at h
    cases h1 : constC v with
    | none => simp [h1] at h
    | some c =>
      cases h2 : constL r with
      | none => simp [h1, h2] at h
      | some l =>
        simp only [h1, h2, Option.some.injEq] at h
        subst h
        obtain ⟨e1, e2⟩ := constL_ok (F := F) (H := H) (μ := μ) h2
        refine ⟨by simp [e1], fun j x hx => ?_⟩
        cases j with
        | zero => simp [getL] at hx; subst hx; exact ⟨v, by simp, constC_ok h1⟩
        | succ j => simp only [getL] at hx; simpa using e2 j x hx

theorem constS_ok {F : Mem} {H : List O} {μ : Nat → Value} (v : Value) : RepS F H μ (constS v) v := by
  have key : ∀ v : Value, RepS F H μ (match constC v with | some c => .c c | none => .u) v := by
    intro v
    cases hc : constC v with
    | none => trivial
    | some c => exact constC_ok (F := F) (H := H) (μ := μ) hc
  cases v with
  | agg cs =>
    simp only [constS]
    cases hl : constL cs.toList with
    | none => trivial
    | some l =>
      obtain ⟨e1, e2⟩ := constL_ok (F := F) (H := H) (μ := μ) hl
      exact ⟨cs, rfl, by simpa using e1, fun j x hx => by simpa using e2 j x hx⟩
  | bool b => exact key (.bool b)
  | int k n => exact key (.int k n)
  | float k n => exact key (.float k n)
  | complex k n m => exact key (.complex k n m)
  | string s => exact key (.string s)
  | pointer p => exact key (.pointer p)
  | slice p n m => exact key (.slice p n m)
  | map r => exact key (.map r)
  | chan r => exact key (.chan r)
  | func f x y => exact key (.func f x y)
  | nilFunc => exact key .nilFunc
  | iface t v => exact key (.iface t v)
  | nilIface => exact key .nilIface
  | tuple vs => exact key (.tuple vs)

def opnd (ts : Ts) : Operand → S
  | .tmp t => find t ts
  | .const v => constS v
  | .global _ => .u
  | .func f => .c (.fn (.func f) 0 fun _ => .junk)

theorem opnd_ok {F : Mem} {H : List O} {μ : Nat → Value} {ts : Ts} {a : Act} (h : TSat F H μ ts a.tmps) : ∀ x, RepS F H μ (opnd ts x) (a.eval x)
  | .tmp t => h t
  | .const v => constS_ok v
  | .global _ => trivial
  | .func f => ⟨#[], rfl, rfl, fun j hj => by omega⟩

/-- A guarded value laid bare: what must be known for it. -/
def bare : S → List Prop × S
  | .lz g s => match bare s with
    | (p, s') => ((g = true) :: p, s')
  | s => ([], s)

theorem bare_ok {F : Mem} {H : List O} {μ : Nat → Value} : ∀ {s s' : S} {p : List Prop} {v : Value}, RepS F H μ s v → bare s = (p, s') → (∀ q ∈ p, q) → RepS F H μ s' v
  | .u, _, _, _, h, e, _ => by simp only [bare, Prod.mk.injEq] at e; obtain ⟨_, rfl⟩ := e; exact h
  | .c x, _, _, _, h, e, _ => by simp only [bare, Prod.mk.injEq] at e; obtain ⟨_, rfl⟩ := e; exact h
  | .a x, _, _, _, h, e, _ => by simp only [bare, Prod.mk.injEq] at e; obtain ⟨_, rfl⟩ := e; exact h
  | .t x, _, _, _, h, e, _ => by simp only [bare, Prod.mk.injEq] at e; obtain ⟨_, rfl⟩ := e; exact h
  | .lz g s, s', p, v, h, e, hp => by
    simp only [bare] at e
    cases hs : bare s with
    | mk p' s'' =>
      simp only [hs, Prod.mk.injEq] at e
      obtain ⟨rfl, rfl⟩ := e
      have hg : g = true := hp _ (by simp)
      exact bare_ok (h.1 hg) hs (fun q hq => hp q (by simp [hq]))

def intOp (op : BinOp) (k : IntKind) (x y : Int) : Option (List Prop × C) :=
  match op with
  | .add => some ([], .int k (k.wrap (x + y)))
  | .sub => some ([], .int k (k.wrap (x - y)))
  | .mul => some ([], .int k (k.wrap (x * y)))
  | .quo => some ([y ≠ 0], .int k (k.wrap (x.tdiv y)))
  | .rem => some ([y ≠ 0], .int k (x.tmod y))
  | .and => some ([], .int k (k.wrap (BitVec.ofInt k.bits x &&& BitVec.ofInt k.bits y).toNat))
  | .or => some ([], .int k (k.wrap (BitVec.ofInt k.bits x ||| BitVec.ofInt k.bits y).toNat))
  | .xor => some ([], .int k (k.wrap (BitVec.ofInt k.bits x ^^^ BitVec.ofInt k.bits y).toNat))
  | .andNot => some ([], .int k (k.wrap (BitVec.ofInt k.bits x &&& ~~~ BitVec.ofInt k.bits y).toNat))
  | .eql => some ([], .bool (x == y))
  | .neq => some ([], .bool (x != y))
  | .lss => some ([], .bool (decide (x < y)))
  | .leq => some ([], .bool (decide (x ≤ y)))
  | .gtr => some ([], .bool (decide (x > y)))
  | .geq => some ([], .bool (decide (x ≥ y)))
  | _ => none

def shiftOp (op : BinOp) (k : IntKind) (x y : Int) : Option (List Prop × C) :=
  match op with
  | .shl => some ([0 ≤ y], .int k (k.wrap (x * 2 ^ (min y.toNat k.bits))))
  | .shr => some ([0 ≤ y], .int k (x.fdiv (2 ^ (min y.toNat k.bits))))
  | _ => none

def strOp (op : BinOp) (x y : ByteArray) : Option (List Prop × C) :=
  match op with
  | .eql => some ([], .bool (decide (x = y)))
  | .neq => some ([], .bool (!decide (x = y)))
  | .add => some ([x.size + y.size ≤ 9223372036854775807], .str (x ++ y))
  | _ => none

def boolOp (op : BinOp) (x y : Bool) : Option (List Prop × C) :=
  match op with
  | .eql => some ([], .bool (x == y))
  | .neq => some ([], .bool (!(x == y)))
  | _ => none

def isShift : BinOp → Bool
  | .shl | .shr => true
  | _ => false

def binC (op : BinOp) (x y : C) : Option (List Prop × C) :=
  match x with
  | .int k a => match y with
    | .int k' b => match isShift op with
      | true => shiftOp op k a b
      | false => match decide (k = k') with
        | true => intOp op k a b
        | false => none
    | _ => none
  | .str a => match y with
    | .str b => strOp op a b
    | _ => none
  | .bool a => match y with
    | .bool b => boolOp op a b
    | _ => none
  | _ => none

theorem bytes_beq (a b : ByteArray) : (a.toList == b.toList) = decide (a = b) := by
  have key : a.toList = b.toList ↔ a = b := by
    constructor
    · intro h
      rw [ByteArray.toList_eq, ByteArray.toList_eq] at h
      cases a; cases b; simp_all [Array.toList_inj]
    · intro h; rw [h]
  by_cases e : a = b
  · subst e; simp
  · rw [decide_eq_false e]
    rw [beq_eq_false_iff_ne]
    exact fun h => e (key.1 h)

theorem strOp_run {op : BinOp} {a b : ByteArray} {ns : List Prop} {c : C} (P : Program) (w : World) (h : strOp op a b = some (ns, c)) (hn : ∀ p ∈ ns, p) :
    ∃ v, (Op.stringOp op a b).run P w = .ok v w ∧ ∀ F, RepF F c v := by
  cases op <;> simp only [strOp, Option.some.injEq, Prod.mk.injEq, reduceCtorEq] at h
  · obtain ⟨rfl, rfl⟩ := h
    have h1 : a.size + b.size ≤ 9223372036854775807 := hn _ (by simp)
    refine ⟨.string (a ++ b), ?_, fun F => ⟨rfl, ?_⟩⟩
    · have : ¬ (((a.size + b.size : Nat) : Int) > IntKind.i64.max) := by
        have : IntKind.i64.max = 9223372036854775807 := by decide
        rw [this]; omega
      simp only [Op.stringOp, if_neg this]
      rfl
    · simp [maxLen, ByteArray.size_append]; omega
  · obtain ⟨rfl, rfl⟩ := h
    exact ⟨.bool (decide (a = b)), by rw [← bytes_beq]; rfl, fun F => rfl⟩
  · obtain ⟨rfl, rfl⟩ := h
    exact ⟨.bool (!decide (a = b)), by rw [← bytes_beq]; rfl, fun F => rfl⟩

theorem intOp_run {op : BinOp} {k : IntKind} {a b : Int} {ns : List Prop} {c : C} (P : Program) (w : World) (t : TypeId) (h : intOp op k a b = some (ns, c)) (hn : ∀ p ∈ ns, p) :
    ∃ v, (binOp op t (.int k a) (.int k b)).run P w = .ok v w ∧ ∀ F, RepF F c v := by
  cases op <;> simp only [intOp, Option.some.injEq, Prod.mk.injEq, reduceCtorEq] at h
  case quo =>
    obtain ⟨rfl, rfl⟩ := h
    have h1 : b ≠ 0 := hn _ (by simp)
    refine ⟨_, ?_, fun F => rfl⟩
    simp [binOp, Op.intDiv, h1, pure]
  case rem =>
    obtain ⟨rfl, rfl⟩ := h
    have h1 : b ≠ 0 := hn _ (by simp)
    refine ⟨_, ?_, fun F => rfl⟩
    simp [binOp, Op.intDiv, h1, pure]
  all_goals
    obtain ⟨rfl, rfl⟩ := h
    refine ⟨_, ?_, fun F => rfl⟩
    simp [binOp, Op.intArith, Op.intBits, Op.intCmp, pure]

theorem shiftOp_run {op : BinOp} {k k' : IntKind} {a b : Int} {ns : List Prop} {c : C} (P : Program) (w : World) (t : TypeId) (h : shiftOp op k a b = some (ns, c)) (hn : ∀ p ∈ ns, p) :
    ∃ v, (binOp op t (.int k a) (.int k' b)).run P w = .ok v w ∧ ∀ F, RepF F c v := by
  cases op <;> simp only [shiftOp, Option.some.injEq, Prod.mk.injEq, reduceCtorEq] at h
  all_goals
    obtain ⟨rfl, rfl⟩ := h
    have h1 : 0 ≤ b := hn _ (by simp)
    have h2 : ¬ b < 0 := by omega
    refine ⟨_, ?_, fun F => rfl⟩
    simp [binOp, Op.shift, h2, pure]

theorem boolOp_run {op : BinOp} {a b : Bool} {ns : List Prop} {c : C} {P : Program} (w : World) {t : TypeId} (ht : P.underlying t = some .bool) (h : boolOp op a b = some (ns, c)) :
    ∃ v, (binOp op t (.bool a) (.bool b)).run P w = .ok v w ∧ ∀ F, RepF F c v := by
  cases op <;> simp only [boolOp, Option.some.injEq, Prod.mk.injEq, reduceCtorEq] at h
  · obtain ⟨rfl, rfl⟩ := h
    exact ⟨_, run_eql_bool w t a b ht, fun F => rfl⟩
  · obtain ⟨rfl, rfl⟩ := h
    exact ⟨_, run_neq_bool w t a b ht, fun F => rfl⟩

/-- A binary operation. -/
theorem binC_run {op : BinOp} {x y : C} {ns : List Prop} {c : C} {P : Program} {F : Mem} {H : List O} {μ : Nat → Value} (w : World) {t : TypeId} {X Y : Operand} {u v : Value}
    (ht : (∃ a, x = .bool a) → P.underlying t = some .bool) (h : binC op x y = some (ns, c)) (hn : ∀ p ∈ ns, p) (hx : RepC F H μ x u) (hy : RepC F H μ y v) :
    ∃ r, (do eqGuard op t X Y u v; binOp op t u v : Sem Value).run P w = .ok r w ∧ RepC F H μ c r := by
  cases x with
  | int k a =>
    cases y with
    | int k' b =>
      rw [show u = _ from hx, show v = _ from hy, eqGuard_at_int]
      simp only [binC] at h
      cases hs : isShift op with
      | true =>
        simp only [hs] at h
        obtain ⟨r, h1, h2⟩ := shiftOp_run P w t (k' := k') h hn
        exact ⟨r, h1, RepF.toC H μ c r (h2 F)⟩
      | false =>
        simp only [hs] at h
        by_cases hk : k = k'
        · subst hk
          simp only [decide_true] at h
          obtain ⟨r, h1, h2⟩ := intOp_run P w t h hn
          exact ⟨r, h1, RepF.toC H μ c r (h2 F)⟩
        · simp [hk] at h
    | _ => simp [binC] at h
  | str a =>
    cases y with
    | str b =>
      rw [show u = _ from hx.1, show v = _ from hy.1, eqGuard_at_string]
      obtain ⟨r, h1, h2⟩ := strOp_run P w h hn
      refine ⟨r, ?_, RepF.toC H μ c r (h2 F)⟩
      rw [show (do pure (); binOp op t (.string a) (.string b) : Sem Value) = Op.stringOp op a b from by cases op <;> rfl]
      exact h1
    | _ => simp [binC] at h
  | bool a =>
    cases y with
    | bool b =>
      rw [show u = _ from hx, show v = _ from hy, eqGuard_at_bool]
      obtain ⟨r, h1, h2⟩ := boolOp_run w (ht ⟨a, rfl⟩) h
      exact ⟨r, h1, RepF.toC H μ c r (h2 F)⟩
    | _ => simp [binC] at h
  | _ => simp [binC] at h

end Go.Am
