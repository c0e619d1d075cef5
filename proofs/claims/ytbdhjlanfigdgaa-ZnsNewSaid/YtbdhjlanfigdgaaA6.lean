import Derived.Test.YtbdhjlanfigdgaaA5
/- THE ABSTRACT MACHINE, PART 6: 'val': what an operation yields that changes nothing that is tracked. -/
namespace Go.Am

def lget (xs : List C) : Nat → C := fun j => match getL xs j with
  | some x => x
  | none => .junk

def opndCs (ts : Ts) : List Operand → Option (List C)
  | [] => some []
  | x :: r => match opnd ts x with
    | .c c => match opndCs ts r with
      | some l => some (c :: l)
      | none => none
    | _ => none

theorem opndCs_ok {F : Mem} {H : List O} {μ : Nat → Value} {ts : Ts} {a : Act} (hT : TSat F H μ ts a.tmps) : ∀ (xs : List Operand) (cs : List C), opndCs ts xs = some cs →
    cs.length = xs.length ∧ ∀ (j : Nat) x, getL cs j = some x → ∃ v, (xs.map a.eval)[j]? = some v ∧ RepC F H μ x v
  | [], cs, h => by simp [opndCs] at h; subst h; simp [getL]
  | x :: r, cs, h => by
    simp only [opndCs] at h
    have hx := opnd_ok hT x
    cases ho : opnd ts x with
    | c c =>
      cases hr : opndCs ts r with
      | none => simp [ho, hr] at h
      | some l =>
        simp only [ho, hr, Option.some.injEq] at h
        subst h
        obtain ⟨h1, h2⟩ := opndCs_ok hT r l hr
        rw [ho] at hx
        refine ⟨by simp [h1], fun j y hy => ?_⟩
        cases j with
        | zero => simp [getL] at hy; subst hy; exact ⟨_, by simp, hx⟩
        | succ j => simp only [getL] at hy; simpa using h2 j y hy
    | _ => simp [ho] at h

/-- The type of the operands of '==' on bools. -/
def isBoolT (Γ : Env) (t : Nat) : Bool :=
  match Γ.at t with
  | some i => match i.td with
    | .bool => true
    | _ => false
  | none => false

def isStrT (Γ : Env) (t : Nat) : Bool :=
  match Γ.at t with
  | some i => match i.td with
    | .str => true
    | _ => false
  | none => false

def isIntT (Γ : Env) (t : Nat) : Option IntKind :=
  match Γ.at t with
  | some i => match i.td with
    | .int k => some k
    | _ => none
  | none => none

theorem isBoolT_ok {P : Program} {Γ : Env} (hΓ : EnvOk P Γ) {t : Nat} (h : isBoolT Γ t = true) : P.underlying t = some .bool := by
  unfold isBoolT at h
  cases h1 : Γ.at t with
  | none => simp [h1] at h
  | some i =>
    obtain ⟨d, h2, h3⟩ := (hΓ t i h1).und
    cases htd : i.td <;> simp [h1, htd] at h
    rw [htd] at h3
    cases d <;> simp [tdOk] at h3
    exact h2

theorem isStrT_ok {P : Program} {Γ : Env} (hΓ : EnvOk P Γ) {t : Nat} (h : isStrT Γ t = true) : P.underlying t = some .string := by
  unfold isStrT at h
  cases h1 : Γ.at t with
  | none => simp [h1] at h
  | some i =>
    obtain ⟨d, h2, h3⟩ := (hΓ t i h1).und
    cases htd : i.td <;> simp [h1, htd] at h
    rw [htd] at h3
    cases d <;> simp [tdOk] at h3
    exact h2

theorem isIntT_ok {P : Program} {Γ : Env} (hΓ : EnvOk P Γ) {t : Nat} {k : IntKind} (h : isIntT Γ t = some k) : P.underlying t = some (.int k) := by
  unfold isIntT at h
  cases h1 : Γ.at t with
  | none => simp [h1] at h
  | some i =>
    obtain ⟨d, h2, h3⟩ := (hΓ t i h1).und
    cases htd : i.td <;> simp [h1, htd] at h
    rw [htd] at h3
    cases d <;> simp [tdOk] at h3
    subst h3; subst h
    exact h2

def unC (op : UnOp) (x : C) : Option C :=
  match x with
  | .bool b => match op with
    | .not => some (.bool !b)
    | _ => none
  | .int k n => match op with
    | .neg => some (.int k (k.wrap (0 - n)))
    | .xor => some (.int k (k.wrap (BitVec.ofInt k.bits (if k.signed then -1 else k.max) ^^^ BitVec.ofInt k.bits n).toNat))
    | _ => none
  | _ => none

theorem unC_ok {op : UnOp} {x c : C} {F : Mem} {H : List O} {μ : Nat → Value} {P : Program} (w : World) {v : Value} (h : unC op x = some c) (hx : RepC F H μ x v) :
    ∃ r, (Op.unary op v).run P w = .ok r w ∧ RepC F H μ c r := by
  cases x with
  | bool b =>
    rw [show v = _ from hx]
    cases op <;> simp only [unC, Option.some.injEq, reduceCtorEq] at h
    subst h
    exact ⟨_, rfl, rfl⟩
  | int k n =>
    rw [show v = _ from hx]
    cases op <;> simp only [unC, Option.some.injEq, reduceCtorEq] at h
    all_goals
      subst h
      exact ⟨_, rfl, rfl⟩
  | _ => simp [unC] at h

/-- One of two values. -/
def pickC (b : Bool) (x y : C) : Option C :=
  match x with
  | .bool u => match y with
    | .bool v => some (.bool (cond b u v))
    | _ => none
  | .int k u => match y with
    | .int k' v => match decide (k = k') with
      | true => some (.int k (cond b u v))
      | false => none
    | _ => none
  | .str u => match y with
    | .str v => some (.str (cond b u v))
    | _ => none
  | _ => none

theorem pickC_ok {b : Bool} {x y c : C} {F : Mem} {H : List O} {μ : Nat → Value} {u v : Value} (h : pickC b x y = some c) (hx : b = true → RepC F H μ x u) (hy : b = false → RepC F H μ y v) :
    RepC F H μ c (if b then u else v) := by
  cases x <;> cases y <;> simp only [pickC, Option.some.injEq, reduceCtorEq] at h
  · subst h
    cases b
    · exact hy rfl
    · exact hx rfl
  · rename_i k m k' m'
    by_cases hk : k = k'
    · subst hk
      simp only [decide_true, Option.some.injEq] at h
      subst h
      cases b
      · exact hy rfl
      · exact hx rfl
    · simp [hk] at h
  · subst h
    cases b
    · exact hy rfl
    · exact hx rfl

/-- The address of a field; an element's address must be fresh. -/
def fieldN (H : List O) : C → Option (List Prop)
  | .ep id _ _ tot => match getL H id with
    | some (.arr _ _ n _) => some [tot = n]
    | _ => none
  | _ => some []

def lenC : C → Option Nat
  | .str s => some s.size
  | .isl _ n _ _ => some n
  | .sl _ _ len _ _ => some len
  | .nils => some 0
  | _ => none

def convC (Γ : Env) (src dst : Nat) (H : List O) (x : C) : Option (List Prop × C) :=
  match x with
  | .int _ n => match isIntT Γ src with
    | some _ => match isIntT Γ dst with
      | some k' => some ([], .int k' (k'.wrap n))
      | none => none
    | none => none
  | .isl es n get _ => match elemOf Γ src with
    | some (e, _) => match isIntT Γ e with
      | some .u8 => match isStrT Γ dst with
        | true => match Nat.beq es 1 with
          | true => some ([∀ i, i < n → ∃ v, get i 0 = .int .u8 v], .str (bytesOf n get))
          | false => none
        | false => none
      | _ => none
    | none => none
  | .sl id es len tot _ => match elemOf Γ src with
    | some (e, _) => match isIntT Γ e with
      | some .u8 => match isStrT Γ dst with
        | true => match Nat.beq es 1 with
          | true => match getL H id with
            | some (.arr _ _ n get) => some ([tot = n, ∀ i, i < len → ∃ v, get i 0 = .int .u8 v], .str (bytesOf len get))
            | _ => none
          | false => none
        | false => none
      | _ => none
    | none => none
  | _ => none

def nilOk (H : List O) : C → Option (List Prop)
  | .ptr .. => some []
  | .ip .. => some []
  | .fn (.func _) _ _ => some []
  | .ep id _ _ tot => match getL H id with
    | some (.arr _ _ n _) => some [tot = n]
    | _ => none
  | _ => none

def isInt : Value → Bool
  | .int .. => true
  | _ => false

def val (Γ : Env) (ts : Ts) (H : List O) (op : Op) : Option (List Prop × S) :=
  match op with
  | .move x => some ([], opnd ts x)
  | .assign x => some ([], opnd ts x)
  | .pick c a b => match bare (opnd ts c) with
    | (pc, .c (.bool c)) => match bare (opnd ts a) with
      | (pa, .c a) => match bare (opnd ts b) with
        | (pb, .c b) => match pickC c a b with
          | some r => some (pc ++ pa.map (fun q => c = true → q) ++ pb.map (fun q => c = false → q), .c r)
          | none => none
        | _ => none
      | _ => none
    | _ => none
  | .load t a => match Γ.at t with
    | some i => match bare (opnd ts a) with
      | (p, .c a) => match loadK i H a with
        | some (q, s) => some (p ++ q, s)
        | none => none
      | _ => none
    | none => none
  | .nilCheck x => match bare (opnd ts x) with
    | (p, .c c) => match nilOk H c with
      | some q => some (p ++ q, .c c)
      | none => none
    | _ => none
  | .fieldAddr t x f => match fieldOff Γ t f with
    | some o => match bare (opnd ts x) with
      | (p, .c c) => match fieldK o c with
        | some r => match fieldN H c with
          | some q => some (p ++ q, .c r)
          | none => none
        | none => none
      | _ => none
    | none => none
  | .field t x f => match bare (opnd ts x) with
    | (p, .a cs) => match fieldV Γ t f cs with
      | some s => some (p, s)
      | none => none
    | _ => none
  | .indexAddr t x i => match elemOf Γ t with
    | some (_, te) => match bare (opnd ts x) with
      | (p, .c x) => match bare (opnd ts i) with
        | (q, .c (.int _ i)) => match indexK te H x i with
          | some (r, c) => some (p ++ q ++ r, .c c)
          | none => none
        | _ => none
      | _ => none
    | none => none
  | .index t x i => match isStrT Γ t with
    | true => match bare (opnd ts x) with
      | (p, .c (.str s)) => match bare (opnd ts i) with
        | (q, .c (.int _ i)) => some (p ++ q ++ [0 ≤ i, i < s.size], .c (.int .u8 (s.data.toList.getD i.toNat 0).toNat))
        | _ => none
      | _ => none
    | false => none
  | .binOp op t x y _ => match bare (opnd ts x) with
    | (p, .c x) => match bare (opnd ts y) with
      | (q, .c y) => match binC op x y with
        | some (r, v) => match x with
          | .bool _ => match isBoolT Γ t with
            | true => some (p ++ q ++ r, .c v)
            | false => none
          | _ => some (p ++ q ++ r, .c v)
        | none => none
      | _ => none
    | _ => none
  | .unOp op _ x => match bare (opnd ts x) with
    | (p, .c x) => match unC op x with
      | some v => some (p, .c v)
      | none => none
    | _ => none
  | .convert src dst x => match bare (opnd ts x) with
    | (p, .c x) => match convC Γ src dst H x with
      | some (q, v) => some (p ++ q, .c v)
      | none => none
    | _ => none
  | .extract x i => match opnd ts x with
    | .t l => match getL l i with
      | some (.inl c) => some ([], .c c)
      | some (.inr cs) => some ([], .a cs)
      | none => none
    | _ => none
  | .build t parts => match buildV Γ ts t parts.toList with
    | some s => some ([], s)
    | none => none
  | .makeFunc f first captured => match first.toList with
    | [] => match opndCs ts captured.toList with
      | some cs => some ([], .c (.fn f cs.length (lget cs)))
      | none => none
    | _ => none
  | .slice t x lo hi mx => match bare (opnd ts x) with
    | (p, .c x) => match optInt ts lo with
      | some lo => match optInt ts hi with
        | some hi => match optInt ts mx with
          | some mx => match sliceK x lo hi mx with
            | some (q, c) => match x with
              | .isl es _ _ _ => match elemOf Γ t with
                | some (_, te) => match Nat.beq es te.size with
                  | true => some (p ++ q, .c c)
                  | false => none
                | none => none
              | .str _ => match isStrT Γ t with
                | true => some (p ++ q, .c c)
                | false => none
              | _ => none
            | none => none
          | none => none
        | none => none
      | none => none
    | _ => none
  | .call { callee := .builtin .len, args, argTypes } => match args.toList with
    | [x] => match argTypes.toList with
      | [t] => match bare (opnd ts x) with
        | (p, .c c) => match lenC c with
          | some n => match c with
            | .str _ => match isStrT Γ t with
              | true => some (p, .c (.int .i64 n))
              | false => none
            | .sl id _ _ tot _ => match elemOf Γ t with
              | some _ => match getL H id with
                | some (.arr _ _ n' _) => some (p ++ [tot = n'], .c (.int .i64 n))
                | _ => none
              | none => none
            | _ => match elemOf Γ t with
              | some _ => some (p, .c (.int .i64 n))
              | none => none
          | none => none
        | _ => none
      | _ => none
    | _ => none
  | .call { callee := .builtin .max, args, .. } => match args.toList with
    | [x, y] => match bare (opnd ts x) with
      | (p, .c (.int k a)) => match bare (opnd ts y) with
        | (q, .c (.int _ b)) => some (p ++ q, .c (.int k (max a b)))
        | _ => none
      | _ => none
    | _ => none
  | .call { callee := .builtin .min, args, .. } => match args.toList with
    | [x, y] => match bare (opnd ts x) with
      | (p, .c (.int k a)) => match bare (opnd ts y) with
        | (q, .c (.int _ b)) => some (p ++ q, .c (.int k (min a b)))
        | _ => none
      | _ => none
    | _ => none
  | _ => none

end Go.Am
