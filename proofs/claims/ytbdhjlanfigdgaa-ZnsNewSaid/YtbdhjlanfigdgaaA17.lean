import Derived.Test.YtbdhjlanfigdgaaA16
/- THE ABSTRACT MACHINE, PART 17: what an operation looks at. -/
namespace Go.Am

def idC : C → Option Nat
  | .ptr id _ => some id
  | .ep id _ _ _ => some id
  | .sl id _ _ _ _ => some id
  | _ => none

def idS : S → Option Nat
  | .c x => idC x
  | .lz _ s => idS s
  | _ => none

theorem idS_bare : ∀ {s s' : S} {p : List Prop}, bare s = (p, s') → idS s' = idS s
  | .lz g s, s', p, h => by
    simp only [bare] at h
    cases hb : bare s with
    | mk q t =>
      simp only [hb, Prod.mk.injEq] at h
      obtain ⟨_, rfl⟩ := h
      show idS t = idS s
      exact idS_bare hb
  | .u, _, _, h => by simp only [bare, Prod.mk.injEq] at h; obtain ⟨_, rfl⟩ := h; rfl
  | .c _, _, _, h => by simp only [bare, Prod.mk.injEq] at h; obtain ⟨_, rfl⟩ := h; rfl
  | .a _, _, _, h => by simp only [bare, Prod.mk.injEq] at h; obtain ⟨_, rfl⟩ := h; rfl
  | .t _, _, _, h => by simp only [bare, Prod.mk.injEq] at h; obtain ⟨_, rfl⟩ := h; rfl

/-- What is there in one list of objects is there in the other, where it is looked at. -/
def Sees (H H' : List O) (id : Option Nat) : Prop := ∀ i, id = some i → ∀ o, getL H i = some o → getL H' i = some o

theorem loadK_mono {i : TI} {H H' : List O} {p : C} {r : List Prop × S} (h : loadK i H p = some r) (hs : Sees H H' (idC p)) : loadK i H' p = some r := by
  cases p with
  | ptr id off =>
    simp only [loadK] at h ⊢
    cases hg : getL H id with
    | none => simp [hg] at h
    | some o => rw [hs id rfl o hg]; rw [hg] at h; exact h
  | ep id k j tot =>
    simp only [loadK] at h ⊢
    cases hg : getL H id with
    | none => simp [hg] at h
    | some o => rw [hs id rfl o hg]; rw [hg] at h; exact h
  | _ => exact h

theorem nilOk_mono {H H' : List O} {c : C} {r : List Prop} (h : nilOk H c = some r) (hs : Sees H H' (idC c)) : nilOk H' c = some r := by
  cases c with
  | ep id k j tot =>
    simp only [nilOk] at h ⊢
    cases hg : getL H id with
    | none => simp [hg] at h
    | some o => rw [hs id rfl o hg]; rw [hg] at h; exact h
  | fn f n g => cases f <;> exact h
  | _ => exact h

theorem fieldN_mono {H H' : List O} {c : C} {r : List Prop} (h : fieldN H c = some r) (hs : Sees H H' (idC c)) : fieldN H' c = some r := by
  cases c with
  | ep id k j tot =>
    simp only [fieldN] at h ⊢
    cases hg : getL H id with
    | none => simp [hg] at h
    | some o => rw [hs id rfl o hg]; rw [hg] at h; exact h
  | _ => exact h

theorem indexK_mono {te : TI} {H H' : List O} {x : C} {i : Int} {r : List Prop × C} (h : indexK te H x i = some r) (hs : Sees H H' (idC x)) : indexK te H' x i = some r := by
  cases x with
  | sl id es len tot xq =>
    simp only [indexK] at h ⊢
    cases hb : Nat.beq es te.size with
    | false => simp [hb] at h
    | true =>
      simp only [hb] at h ⊢
      cases hg : getL H id with
      | none => simp [hg] at h
      | some o => rw [hs id rfl o hg]; rw [hg] at h; exact h
  | _ => exact h

theorem convC_mono {Γ : Env} {src dst : Nat} {H H' : List O} {x : C} {r : List Prop × C} (h : convC Γ src dst H x = some r) (hs : Sees H H' (idC x)) : convC Γ src dst H' x = some r := by
  cases x with
  | sl id es len tot xq =>
    simp only [convC] at h ⊢
    cases hg : getL H id with
    | none =>
      simp only [hg] at h
      repeat' split at h
      all_goals cases h
    | some o => rw [hs id rfl o hg]; rw [hg] at h; exact h
  | _ => exact h

theorem buildF_congr {Γ : Env} {fs : List (Nat × Nat)} {ts ts' : Ts} : ∀ (parts : List (Nat × Operand)) (cells : List C), (∀ x ∈ parts.map (·.2), opnd ts' x = opnd ts x) → buildF Γ fs ts' parts cells = buildF Γ fs ts parts cells
  | [], _, _ => rfl
  | (i, x) :: r, cells, h => by
    have hx : opnd ts' x = opnd ts x := h x (by simp)
    have ih : ∀ cells', buildF Γ fs ts' r cells' = buildF Γ fs ts r cells' := fun cells' => buildF_congr r cells' (fun y hy => h y (by simp at hy ⊢; exact .inr hy))
    simp only [buildF, hx, ih]

theorem opndCs_congr {ts ts' : Ts} : ∀ (xs : List Operand), (∀ x ∈ xs, opnd ts' x = opnd ts x) → opndCs ts' xs = opndCs ts xs
  | [], _ => rfl
  | x :: r, h => by
    have hx : opnd ts' x = opnd ts x := h x (by simp)
    have ih := opndCs_congr r (fun y hy => h y (by simp [hy]))
    simp only [opndCs, hx, ih]

theorem optInt_congr {ts ts' : Ts} (x : Option Operand) (h : ∀ y ∈ x.toList, opnd ts' y = opnd ts y) : optInt ts' x = optInt ts x := by
  cases x with
  | none => rfl
  | some x => simp only [optInt, h x (by simp)]

theorem val_mono {Γ : Env} {ts ts' : Ts} {H H' : List O} {op : Op} {r : List Prop × S} (h : val Γ ts H op = some r) (he : ∀ x ∈ op.operands, opnd ts' x = opnd ts x) (hs : ∀ x ∈ op.operands, Sees H H' (idS (opnd ts x))) :
    val Γ ts' H' op = some r := by
  have B : ∀ {x : Operand} {p : List Prop} {c : C}, x ∈ op.operands → bare (opnd ts x) = (p, .c c) → Sees H H' (idC c) := by
    intro x p c hx hb
    have := idS_bare hb
    have h2 := hs x hx
    rw [← this] at h2
    exact h2
  unfold val at h ⊢
  split at h
  case h_1 x => simp only [he x (by simp [Op.operands])]; exact h
  case h_2 x => simp only [he x (by simp [Op.operands])]; exact h
  case h_3 c a b =>
    simp only [he c (by simp [Op.operands]), he a (by simp [Op.operands]), he b (by simp [Op.operands])]; exact h
  case h_4 t a =>
    simp only [he a (by simp [Op.operands])]
    split at h
    · rename_i i hi
      split at h
      · rename_i p c hb
        try simp only [hb]
        split at h
        · rename_i q s hl
          rw [loadK_mono hl (B (x := a) (by simp [Op.operands]) hb)]
          exact h
        · cases h
      · cases h
    · cases h
  case h_5 x =>
    simp only [he x (by simp [Op.operands])]
    split at h
    · rename_i p c hb
      try simp only [hb]
      split at h
      · rename_i q hl
        rw [nilOk_mono hl (B (x := x) (by simp [Op.operands]) hb)]
        exact h
      · cases h
    · cases h
  case h_6 t x f =>
    simp only [he x (by simp [Op.operands])]
    split at h
    · rename_i o ho
      try simp only [ho]
      split at h
      · rename_i p c hb
        try simp only [hb]
        split at h
        · rename_i r' hr
          try simp only [hr]
          split at h
          · rename_i q hq
            rw [fieldN_mono hq (B (x := x) (by simp [Op.operands]) hb)]
            exact h
          · cases h
        · cases h
      · cases h
    · cases h
  case h_7 t x f => simp only [he x (by simp [Op.operands])]; exact h
  case h_8 t x i =>
    simp only [he x (by simp [Op.operands]), he i (by simp [Op.operands])]
    split at h
    · rename_i e te het
      try simp only [het]
      split at h
      · rename_i p x' hb
        try simp only [hb]
        split at h
        · rename_i q k i' hb2
          try simp only [hb2]
          split at h
          · rename_i r' c hc
            rw [indexK_mono hc (B (x := x) (by simp [Op.operands]) hb)]
            exact h
          · cases h
        · cases h
      · cases h
    · cases h
  case h_9 t x i => simp only [he x (by simp [Op.operands]), he i (by simp [Op.operands])]; exact h
  case h_10 o t x y yt => simp only [he x (by simp [Op.operands]), he y (by simp [Op.operands])]; exact h
  case h_11 o t x => simp only [he x (by simp [Op.operands])]; exact h
  case h_12 src dst x =>
    simp only [he x (by simp [Op.operands])]
    split at h
    · rename_i p c hb
      try simp only [hb]
      split at h
      · rename_i q v hl
        rw [convC_mono hl (B (x := x) (by simp [Op.operands]) hb)]
        exact h
      · cases h
    · cases h
  case h_13 x i => simp only [he x (by simp [Op.operands])]; exact h
  case h_14 t parts =>
    have : buildV Γ ts' t parts.toList = buildV Γ ts t parts.toList := by
      unfold buildV
      have := fun fs cells => buildF_congr (Γ := Γ) (fs := fs) parts.toList cells (fun x hx => he x (by simpa [Op.operands] using hx))
      simp only [this]
    simp only [this]; exact h
  case h_15 f first captured =>
    have : opndCs ts' captured.toList = opndCs ts captured.toList := opndCs_congr _ (fun x hx => he x (by simp only [Op.operands, Array.mem_append]; right; simpa using hx))
    simp only [this]; exact h
  case h_16 t x lo hi mx =>
    have h1 : optInt ts' lo = optInt ts lo := optInt_congr lo (fun y hy => he y (by simp only [Op.operands, Array.mem_append]; left; left; right; simpa using hy))
    have h2 : optInt ts' hi = optInt ts hi := optInt_congr hi (fun y hy => he y (by simp only [Op.operands, Array.mem_append]; left; right; simpa using hy))
    have h3 : optInt ts' mx = optInt ts mx := optInt_congr mx (fun y hy => he y (by simp only [Op.operands, Array.mem_append]; right; simpa using hy))
    simp only [he x (by simp [Op.operands]), h1, h2, h3]; exact h
  case h_17 args argTypes =>
    split at h
    · rename_i x hargs
      have hx : x ∈ (Op.call { callee := .builtin .len, args, argTypes }).operands := by
        have ha : args = #[x] := by apply Array.toList_inj.1; simpa using hargs
        subst ha
        simp [Op.operands, Call.operands]
      try simp only [hargs]
      split at h
      · rename_i t ht
        try simp only [ht]
        try simp only [he x hx]
        split at h
        · rename_i p c hb
          try simp only [hb]
          split at h
          · rename_i n hn
            try simp only [hn]
            have hsee := B hx hb
            split at h
            · exact h
            · rename_i id es len tot xq
              split at h
              · rename_i pr hpr
                try simp only [hpr]
                split at h
                · rename_i hg
                  rw [hsee id rfl _ hg]
                  exact h
                · cases h
              · cases h
            · exact h
          · cases h
        · cases h
      · cases h
    · cases h
  case h_18 args argTypes =>
    split at h
    · rename_i x y hargs
      have ha : args = #[x, y] := by apply Array.toList_inj.1; simpa using hargs
      subst ha
      simp only [he x (by simp [Op.operands, Call.operands]), he y (by simp [Op.operands, Call.operands])]; exact h
    · cases h
  case h_19 args argTypes =>
    split at h
    · rename_i x y hargs
      have ha : args = #[x, y] := by apply Array.toList_inj.1; simpa using hargs
      subst ha
      simp only [he x (by simp [Op.operands, Call.operands]), he y (by simp [Op.operands, Call.operands])]; exact h
    · cases h
  case h_20 => cases h

theorem eff_congr {Γ : Env} {ts ts' : Ts} {H : List O} {op : Op} (he : ∀ x ∈ op.operands, opnd ts' x = opnd ts x) : eff Γ ts' H op = eff Γ ts H op := by
  unfold eff
  split
  · rfl
  · rename_i t x; simp only [he x (by simp [Op.operands])]
  · rename_i t a x; simp only [he x (by simp [Op.operands]), he a (by simp [Op.operands])]
  · rename_i t l c; simp only [he l (by simp [Op.operands]), he c (by simp [Op.operands])]
  · rename_i t len parts
    have : ∀ e te, buildSK e te ts' H len parts.toList = buildSK e te ts H len parts.toList := by
      intro e te
      unfold buildSK
      have key : ∀ (ps : List (Nat × Operand)) (cells : List C), (∀ x ∈ ps.map (·.2), opnd ts' x = opnd ts x) → buildP te.size ts' ps cells = buildP te.size ts ps cells := by
        intro ps
        induction ps with
        | nil => intro cells _; rfl
        | cons p ps ih =>
          intro cells h
          obtain ⟨i, x⟩ := p
          have hx : opnd ts' x = opnd ts x := h x (by simp)
          have ih' : ∀ cells', buildP te.size ts' ps cells' = buildP te.size ts ps cells' := fun cells' => ih cells' (fun y hy => h y (by simp at hy ⊢; exact .inr hy))
          simp only [buildP, hx, ih']
      rw [key _ _ (fun x hx => he x (by simpa [Op.operands] using hx))]
    simp only [this]
  · rename_i args argTypes
    split
    · rename_i x y hargs
      have ha : args = #[x, y] := by apply Array.toList_inj.1; simpa using hargs
      subst ha
      simp only [he x (by simp [Op.operands, Call.operands]), he y (by simp [Op.operands, Call.operands])]
    · rfl
  · rename_i args argTypes
    split
    · rename_i x y hargs
      have ha : args = #[x, y] := by apply Array.toList_inj.1; simpa using hargs
      subst ha
      simp only [he x (by simp [Op.operands, Call.operands]), he y (by simp [Op.operands, Call.operands])]
    · rfl
  · rfl

theorem argsK_congr {ts ts' : Ts} : ∀ (xs : List Operand), (∀ x ∈ xs, opnd ts' x = opnd ts x) → argsK ts' xs = argsK ts xs
  | [], _ => rfl
  | x :: r, h => by
    have hx : opnd ts' x = opnd ts x := h x (by simp)
    have ih := argsK_congr r (fun y hy => h y (by simp [hy]))
    simp only [argsK, hx, ih]

theorem callOf_congr {ts ts' : Ts} {op : Op} (he : ∀ x ∈ op.operands, opnd ts' x = opnd ts x) : callOf ts' op = callOf ts op := by
  unfold callOf
  split
  · rename_i f args argTypes
    have h1 : opnd ts' f = opnd ts f := he f (by simp [Op.operands, Call.operands])
    have h2 : argsK ts' args.toList = argsK ts args.toList := argsK_congr _ (fun x hx => he x (by simp only [Op.operands, Call.operands, Array.mem_append]; right; simpa using hx))
    simp only [h1, h2]
  · rfl

end Go.Am
