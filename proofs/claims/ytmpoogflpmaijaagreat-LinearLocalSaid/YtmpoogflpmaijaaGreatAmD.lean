import Derived.Test.YtmpoogflpmaijaaGreatAmC
set_option linter.unusedSimpArgs false
set_option linter.unusedVariables false
section
/- THE ABSTRACT MACHINE, PART 20: a region whose order is open. -/
namespace Go.Am

theorem isNew_push {Γ : Env} {ts : Ts} {H H' : List O} {op : Op} {ns : List Prop} {s : S} (h : eff Γ ts H op = some (ns, s, H')) (hn : isNew op = true) : ∃ x, H' = H ++ [x] := by
  unfold eff at h
  split at h
  · split at h
    · rw [forceL_eq] at h; cases h; exact ⟨_, rfl⟩
    · cases h
  · split at h
    split at h
    · cases h; exact ⟨_, rfl⟩
    · cases h
  · simp [isNew] at hn
  · split at h
    · split at h
      · split at h
        · split at h
          · simp only [makeK, Option.some.injEq, Prod.mk.injEq] at h
            obtain ⟨_, _, rfl⟩ := h
            exact ⟨_, rfl⟩
          · cases h
        · cases h
      · cases h
    · cases h
  · split at h
    · split at h
      · split at h
        · rename_i hb
          cases h
          unfold buildSK at hb
          split at hb
          · split at hb
            · cases hb; exact ⟨_, rfl⟩
            · cases hb
          · cases hb
        · cases h
      · cases h
    · cases h
  · simp [isNew] at hn
  · simp [isNew] at hn
  · simp [isNew] at hn
  · unfold newMK at h
    split at h
    · cases h; exact ⟨_, rfl⟩
    · cases h
  · simp [isNew] at hn
  · simp [isNew] at hn
  · simp [isNew] at hn
  · cases h

def hD (E : List Nat) (l : List Oper) (HH : Nat → List O) (D : Nat → Bool) : Nat → List O
  | 0 => HH 0
  | k + 1 => match getL l k with
    | some o => if isE E o = true ∧ D k = true then HH (k + 1) else hD E l HH D k
    | none => hD E l HH D k

def Pre (H H' : List O) : Prop := ∃ e, H' = H ++ e

theorem Pre.refl (H : List O) : Pre H H := ⟨[], by simp⟩
theorem Pre.trans {a b c : List O} (h : Pre a b) (k : Pre b c) : Pre a c := by
  obtain ⟨e, rfl⟩ := h
  obtain ⟨f, rfl⟩ := k
  exact ⟨e ++ f, by simp⟩
theorem Pre.get {a b : List O} (h : Pre a b) {i : Nat} {o : O} (hi : getL a i = some o) : getL b i = some o := by
  obtain ⟨e, rfl⟩ := h
  have := getL_lt hi
  rw [getL_eq] at hi ⊢
  rw [List.getElem?_append_left this]
  exact hi

section
variable {E : List Nat} {l : List Oper} {HH : Nat → List O}

theorem hD_eq {D : Nat → Bool} {i : Nat} (hsame : ∀ k o, getL l k = some o → isE E o = false → HH (k + 1) = HH k) : ∀ m, i ≤ m → m ≤ l.length → (∀ k o, k < m → getL l k = some o → isE E o = true → D k = decide (k < i)) → hD E l HH D m = HH i := by
  have low : ∀ m, m ≤ l.length → (∀ k o, k < m → getL l k = some o → isE E o = true → D k = true) → hD E l HH D m = HH m := by
    intro m
    induction m with
    | zero => intro _ _; rfl
    | succ m ih =>
      intro hl h
      have ho : getL l m = some (l[m]'(by omega)) := by rw [getL_eq]; simp
      simp only [hD, ho]
      by_cases c : isE E (l[m]'(by omega)) = true
      · rw [if_pos ⟨c, h m _ (by omega) ho c⟩]
      · rw [if_neg (fun e => c e.1), ih (by omega) fun k o hk => h k o (by omega)]
        exact (hsame m _ ho (by simpa using c)).symm
  intro m
  induction m with
  | zero =>
    intro hi _ _; have : i = 0 := by omega
    subst this; rfl
  | succ m ih =>
    intro hi hl h
    by_cases c : i = m + 1
    · subst c
      exact low (m + 1) hl fun k o hk ho he => by rw [h k o hk ho he]; simp [hk]
    · have ho : getL l m = some (l[m]'(by omega)) := by rw [getL_eq]; simp
      simp only [hD, ho]
      rw [if_neg, ih (by omega) (by omega) fun k o hk => h k o (by omega)]
      rintro ⟨e1, e2⟩
      rw [h m _ (by omega) ho e1] at e2
      simp at e2
      omega
end

theorem first_undone (E : List Nat) (l : List Oper) (D : Nat → Bool) : ∃ c, c ≤ l.length ∧ (∀ k o, k < c → getL l k = some o → isE E o = true → D k = true) ∧ (c = l.length ∨ ∃ o, getL l c = some o ∧ isE E o = true ∧ D c = false) := by
  by_cases h : ∃ k, ∃ o, getL l k = some o ∧ isE E o = true ∧ D k = false
  · obtain ⟨c, ⟨o, h1, h2, h3⟩, hmin⟩ := exists_least h
    refine ⟨c, Nat.le_of_lt (getL_lt h1), fun k o' hk ho he => ?_, .inr ⟨o, h1, h2, h3⟩⟩
    cases hd : D k with
    | true => rfl
    | false => have := hmin k ⟨o', ho, he, hd⟩; omega
  · refine ⟨l.length, Nat.le_refl _, fun k o _ ho he => ?_, .inl rfl⟩
    cases hd : D k with
    | true => rfl
    | false => exact absurd ⟨k, o, ho, he, hd⟩ h

/-- How many are not done. -/
def undone (D : Nat → Bool) : Nat → Nat
  | 0 => 0
  | k + 1 => undone D k + if D k = true then 0 else 1

theorem undone_zero {D : Nat → Bool} : ∀ n, undone D n = 0 → ∀ k, k < n → D k = true
  | 0, _, k, hk => by omega
  | n + 1, h, k, hk => by
    simp only [undone] at h
    by_cases c : D n = true
    · by_cases e : k = n
      · rw [e]; exact c
      · exact undone_zero n (by omega) k (by omega)
    · rw [if_neg c] at h; omega

theorem undone_set {D D' : Nat → Bool} {i : Nat} (hi : D i = false) (hi' : D' i = true) (ho : ∀ k, k ≠ i → D' k = D k) : ∀ n, i < n → undone D' n + 1 = undone D n
  | 0, h => by omega
  | n + 1, h => by
    simp only [undone]
    by_cases e : i = n
    · subst e
      have : ∀ m, m ≤ i → undone D' m = undone D m := by
        intro m
        induction m with
        | zero => intro _; rfl
        | succ m ih => intro hm; simp only [undone]; rw [ih (by omega), ho m (by omega)]
      rw [this i (Nat.le_refl _), hi', hi]
      simp
    · have := undone_set hi hi' ho n (by omega)
      rw [ho n (fun q => e q.symm)]
      omega

theorem idS_live {F : Mem} {H : List O} {μ : Nat → Value} {s : S} {v : Value} (h : RepS F H μ s v) {id : Nat} (hid : idS s = some id) (hlz : ∀ g t, s ≠ .lz g t) : ∃ o, getL H id = some o := by
  cases s with
  | c x =>
    cases x <;> simp [idS, idC] at hid
    · subst hid; obtain ⟨⟨cs, h1⟩, _⟩ := h; exact ⟨_, h1⟩
    · subst hid; obtain ⟨_, e, es, n, g, h1, _⟩ := h; exact ⟨_, h1⟩
    · subst hid; obtain ⟨_, e, n, g, h1, _⟩ := h; exact ⟨_, h1⟩
    · subst hid; obtain ⟨⟨sh, z, va, ks, val, h1⟩, _⟩ := h; exact ⟨_, h1⟩
  | lz g t => exact absurd rfl (hlz g t)
  | so id' es off len tot => simp [idS] at hid; subst hid; obtain ⟨_, _, _, _, _, _, _, h1, _⟩ := h; exact ⟨_, h1⟩
  | _ => simp [idS] at hid

theorem lzOk_get {ts : Ts} : ∀ {xs : List Operand}, lzOk ts xs = true → ∀ x ∈ xs, ∀ g t, opnd ts x = .lz g t → idS t = none
  | [], _, x, hx => by simp at hx
  | y :: r, h, x, hx => by
    simp only [lzOk, Bool.and_eq_true] at h
    intro g t e
    rcases List.mem_cons.1 hx with rfl | hx
    · have := h.1
      rw [e] at this
      cases hi : idS t with
      | none => rfl
      | some i => simp [hi] at this
    · exact lzOk_get h.2 x hx g t e

/-- No operation from the i-th on writes this. -/
def fixB (l : List Oper) (i : Nat) : Operand → Bool
  | .tmp t => !(l.drop i).any fun o => o.dst == some t
  | _ => true

/-- The q-th stores into an object that the i-th does not look at. -/
def freeB (l : List Oper) (ts : Ts) (i q : Nat) : Bool :=
  match getL l i with
  | some x => match getL l q with
    | some y => x.guard.isNone && (match y.op with
      | .call { callee := .value (.func _), args, .. } => isMove x.op || x.op.operands.toList.all (fun z => fixB l i z && (match idS (opnd ts z) with
          | some m => args.toList.all (fun a => fixB l q a && (match idS (opnd ts a) with
            | some n => !Nat.beq n m
            | none => true))
          | none => true))
      | .call { callee := .builtin .append, args, .. } => isMove x.op || x.op.operands.toList.all (fun z => fixB l i z && (match idS (opnd ts z) with
          | some m => args.toList.all (fun a => fixB l q a && (match idS (opnd ts a) with
            | some n => !Nat.beq n m
            | none => true))
          | none => true))
      | .store _ a _ => fixB l q a && (match idS (opnd ts a) with
        | some n => isMove x.op || x.op.operands.toList.all (fun z => fixB l i z && (match idS (opnd ts z) with
          | some m => !Nat.beq n m
          | none => true))
        | none => false)
      | _ => false)
    | none => false
  | none => false

theorem fixB_ok {nt : Nat} {l : List Oper} {sv : Nat → S} {ts : Ts} {i : Nat} (hi : i ≤ l.length) {x : Operand} (h : fixB l i x = true) : opnd (tsF nt l sv (fun _ => true) ts l.length) x = opnd (tsF nt l sv (fun _ => true) ts i) x := by
  cases x with
  | tmp t =>
    refine find_tsF l.length hi fun k hk hd => ?_
    simp only [fixB, Bool.not_eq_true', List.any_eq_false] at h
    by_cases c : k < i
    · simp [c]
    · exfalso
      have ho : getL l k = some l[k] := by rw [getL_eq]; simp [hk]
      have hd' : l[k].dst = some t := by simpa [dstOf, ho] using hd
      have hm : l[k] ∈ l.drop i := by
        have : (l.drop i)[k - i]? = some l[k] := by
          rw [List.getElem?_drop]
          rw [show i + (k - i) = k by omega]
          simp [hk]
        exact List.mem_of_getElem? this
      have := h _ hm
      rw [hd'] at this
      simp at this
  | _ => rfl

theorem store_chg {Γ : Env} {ts : Ts} {H H' : List O} {t : Nat} {a x : Operand} {ns : List Prop} {s : S} (h : eff Γ ts H (.store t a x) = some (ns, s, H')) {n : Nat} (hn : idS (opnd ts a) = some n) : ∀ id, id ≠ n → getL H' id = getL H id := by
  simp only [eff] at h
  split at h
  · split at h
    · rename_i p c hb
      have hc := idS_bare hb
      rw [hn] at hc
      split at h
      · split at h
        · split at h
          · rename_i r H1 hst
            cases h
            unfold storeK at hst
            split at hst
            · split at hst
              · split at hst
                · split at hst
                  · rename_i hset
                    cases hst
                    cases hc
                    exact (getL_set hset).2
                  · cases hst
                · cases hst
              · cases hst
            · split at hst
              · split at hst
                · rename_i hset
                  cases hst
                  cases hc
                  exact (getL_set hset).2
                · cases hst
              · cases hst
            · cases hst
          · cases h
        · cases h
      · cases h
    · cases h
  · cases h

theorem appP_chg {e : Nat} {te : TI} {H H' : List O} {x c : C} {src : List Prop × Nat × (Nat → Nat → C)} {ns : List Prop} (h : appP e te H x src = some (ns, c, H')) {id : Nat} (hx : idC x ≠ some id) {o : O} (ho : getL H id = some o) : getL H' id = some o := by
  have push : ∀ z : O, getL (H ++ [z]) id = some o := fun z => by
    have := getL_lt ho
    rw [getL_append_lt _ _ _ (by omega)]; exact ho
  obtain ⟨ns', m, g2⟩ := src
  simp only [appP] at h
  split at h
  · cases h; exact push _
  · split at h
    · cases h; exact push _
    · cases h
  · split at h
    · split at h
      · split at h
        · split at h
          · rename_i hset
            cases h
            rw [(getL_set hset).2 id (fun q => hx (by rw [q]; rfl))]; exact ho
          · cases h
        · cases h
      · cases h
    · cases h
  · cases h
theorem appK_chg {e : Nat} {te : TI} {H H' : List O} {x y c : C} {ns : List Prop} (h : appK e te H x y = some (ns, c, H')) {id : Nat} (hx : idC x ≠ some id) {o : O} (ho : getL H id = some o) : getL H' id = some o := by
  unfold appK at h
  split at h
  · exact appP_chg h hx ho
  · cases h
theorem appSo_chg {e : Nat} {te : TI} {H H' : List O} {x c : C} {a b d f g : Nat} {ns : List Prop} (h : appSo e te H x a b d f g = some (ns, c, H')) {id : Nat} (hx : idC x ≠ some id) {o : O} (ho : getL H id = some o) : getL H' id = some o := by
  unfold appSo at h
  split at h
  · exact appP_chg h hx ho
  · cases h

theorem append_chg {Γ : Env} {ts : Ts} {H H' : List O} {args : Array Operand} {tys : Array TypeId} {ns : List Prop} {s : S} (h : eff Γ ts H (.call { callee := .builtin .append, args := args, argTypes := tys }) = some (ns, s, H')) {id : Nat} (hn : ∀ a ∈ args.toList, idS (opnd ts a) ≠ some id) {o : O} (ho : getL H id = some o) : getL H' id = some o := by
  simp only [eff] at h
  split at h
  · rename_i x y hargs
    split at h
    · split at h
      · split at h
        · split at h
          · split at h
            · rename_i p c hb
              have hc := idS_bare hb
              split at h
              · split at h
                · rename_i happ
                  cases h
                  refine appK_chg happ (fun q => hn x (by rw [hargs]; simp) ?_) ho
                  rw [← hc]; exact q
                · cases h
              · split at h
                · rename_i happ
                  cases h
                  refine appSo_chg happ (fun q => hn x (by rw [hargs]; simp) ?_) ho
                  rw [← hc]; exact q
                · cases h
              · cases h
            · cases h
          · cases h
        · cases h
      · cases h
    · cases h
  · cases h

theorem cutK_chg {md : Bool} {e : Nat} {te : TI} {H H' : List O} {x y c : C} {ns : List Prop} (h : cutK md e te H x y = some (ns, c, H')) {id : Nat} (hx : idC x ≠ some id) {o : O} (ho : getL H id = some o) : getL H' id = some o := by
  unfold cutK at h
  split at h
  · split at h
    · split at h
      · split at h
        · split at h
          · split at h
            · split at h
              · cases h
                have hi : id < H.length := (List.getElem?_eq_some_iff.1 (by rw [← getL_eq]; exact ho)).1
                rw [getL_append_lt _ _ _ (by omega)]; exact ho
              · cases h
            · split at h
              · rename_i hset
                cases h
                rw [(getL_set hset).2 id (fun q => hx (by rw [q]; rfl))]; exact ho
              · cases h
          · cases h
        · cases h
      · cases h
    · cases h
  · cases h

theorem cutApp_chg {Γ : Env} {ts : Ts} {H H' : List O} {args : Array Operand} {tys : Array TypeId} {ns : List Prop} {s : S} {md : Bool} (h : cutApp md Γ ts H (.call { callee := .builtin .append, args := args, argTypes := tys }) = some (ns, s, H')) {id : Nat} (hn : ∀ a ∈ args.toList, idS (opnd ts a) ≠ some id) {o : O} (ho : getL H id = some o) : getL H' id = some o := by
  simp only [cutApp] at h
  split at h
  · rename_i x y hargs
    split at h
    · split at h
      · split at h
        · split at h
          · split at h
            · rename_i p c hb
              have hc := idS_bare hb
              split at h
              · split at h
                · rename_i happ
                  cases h
                  refine cutK_chg happ (fun q => hn x (by rw [hargs]; simp) ?_) ho
                  rw [← hc]; exact q
                · cases h
              · cases h
            · cases h
          · cases h
        · cases h
      · cases h
    · cases h
  · cases h

theorem argsK_ids {ts : Ts} : ∀ (xs : List Operand) (q : List Prop) (l : List S), argsK ts xs = some (q, l) → ∀ a ∈ l, ∃ x ∈ xs, idS a = idS (opnd ts x)
  | [], q, l, h, a, ha => by simp only [argsK, Option.some.injEq, Prod.mk.injEq] at h; rw [← h.2] at ha; cases ha
  | x :: r, q, l, h, a, ha => by
    simp only [argsK] at h
    split at h
    · rename_i q' l' hr
      cases h
      rcases List.mem_cons.1 ha with rfl | ha
      · exact ⟨x, by simp, idS_bare (s := opnd ts x) (p := (bare (opnd ts x)).1) rfl⟩
      · obtain ⟨y, y1, y2⟩ := argsK_ids r q' l' hr a ha
        exact ⟨y, by simp [y1], y2⟩
    · cases h

theorem wpAny_draw {X : Cx} (hΓ : EnvOk X.P X.Γ) (hm : X.P.follows .mixedOrders = true) {ops : Array Oper} {ts : Ts} {H : List O} {k : Kp} (E : List Nat) (S : List (Nat × Nat)) (hok : drawB E S ops.toList = true) (h : vcOpsD X E ops.toList ops.toList ts H fun ts' H' => match S.all (fun p => freeB ops.toList ts' p.1 p.2) with
      | true => k .normal ts' H'
      | false => StuckC .skip ts' H') :
    ∀ K F0 H0 μ0 F μ a w, Sat X K F0 H0 μ0 ts H F μ a w → wpAny X.P .any ops (Post X K F0 H0 μ0 k) ops.size (Array.replicate ops.size false) a { w with drawn := w.drawn + 1 } := by
  intro K F0 H0 μ0 F μ a w hs
  obtain ⟨sv, HH, hh0, hev, hend0⟩ := vcOpsD_ev ops.toList h
  generalize hl : ops.toList = l at *
  obtain ⟨hfreeB, hend⟩ : S.all (fun p => freeB l (tsF X.nt l sv (fun _ => true) ts l.length) p.1 p.2) = true ∧ k .normal (tsF X.nt l sv (fun _ => true) ts l.length) (HH l.length) := by
    split at hend0
    · rename_i hq; exact ⟨hq, hend0⟩
    · exact (stuckC_out hend0).elim
  -- what stores change
  rw [drawB, Bool.and_eq_true] at hok
  obtain ⟨hok, hfr⟩ := hok
  have alias : ∀ i q, (i, q) ∈ S → ∃ x y, getL l i = some x ∧ getL l q = some y ∧ x.guard = none ∧ (isMove x.op = true ∨ ∀ z ∈ x.op.operands, ∀ id, idS (opnd (tsF X.nt l sv (fun _ => true) ts i) z) = some id → ∀ o, getL (HH q) id = some o → getL (HH (q + 1)) id = some o) := by
    intro i q hm
    have hf := List.all_eq_true.1 hfreeB _ hm
    have hfr2 := List.all_eq_true.1 hfr _ hm
    simp only [freeB] at hf
    split at hf
    · rename_i x hx
      split at hf
      · rename_i y hy
        simp only [Bool.and_eq_true, Option.isNone_iff_eq_none] at hf
        obtain ⟨hg, hf⟩ := hf
        refine ⟨x, y, hx, hy, hg, ?_⟩
        have hq := getL_lt hy
        have hi := getL_lt hx
        split at hf
        · rename_i cf args at' hop
          rw [Bool.or_eq_true] at hf
          rcases hf with hf | hf
          · exact .inl hf
          · right
            intro z hz id hid o ho
            have hz2 := List.all_eq_true.1 hf z (by simpa using hz)
            simp only [Bool.and_eq_true] at hz2
            rw [fixB_ok (by omega) hz2.1, hid] at hz2
            have hall := hz2.2
            have hq2 := hev q y hy
            generalize HH (q + 1) = H1 at hq2 ⊢
            generalize sv q = s1 at hq2
            cases hq2 with
            | eff ns _ _ _ hc _ _ _ => rw [hop] at hc; cases hc
            | callE q' f la _ _ _ _ _ hv _ _ _ hch =>
              refine hch (by simpa [hy] using hfr2) id o (fun a ha e => ?_) ho
              rw [hop] at hv
              simp only [callOf] at hv
              split at hv
              · rename_i f' n get hcal
                have hn0 : n = 0 := by
                  simp only [opnd, bare] at hcal
                  cases hcal
                  rfl
                subst hn0
                split at hv
                · rename_i q'' l'' hak
                  cases hv
                  rcases List.mem_append.1 ha with ha | ha
                  · obtain ⟨b, b1, b2⟩ := argsK_ids _ _ _ hak a ha
                    have hb := List.all_eq_true.1 hall b b1
                    simp only [Bool.and_eq_true] at hb
                    rw [fixB_ok (by omega) hb.1, ← b2, e] at hb
                    simp at hb
                  · simp [capS] at ha
                · cases hv
              · cases hv
            | _ => exact ho
        · rename_i args tys hop
          rw [Bool.or_eq_true] at hf
          rcases hf with hf | hf
          · exact .inl hf
          · right
            intro z hz id hid o ho
            have hz2 := List.all_eq_true.1 hf z (by simpa using hz)
            simp only [Bool.and_eq_true] at hz2
            rw [fixB_ok (by omega) hz2.1, hid] at hz2
            have hall := hz2.2
            have hq2 := hev q y hy
            generalize HH (q + 1) = H1 at hq2 ⊢
            generalize sv q = s1 at hq2
            cases hq2 with
            | eff ns _ _ _ _ _ he _ =>
              rw [hop] at he
              have hgo : ∀ a ∈ args.toList, idS (opnd (tsF X.nt l sv (fun _ => true) ts q) a) ≠ some id := fun a ha e => ?_
              · exact (effE_cases he).elim (fun he => append_chg he hgo ho) (fun ⟨_, he⟩ => cutApp_chg he hgo ho)
              have hb := List.all_eq_true.1 hall a ha
              simp only [Bool.and_eq_true] at hb
              rw [fixB_ok (by omega) hb.1, e] at hb
              simp at hb
            | callE _ _ _ _ _ _ hc => rw [hop] at hc; cases hc
            | _ => exact ho
        · rename_i t a v hop
          simp only [Bool.and_eq_true] at hf
          obtain ⟨hfix, hf⟩ := hf
          split at hf
          · rename_i n hn
            rw [Bool.or_eq_true] at hf
            rcases hf with hf | hf
            · exact .inl hf
            · right
              intro z hz id hid o ho
              have hz2 := List.all_eq_true.1 hf z (by simpa using hz)
              simp only [Bool.and_eq_true] at hz2
              rw [fixB_ok (by omega) hz2.1, hid] at hz2
              rw [fixB_ok (by omega) hfix] at hn
              have hne : id ≠ n := by
                intro e
                subst e
                simp at hz2
              have hq2 := hev q y hy
              generalize HH (q + 1) = H1 at hq2 ⊢
              generalize sv q = s1 at hq2
              cases hq2 with
              | eff ns _ _ _ _ _ he _ =>
                rw [hop] at he
                rw [store_chg ((effE_cases he).resolve_right (by simp [cutApp])) hn id hne]; exact ho
              | callE _ _ _ _ _ _ hc => rw [hop] at hc; cases hc
              | _ => exact ho
          · simp at hf
        · simp at hf
      · simp at hf
    · simp at hf
  have hsz : ops.size = l.length := by rw [← hl]; simp
  have harr : l.toArray = ops := by rw [← hl]
  have rows := rowsB_ok l 0 hok
  simp only [Nat.zero_add] at rows
  have anc : ∀ j i, ((masks l []).getD j 0).testBit i = true → Anc l i j := masks_ok l l [] (fun k => by simp) (fun j i hj => by simp at hj)
  have back : ∀ j o, getL l j = some o → ∀ e ∈ o.after.toList, Region.binds .any e = true → e.on < j := fun j o ho => (rows j o ho).1
  have pair : ∀ i j x y, getL l i = some x → getL l j = some y → i < j → Anc l i j ∨
      (¬ (isE E x = true ∧ isE E y = true) ∧ ¬ (isE E x = true ∧ (isNew x.op = false ∨ y.guard.isSome = true) ∧ isCall y.op = false ∧ (j, i) ∉ S) ∧ ¬ (isE E y = true ∧ (isNew y.op = false ∨ x.guard.isSome = true) ∧ isCall x.op = false ∧ (i, j) ∉ S) ∧
        (∀ t, x.dst = some t → t ∉ looks l y ∧ y.dst ≠ some t) ∧ ∀ t, y.dst = some t → t ∉ looks l x) := by
    intro i j x y hx hy hij
    have := (rows j y hy).2 i x hx hij
    simp only [pairB, Bool.or_eq_true] at this
    rcases this with h1 | h1
    · exact .inl (anc j i h1)
    · right
      simp only [Bool.and_eq_true] at h1
      obtain ⟨⟨⟨⟨h1, h2⟩, h3⟩, h4⟩, h5⟩ := h1
      refine ⟨fun ⟨a, b⟩ => by simp [a, b] at h1, fun ⟨a, b, c, d⟩ => by rcases b with b | b <;> simp [a, b, c, d] at h2, fun ⟨a, b, c, d⟩ => by rcases b with b | b <;> simp [a, b, c, d] at h3, fun t ht => ?_, fun t ht => ?_⟩
      · rw [ht] at h4
        simp only [Bool.and_eq_true, Bool.not_eq_true', beq_eq_false_iff_ne] at h4
        exact ⟨by simpa using h4.1, h4.2⟩
      · rw [ht] at h5
        simpa using h5
  have hsame : ∀ k o, getL l k = some o → isE E o = false → HH (k + 1) = HH k := by
    intro k o ho he
    have := hev k o ho
    generalize hq : HH (k + 1) = q at this
    generalize sv k = sk at this
    cases this with
    | eff _ _ _ _ _ h1 => rw [he] at h1; cases h1
    | callE _ _ _ _ _ _ _ h1 => rw [he] at h1; cases h1
    | _ => rfl
  have hnew : ∀ k o, getL l k = some o → isNew o.op = true → Pre (HH k) (HH (k + 1)) := by
    intro k o ho hn
    by_cases he : isE E o = true
    · have := hev k o ho
      generalize hq : HH (k + 1) = q at this
      generalize sv k = sk at this
      cases this with
      | eff ns _ _ _ _ _ h1 =>
        obtain ⟨x, rfl⟩ := isNew_push ((effE_cases h1).resolve_right (fun ⟨_, e⟩ => by (unfold cutApp at e; split at e; rename_i hop; rw [hop] at hn; cases hn; cases e))) hn
        exact ⟨[x], rfl⟩
      | callE _ _ _ _ _ _ hc =>
        exfalso
        generalize o.op = op at hn hc
        cases op <;> simp [isCall, isNew] at hn hc
      | _ => exact Pre.refl _
    · rw [hsame k o ho (by simpa using he)]; exact Pre.refl _
  -- a stretch in which an object only stays
  have stretch : ∀ id m i, i ≤ m → m ≤ l.length → (∀ k o, i ≤ k → k < m → getL l k = some o → isE E o = true → isNew o.op = true ∨ ∀ o', getL (HH k) id = some o' → getL (HH (k + 1)) id = some o') → ∀ o, getL (HH i) id = some o → getL (HH m) id = some o := by
    intro id m
    induction m with
    | zero =>
      intro i hi _ _ o h; have : i = 0 := by omega
      subst this; exact h
    | succ m ih =>
      intro i hi hml hk o h
      by_cases c : i = m + 1
      · subst c; exact h
      · have ho : getL l m = some (l[m]'(by omega)) := by rw [getL_eq]; simp
        have := ih i (by omega) (by omega) (fun k o h1 h2 => hk k o h1 (by omega)) o h
        by_cases he : isE E (l[m]'(by omega)) = true
        · rcases hk m _ (by omega) (by omega) ho he with h1 | h1
          · exact (hnew m _ ho h1).get this
          · exact h1 _ this
        · rw [hsame m _ ho (by simpa using he)]; exact this
  have main : ∀ fuel (listed : Array Bool) (D : Nat → Bool), listed.size = ops.size → (∀ i, D i = listed.getD i false) → Closed l D → undone D l.length = fuel → ∀ (F : Mem) (μ : Nat → Value) (a : Act) (w : World),
      Sat X K F0 H0 μ0 (tsF X.nt l sv D ts l.length) (hD E l HH D l.length) F μ a w → wpAny X.P .any ops (Post X K F0 H0 μ0 k) fuel listed a w := by
    intro fuel
    induction fuel with
    | zero =>
      intro listed D hls hD' hcl hun F μ a w hst
      have all := undone_zero l.length hun
      refine ⟨?_, ?_⟩
      · rw [Region.ready]
        rw [List.filter_eq_nil_iff]
        intro i hi
        have hi' : i < ops.size := by simpa using hi
        have hd := all i (by omega)
        rw [hD' i] at hd
        have : listed.getD i true = true := by
          rw [Array.getD_eq_getD_getElem?] at hd ⊢
          rw [Array.getElem?_eq_getElem (by omega)] at hd ⊢
          exact hd
        simp [this]
      · have e1 : tsF X.nt l sv D ts l.length = tsF X.nt l sv (fun _ => true) ts l.length := by
          have : ∀ m, m ≤ l.length → tsF X.nt l sv D ts m = tsF X.nt l sv (fun _ => true) ts m := by
            intro m
            induction m with
            | zero => intro _; rfl
            | succ m ih => intro hm; simp only [tsF, all m (by omega), ih (by omega), if_true]
          exact this _ (Nat.le_refl _)
        have e2 : hD E l HH D l.length = HH l.length := hD_eq hsame l.length (Nat.le_refl _) (Nat.le_refl _) fun k o hk _ _ => by rw [all k hk]; simp [hk]
        rw [e1, e2] at hst
        exact ⟨_, _, F, μ, hst, hend⟩
    | succ fuel ih =>
      intro listed D hls hD' hcl hun F μ a w hst
      have getD2 : ∀ i, i < ops.size → listed.getD i true = listed.getD i false := by
        intro i hi
        rw [Array.getD_eq_getD_getElem?, Array.getD_eq_getD_getElem?, Array.getElem?_eq_getElem (by omega)]
        rfl
      refine ⟨fun hnil => ?_, fun i hi => ?_⟩
      · -- some operation can be done
        exfalso
        have hex : ∃ k, k < l.length ∧ D k = false := by
          refine Classical.byContradiction fun hno => ?_
          have : ∀ m, m ≤ l.length → undone D m = 0 := by
            intro m
            induction m with
            | zero => intro _; rfl
            | succ m ihm =>
              intro hm
              simp only [undone, ihm (by omega)]
              cases hd : D m with
              | true => simp
              | false => exact absurd ⟨m, by omega, hd⟩ hno
          rw [this _ (Nat.le_refl _)] at hun
          cases hun
        obtain ⟨i, ⟨h1, h2⟩, hmin⟩ := exists_least hex
        have ho : getL l i = some l[i] := by rw [getL_eq]; simp [h1]
        have hmem : i ∈ Region.ready .any ops listed := by
          rw [Region.ready, List.mem_filter]
          refine ⟨by simp; omega, ?_⟩
          have hopi : ops[i]? = some l[i] := by rw [← harr]; simp [h1]
          rw [hopi, getD2 i (by omega), ← hD' i, h2]
          simp only [Bool.not_false, Option.map_some, Option.getD_some, Bool.true_and]
          rw [← Array.all_toList, List.all_eq_true]
          intro e he
          cases hb : Region.binds .any e with
          | false => rfl
          | true =>
            have hlt := back i _ ho e he hb
            rw [← hD' e.on]
            cases hd : D e.on with
            | true => rfl
            | false => have := hmin e.on ⟨by omega, hd⟩; omega
        rw [hnil] at hmem
        cases hmem
      · -- an operation that is next
        rw [Region.ready, List.mem_filter] at hi
        obtain ⟨hi1, hi2⟩ := hi
        have hilt : i < l.length := by rw [← hsz]; simpa using hi1
        have ho : getL l i = some l[i] := by rw [getL_eq]; simp [hilt]
        have hopi : ops[i]? = some l[i] := by rw [← harr]; simp [hilt]
        rw [hopi, getD2 i (by omega), ← hD' i] at hi2
        simp only [Option.map_some, Option.getD_some, Bool.and_eq_true, Bool.not_eq_true'] at hi2
        obtain ⟨hDi, hdeps⟩ := hi2
        have deps : ∀ o, getL l i = some o → ∀ e ∈ o.after.toList, Region.binds .any e = true → D e.on = true := by
          intro o ho' e he hb
          rw [ho] at ho'
          cases ho'
          rw [← Array.all_toList, List.all_eq_true] at hdeps
          have := hdeps e he
          rw [hb, ← hD' e.on] at this
          simpa using this
        have before : ∀ k, Anc l k i → D k = true := fun k hk => hcl.anc hk deps
        have behind : ∀ k, Anc l i k → D k = true → False := by
          intro k hk hd
          have := hcl.anc hk (fun o ho' e he hb => hcl k o ho' hd e he hb)
          rw [hDi] at this
          cases this
        -- slots that it looks at, or writes
        have writers : ∀ t, (t ∈ looks l l[i] ∨ l[i].dst = some t) → ∀ q, q < l.length → dstOf l q = some t → q ≠ i → D q = decide (q < i) := by
          intro t ht q hq hd hne
          have hoq : getL l q = some l[q] := by rw [getL_eq]; simp [hq]
          have hdq : l[q].dst = some t := by simpa [dstOf, hoq] using hd
          rcases Nat.lt_or_gt_of_ne hne with c | c
          · rw [decide_eq_true c]
            rcases pair q i _ _ hoq ho c with h1 | ⟨_, _, _, h4, _⟩
            · exact before q h1
            · exfalso
              rcases ht with ht | ht
              · exact (h4 t hdq).1 ht
              · exact (h4 t hdq).2 ht
          · rw [decide_eq_false (by omega)]
            cases hdd : D q with
            | false => rfl
            | true =>
              exfalso
              rcases pair i q _ _ ho hoq c with h1 | ⟨_, _, _, h4, h5⟩
              · exact behind q h1 hdd
              · rcases ht with ht | ht
                · exact h5 t hdq ht
                · exact (h4 t ht).2 hdq
        have hlook : ∀ t ∈ looks l l[i], find t (tsF X.nt l sv D ts l.length) = find t (tsF X.nt l sv (fun _ => true) ts i) := by
          intro t ht
          refine find_tsF l.length (by omega) fun q hq hd => ?_
          by_cases c : q = i
          · subst c; rw [hDi]; simp
          · rw [writers t (.inl ht) q hq hd c]; simp
        -- what is tracked
        obtain ⟨c, c1, c2, c3⟩ := first_undone E l D
        have effD : ∀ q o, getL l q = some o → isE E o = true → D q = decide (q < c) := by
          intro q o hq he
          by_cases hqc : q < c
          · rw [decide_eq_true hqc]; exact c2 q o hqc hq he
          · rw [decide_eq_false hqc]
            rcases c3 with c3 | ⟨oc, d1, d2, d3⟩
            · have := getL_lt hq; omega
            · by_cases e : q = c
              · rw [e]; exact d3
              · cases hd : D q with
                | false => rfl
                | true =>
                  exfalso
                  rcases pair c q oc o d1 hq (by omega) with h1 | ⟨h1, _⟩
                  · have := hcl.anc h1 (fun o' ho' e' he' hb => hcl q o' ho' hd e' he' hb)
                    rw [d3] at this
                    cases this
                  · exact h1 ⟨d2, he⟩
        have hHc : hD E l HH D l.length = HH c := hD_eq hsame l.length c1 (Nat.le_refl _) fun q o _ hq he => effD q o hq he
        have hevi := hev i _ ho
        rw [hHc] at hst
        have hH : HH c = HH i ∨ (isCall l[i].op = true ∧ isE E l[i] = false) ∨ (isE E l[i] = false ∧ l[i].guard = none ∧ (isMove l[i].op = true ∨ ∀ x ∈ l[i].op.operands, Sees (HH i) (HH c) (idS (opnd (tsF X.nt l sv (fun _ => true) ts i) x)))) := by
          cases hei : isE E l[i] with
          | true =>
            left
            -- all other effects are ordered with it
            have : ∀ q o, q < l.length → getL l q = some o → isE E o = true → D q = decide (q < i) := by
              intro q o _ hq he
              by_cases e : q = i
              · subst e; rw [hDi]; simp
              · rcases Nat.lt_or_gt_of_ne e with cc | cc
                · rw [decide_eq_true cc]
                  rcases pair q i o _ hq ho cc with h1 | ⟨h1, _⟩
                  · exact before q h1
                  · exact absurd ⟨he, hei⟩ h1
                · rw [decide_eq_false (by omega)]
                  cases hd : D q with
                  | false => rfl
                  | true =>
                    rcases pair i q _ o ho hq cc with h1 | ⟨h1, _⟩
                    · exact (behind q h1 hd).elim
                    · exact absurd ⟨hei, he⟩ h1
            rw [← hHc]
            exact hD_eq hsame l.length (by omega) (Nat.le_refl _) this
          | false =>
            cases hci : isCall l[i].op with
            | true => exact .inr (.inl ⟨rfl, rfl⟩)
            | false =>
            -- effects between c and i are not ordered with i
            have free : ∀ q o, getL l q = some o → isE E o = true → (i ≤ q ∧ q < c) ∨ (c ≤ q ∧ q < i) → l[i].guard = none ∧ (isNew o.op = true ∨ isMove l[i].op = true ∨ ∀ z ∈ l[i].op.operands, ∀ id, idS (opnd (tsF X.nt l sv (fun _ => true) ts i) z) = some id → ∀ o', getL (HH q) id = some o' → getL (HH (q + 1)) id = some o') := by
              intro q o hq he hr
              have key : ((i, q) ∈ S ∨ (isNew o.op = true ∧ l[i].guard = none)) → l[i].guard = none ∧ (isNew o.op = true ∨ isMove l[i].op = true ∨ ∀ z ∈ l[i].op.operands, ∀ id, idS (opnd (tsF X.nt l sv (fun _ => true) ts i) z) = some id → ∀ o', getL (HH q) id = some o' → getL (HH (q + 1)) id = some o') := by
                rintro (hS | ⟨h1, h2⟩)
                · obtain ⟨x, y, hx, hy, hg, h⟩ := alias i q hS
                  rw [ho] at hx
                  cases hx
                  exact ⟨hg, .inr h⟩
                · exact ⟨h2, .inl h1⟩
              have nonS : (i, q) ∉ S → ¬ (isE E o = true ∧ (isNew o.op = false ∨ l[i].guard.isSome = true) ∧ isCall l[i].op = false ∧ (i, q) ∉ S) → isNew o.op = true ∧ l[i].guard = none := by
                intro hS h3
                refine ⟨?_, ?_⟩
                · cases hn : isNew o.op with
                  | true => rfl
                  | false => exact absurd ⟨he, .inl hn, hci, hS⟩ h3
                · cases hg : l[i].guard with
                  | none => rfl
                  | some g => exact absurd ⟨he, .inr (by rw [hg]; rfl), hci, hS⟩ h3
              refine key ?_
              by_cases hS : (i, q) ∈ S
              · exact .inl hS
              · right
                rcases hr with ⟨r1, r2⟩ | ⟨r1, r2⟩
                · have hne : q ≠ i := fun e => by subst e; rw [ho] at hq; cases hq; rw [hei] at he; cases he
                  have hd : D q = true := c2 q o r2 hq he
                  rcases pair i q _ o ho hq (by omega) with h1 | ⟨_, _, h3, _⟩
                  · exact (behind q h1 hd).elim
                  · exact nonS hS h3
                · have hd : D q = false := by rw [effD q o hq he]; simp; omega
                  rcases pair q i o _ hq ho r2 with h1 | ⟨_, h2, _⟩
                  · rw [before q h1] at hd; cases hd
                  · exact nonS hS h2
            by_cases hany : ∃ q o, getL l q = some o ∧ isE E o = true ∧ ((i ≤ q ∧ q < c) ∨ (c ≤ q ∧ q < i))
            · obtain ⟨q, o, hq, he, hr⟩ := hany
              have hg := (free q o hq he hr).1
              right; right
              cases hmv : isMove l[i].op with
              | true => exact ⟨rfl, hg, .inl rfl⟩
              | false =>
              refine ⟨rfl, hg, .inr fun x hx id hid o' ho' => ?_⟩
              have sees : ∀ q o, getL l q = some o → isE E o = true → (i ≤ q ∧ q < c) ∨ (c ≤ q ∧ q < i) → isNew o.op = true ∨ ∀ o', getL (HH q) id = some o' → getL (HH (q + 1)) id = some o' := by
                intro q o hq he hr
                rcases (free q o hq he hr).2 with h1 | h1 | h1
                · exact .inl h1
                · rw [hmv] at h1; cases h1
                · exact .inr (h1 x hx id hid)
              rcases Nat.le_total i c with hic | hic
              · exact stretch id c i hic c1 (fun k o h1 h2 hk he' => sees k o hk he' (.inl ⟨h1, h2⟩)) o' ho'
              · have hpre := stretch id i c hic (by omega) (fun k o h1 h2 hk he' => sees k o hk he' (.inr ⟨h1, h2⟩))
                -- it is there
                have hx2 : opnd (tsF X.nt l sv D ts l.length) x = opnd (tsF X.nt l sv (fun _ => true) ts i) x := opnd_looks hlook x hx
                have hrep := opnd_ok hst.tp x
                rw [hx2] at hrep
                have hnlz : ∀ g t, opnd (tsF X.nt l sv (fun _ => true) ts i) x ≠ .lz g t := by
                  intro g t e
                  have hevi' := hevi
                  generalize sv i = s1 at hevi'
                  generalize HH (i + 1) = q1 at hevi'
                  cases hevi' with
                  | val ns _ _ _ _ hlz _ _ =>
                    have := lzOk_get hlz x (by simpa using hx) g t e
                    rw [e] at hid
                    simp only [idS] at hid
                    rw [this] at hid
                    cases hid
                  | lit _ _ _ _ _ hlz _ _ =>
                    have := lzOk_get hlz x (by simpa using hx) g t e
                    rw [e] at hid
                    simp only [idS] at hid
                    rw [this] at hid
                    cases hid
                  | eff _ _ _ _ _ h1 => rw [hei] at h1; cases h1
                  | call _ _ _ _ _ _ h1 => rw [hci] at h1; cases h1
                  | callE _ _ _ _ _ _ h1 => rw [hci] at h1; cases h1
                  | gval _ _ _ _ _ _ _ h1 => rw [hg] at h1; cases h1
                  | gcall _ _ _ _ _ _ _ _ _ _ h1 => rw [hg] at h1; cases h1
                obtain ⟨o2, ho2⟩ := idS_live hrep hid hnlz
                have := hpre o2 ho2
                rw [ho'] at this
                cases this
                exact ho2
            · left
              have e : ∀ a b, a ≤ b → b ≤ l.length → (∀ q o, a ≤ q → q < b → getL l q = some o → isE E o = false) → HH a = HH b := by
                intro a b hab
                induction b with
                | zero =>
                  intro _ _; have : a = 0 := by omega
                  subst this; rfl
                | succ b ihb =>
                  intro hbl hq
                  by_cases cc : a = b + 1
                  · subst cc; rfl
                  · have hob : getL l b = some (l[b]'(by omega)) := by rw [getL_eq]; simp
                    rw [ihb (by omega) (by omega) fun q o h1 h2 => hq q o h1 (by omega)]
                    exact (hsame b _ hob (hq b _ (by omega) (by omega) hob)).symm
              rcases Nat.le_total i c with hic | hic
              · exact (e i c hic c1 fun q o h1 h2 hq => by
                  cases he : isE E o with
                  | false => rfl
                  | true => exact absurd ⟨q, o, hq, he, .inl ⟨h1, h2⟩⟩ hany).symm
              · exact e c i hic (by omega) fun q o h1 h2 hq => by
                  cases he : isE E o with
                  | false => rfl
                  | true => exact absurd ⟨q, o, hq, he, .inr ⟨h1, h2⟩⟩ hany
        obtain ⟨H2', hev2, hef1, hef2⟩ := hevi.move hlook hH
        have hrun := hev2.run hΓ ho hst (k := wpAny X.P .any ops (Post X K F0 H0 μ0 k) fuel (listed.setIfInBounds i true)) (Q := Post X K F0 H0 μ0 k)
        rw [harr] at hrun
        refine hrun fun F' μ' v w' g1 g2 g3 g4 => ?_
        let D' : Nat → Bool := fun q => if q = i then true else D q
        have hD'i : D' i = true := by simp [D']
        have hD'o : ∀ q, q ≠ i → D' q = D q := fun q hq => by simp [D', hq]
        have hcl' : Closed l D' := by
          intro j o hj hd e he hb
          by_cases c : e.on = i
          · rw [c]; exact hD'i
          · rw [hD'o _ c]
            by_cases cj : j = i
            · subst cj; exact deps o hj e he hb
            · rw [hD'o j cj] at hd; exact hcl j o hj hd e he hb
        have hH2 : hD E l HH D' l.length = H2' := by
          cases hei : isE E l[i] with
          | true =>
            rw [hef1 hei]
            refine hD_eq hsame l.length (by omega) (Nat.le_refl _) fun q o _ hq he => ?_
            by_cases e : q = i
            · subst e; rw [hD'i]; simp
            · rw [hD'o q e]
              rcases Nat.lt_or_gt_of_ne e with cc | cc
              · rw [decide_eq_true (by omega)]
                rcases pair q i o _ hq ho cc with h1 | ⟨h1, _⟩
                · exact before q h1
                · exact absurd ⟨he, hei⟩ h1
              · rw [decide_eq_false (by omega)]
                cases hd : D q with
                | false => rfl
                | true =>
                  rcases pair i q _ o ho hq cc with h1 | ⟨h1, _⟩
                  · exact (behind q h1 hd).elim
                  · exact absurd ⟨hei, he⟩ h1
          | false =>
            rw [hef2 hei]
            refine hD_eq hsame l.length c1 (Nat.le_refl _) fun q o _ hq he => ?_
            have hne : q ≠ i := fun e => by subst e; rw [ho] at hq; cases hq; rw [hei] at he; cases he
            rw [hD'o q hne]
            exact effD q o hq he
        refine ih (listed.setIfInBounds i true) D' (by simp [hls]) ?_ hcl' ?_ F' μ' (a.put l[i].dst v) w' ?_
        · intro q
          by_cases e : q = i
          · subst e
            rw [hD'i]
            simp [Array.getD_eq_getD_getElem?, hls, hsz, hilt]
          · rw [hD'o q e, hD' q, Array.getD_eq_getD_getElem?, Array.getD_eq_getD_getElem?, Array.getElem?_setIfInBounds_ne (fun h => e h.symm)]
        · have := undone_set hDi hD'i hD'o l.length hilt
          omega
        · rw [hH2]
          refine ⟨hst.le.le_trans' g1, hst.ext.trans g2, g3, ?_, ?_, ?_, hst.n0⟩
          · intro t
            have hold := RepS.mono g1 g2 _ _ (hst.tp t)
            by_cases cd : l[i].dst = some t
            · by_cases clt : t < X.nt
              · have hf : find t (tsF X.nt l sv D' ts l.length) = sv i := by
                  have h1 : find t (tsF X.nt l sv D' ts l.length) = find t (tsF X.nt l sv D' ts (i + 1)) := by
                    refine find_tsF l.length (by omega) fun q hq hd => ?_
                    by_cases e : q = i
                    · subst e; rw [hD'i]; simp
                    · rw [hD'o q e, writers t (.inr cd) q hq hd e]
                      by_cases cc : q < i
                      · rw [decide_eq_true cc, decide_eq_true (by omega)]; rfl
                      · rw [decide_eq_false cc, decide_eq_false (by omega)]; rfl
                  rw [h1]
                  simp only [tsF, hD'i, if_true]
                  rw [find_put, if_pos ⟨by simp [dstOf, ho, cd], clt⟩]
                rw [hf]
                have : (a.put l[i].dst v).tmps.getD t undef = v := by
                  have hlt : t < a.tmps.size := by rw [hst.sz]; exact clt
                  rw [cd]
                  simp [Act.put, Array.getD, hlt]
                rw [this]
                exact g4
              · have hf : find t (tsF X.nt l sv D' ts l.length) = find t (tsF X.nt l sv D ts l.length) := by
                  have : ∀ DD m, find t (tsF X.nt l sv DD ts m) = find t ts := by
                    intro DD m
                    induction m with
                    | zero => rfl
                    | succ m ihm =>
                      simp only [tsF]
                      split
                      · rw [find_put, if_neg (fun h => clt h.2)]; exact ihm
                      · exact ihm
                  rw [this, this]
                rw [hf]
                have : (a.put l[i].dst v).tmps = a.tmps := by
                  rw [cd]
                  simp only [Act.put]
                  exact Array.setIfInBounds_eq_of_size_le (by rw [hst.sz]; omega)
                rw [this]
                exact hold
            · have hf : find t (tsF X.nt l sv D' ts l.length) = find t (tsF X.nt l sv D ts l.length) := by
                have : ∀ m, find t (tsF X.nt l sv D' ts m) = find t (tsF X.nt l sv D ts m) := by
                  intro m
                  induction m with
                  | zero => rfl
                  | succ m ihm =>
                    simp only [tsF]
                    by_cases e : m = i
                    · subst e
                      rw [hD'i, if_pos rfl, hDi, if_neg (by simp), find_put, if_neg (by simp [dstOf, ho, cd])]
                      exact ihm
                    · rw [hD'o m e]
                      split
                      · rw [find_put, find_put, ihm]
                      · exact ihm
                exact this _
              rw [hf]
              have : (a.put l[i].dst v).tmps.getD t undef = a.tmps.getD t undef := by
                cases hdd : l[i].dst with
                | none => rfl
                | some d =>
                  have hne : d ≠ t := fun e => cd (by rw [hdd, e])
                  simp only [Act.put, Array.getD_eq_getD_getElem?]
                  rw [Array.getElem?_setIfInBounds_ne hne]
              rw [this]
              exact hold
          · cases hdd : l[i].dst <;> simp [Act.put, hst.sz]
          · cases hdd : l[i].dst <;> simp [Act.put, hst.df]
  have hsat0 : Sat X K F0 H0 μ0 ts H F μ a { w with drawn := w.drawn + 1 } := by
    refine ⟨hs.le, hs.ext, ?_, hs.tp, hs.sz, hs.df, hs.n0⟩
    refine ⟨hs.hs.os, hs.hs.tape, hs.hs.output, hs.hs.fr, hs.hs.kp, fun i o hi => ?_, hs.hs.sp, hs.hs.ij, hs.hs.dj⟩
    have := hs.hs.ob i o hi
    cases o with
    | vr cs => exact this
    | arr e es n g => exact this
    | dead => trivial
    | mp sh z va ks val => exact this
  refine main ops.size (Array.replicate ops.size false) (fun _ => false) (by simp) (fun i => by simp [Array.getD_eq_getD_getElem?, Array.getElem?_replicate]; split <;> rfl) (fun j o _ hd => by cases hd) ?_ F μ a _ ?_
  · rw [hsz]
    have : ∀ m, undone (fun _ => false) m = m := by
      intro m
      induction m with
      | zero => rfl
      | succ m ih => simp [undone, ih]
    exact this _
  · have e1 : ∀ m, tsF X.nt l sv (fun _ => false) ts m = ts := by
      intro m
      induction m with
      | zero => rfl
      | succ m ih => simp [tsF, ih]
    have e2 : ∀ m, hD E l HH (fun _ => false) m = HH 0 := by
      intro m
      induction m with
      | zero => rfl
      | succ m ih =>
        simp only [hD]
        split
        · simp [ih]
        · exact ih
    rw [e1, e2, hh0]
    exact hsat0

theorem wp_draw {X : Cx} (hΓ : EnvOk X.P X.Γ) (hm : X.P.follows .mixedOrders = true) {id : Nat} {ops : Array Oper} {ts : Ts} {H : List O} {k : Kp} (E : List Nat) (S : List (Nat × Nat)) (hok : drawB E S ops.toList = true) (h : vcOpsD X E ops.toList ops.toList ts H fun ts' H' => match S.all (fun p => freeB ops.toList ts' p.1 p.2) with
      | true => k .normal ts' H'
      | false => StuckC .skip ts' H') :
    AW X (.region id ops true) ts H k := fun K F0 H0 μ0 F μ a w hs => wp_region_any hm (wpAny_draw hΓ hm E S hok h K F0 H0 μ0 F μ a w hs)

/-- A region whose order is open, walked once; calls of the functions in E change what is tracked. -/
theorem Dr.mkE {X : Cx} (hΓ : EnvOk X.P X.Γ) (hm : X.P.follows .mixedOrders = true) {id : Nat} {ops : Array Oper} {ts : Ts} {H : List O} {k : Kp} (E : List Nat) (S : List (Nat × Nat)) (hok : drawB E S ops.toList = true) (h : vcOpsD X E ops.toList ops.toList ts H fun ts' H' => match S.all (fun p => freeB ops.toList ts' p.1 p.2) with
      | true => k .normal ts' H'
      | false => StuckC .skip ts' H') : Dr X id ops ts H k := by
  refine ⟨?_⟩
  exact wp_draw hΓ hm E S hok h

/-- A region whose order is open, walked once. -/
theorem Dr.mk {X : Cx} (hΓ : EnvOk X.P X.Γ) (hm : X.P.follows .mixedOrders = true) {id : Nat} {ops : Array Oper} {ts : Ts} {H : List O} {k : Kp} (hok : drawB [] [] ops.toList = true) (h : vcOpsD X [] ops.toList ops.toList ts H (k .normal)) : Dr X id ops ts H k := by
  refine ⟨?_⟩
  exact wp_draw hΓ hm [] [] hok h

/-- The same, where some stores are not ordered with some others (number of the one that looks, number of the store). -/
theorem Dr.mkS {X : Cx} (hΓ : EnvOk X.P X.Γ) (hm : X.P.follows .mixedOrders = true) {id : Nat} {ops : Array Oper} {ts : Ts} {H : List O} {k : Kp} (S : List (Nat × Nat)) (hok : drawB [] S ops.toList = true) (h : vcOpsD X [] ops.toList ops.toList ts H fun ts' H' => match S.all (fun p => freeB ops.toList ts' p.1 p.2) with
      | true => k .normal ts' H'
      | false => StuckC .skip ts' H') : Dr X id ops ts H k := by
  refine ⟨?_⟩
  exact wp_draw hΓ hm [] S hok h

end Go.Am
end

section
/- THE ABSTRACT MACHINE, PART 21: an array of the call's own is frozen. -/
namespace Go.Am
section
variable {id n : Nat} {g : Nat → Nat → C}
variable {K : Keep} {F : Mem} {H : List O} {μ : Nat → Value} {w : World} {e es : Nat}

theorem Sat.fz {X : Cx} {F0 : Mem} {H0 : List O} {μ0 : Nat → Value} {ts : Ts} {a : Act} (hs : Sat X K F0 H0 μ0 ts H F μ a w) (hid : getL H id = some (.arr e es n g)) (hn : X.n0 ≤ id) (him : ∀ i, i < n → ∀ j, j < es → (g i j).imm = true) :
    Sat X K F0 H0 μ0 (fzT id n g ts) (fzH id n g H) (fzM F H μ w id) μ a w :=
  ⟨hs.le.le_trans' (fzM_le hs.hs), hs.ext.fz (Nat.le_trans hs.n0 hn), fzH_ok hs.hs hid him, fun t => by rw [find_fzT]; exact fzS_ok hs.hs hid him (hs.tp t), hs.sz, hs.df, hs.n0⟩

/-- The array is frozen. -/
theorem Mv.fz {X : Cx} {ts : Ts} (id : Nat) (hid : getL H id = some (.arr e es n g)) (hn : X.n0 ≤ id) (him : ∀ i, i < n → ∀ j, j < es → (g i j).imm = true) : Mv X ts H (fzT id n g ts) (fzH id n g H) :=
  fun _ _ _ _ _ _ _ _ hs => ⟨_, _, hs.fz hid hn him⟩

/-- The array is frozen ahead of a call. -/
theorem CallN.fz {X : Cx} {f : FuncId} {args : List S} {dst : Option Tmp} {ts : Ts} {k : Ts → List O → Prop} (id : Nat) (hid : getL H id = some (.arr e es n g)) (hn : X.n0 ≤ id) (him : ∀ i, i < n → ∀ j, j < es → (g i j).imm = true)
    (h : CallN X f (fzA id n g args) dst (fzT id n g ts) (fzH id n g H) k) : CallN X f args dst ts H k := by
  obtain ⟨h1, h2⟩ := h.out
  refine ⟨h1, fun K F0 H0 μ0 F μ a w vs hs hA => ?_⟩
  refine h2 K F0 H0 μ0 _ μ a w vs (hs.fz hid hn him) ⟨by rw [fzA_len]; exact hA.1, fun j s hj => ?_⟩
  rw [fzA_get] at hj
  cases hy : getL args j with
  | none => rw [hy] at hj; cases hj
  | some y =>
    rw [hy] at hj
    cases hj
    obtain ⟨v, v1, v2⟩ := hA.2 j y hy
    exact ⟨v, v1, fzS_ok hs.hs hid him v2⟩

/-- A result, and the objects, that say less. -/
structure RM (n0 : Nat) (s : S) (H : List O) (s' : S) (H' : List O) : Prop where
  intro ::
  out : ∀ K F μ w v, HSat K F H μ w → RepS F H μ s v → ∃ F' μ', F.le F' ∧ HSat K F' H' μ' w ∧ RepS F' H' μ' s' v ∧ ∀ H0 μ0, H0.length ≤ n0 → Ext H0 μ0 H μ → Ext H0 μ0 H' μ'

theorem RM.refl {n0 : Nat} {s : S} : RM n0 s H s H := ⟨fun _ F μ _ _ hw hs => ⟨F, μ, Mem.le_refl F, hw, hs, fun _ _ _ h => h⟩⟩
theorem RM.trans {n0 : Nat} {s s' s'' : S} {H' H'' : List O} (h : RM n0 s H s' H') (k : RM n0 s' H' s'' H'') : RM n0 s H s'' H'' := by
  refine ⟨fun K F μ w v hw hs => ?_⟩
  obtain ⟨F', μ', h1, h2, h3, h4⟩ := h.out K F μ w v hw hs
  obtain ⟨F'', μ'', k1, k2, k3, k4⟩ := k.out K F' μ' w v h2 h3
  exact ⟨F'', μ'', h1.le_trans' k1, k2, k3, fun H0 μ0 hn he => k4 H0 μ0 hn (h4 H0 μ0 hn he)⟩

theorem RM.fz {n0 : Nat} {s s' : S} {H' : List O} (id : Nat) (hid : getL H id = some (.arr e es n g)) (hn : n0 ≤ id) (him : ∀ i, i < n → ∀ j, j < es → (g i j).imm = true) (h : RM n0 (fzS id n g s) (fzH id n g H) s' H') : RM n0 s H s' H' :=
  RM.trans ⟨fun K F μ w v hw hs => ⟨_, μ, fzM_le hw, fzH_ok hw hid him, fzS_ok hw hid him hs, fun _ _ hl he => he.fz (Nat.le_trans hl hn)⟩⟩ h

theorem RM.wk {n0 : Nat} {s s' : S} {H' : List O} (m : Nat) (hm : H'.length = m) (h : HWkL idN m H H') (hs : wkS idN m s s') (hn : n0 ≤ m) : RM n0 s H s' H' := by
  subst hm
  refine ⟨fun K F μ w v hw hv => ?_⟩
  have hk : HWk idN H H' := ⟨fun i o' hi => HWkL_get h i o' hi, fun i j _ _ e => e⟩
  exact ⟨F, fun i => μ (idN i), Mem.le_refl F, hw.wk hk, wkS_ok hk s s' hs v hv, fun H0 μ0 hl he => he.wk hk (Nat.le_trans hl hn)⟩

/-- The objects get other numbers. -/
theorem RM.ren {s s' : S} {H' : List O} (ρ : Nat → Nat) (m : Nat) (hm : H'.length = m) (h : HWk ρ H H') (hs : wkS ρ m s s') : RM 0 s H s' H' := by
  subst hm
  refine ⟨fun K F μ w v hw hv => ?_⟩
  refine ⟨F, fun i => μ (ρ i), Mem.le_refl F, hw.wk h, wkS_ok h s s' hs v hv, fun H0 μ0 hl _ => ?_⟩
  have : H0 = [] := List.length_eq_zero_iff.1 (by omega)
  subst this
  exact ⟨fun _ _ hc => by simp [getL] at hc, fun _ _ _ _ _ hc => by simp [getL] at hc, fun _ _ _ _ _ _ hc => by simp [getL] at hc⟩

/-- Everything is frozen, or fell away. -/
theorem RM.imm {s s' : S} (h : s.imm = true) (hs : wkS idN 0 s s') : RM 0 s H s' [] :=
  RM.wk 0 rfl (by cases H <;> trivial) hs (Nat.le_refl 0)

theorem CSpec.rm {P : Program} {f : FuncId} {args : List S} {Q : S → List O → Prop} (h : CSpec P f args H fun s H' => ∃ s' H'', RM H.length s H' s' H'' ∧ Q s' H'') : CSpec P f args H Q := by
  intro K F μ w vs hw hA
  refine (h K F μ w vs hw hA).mono ?_
  rintro e w' ⟨v, F', μ', s, H', rfl, h1, h2, h3, h4, s', H'', hr, hq⟩
  obtain ⟨F'', μ'', r1, r2, r3, r4⟩ := hr.out K F' μ' w' v h2 h4
  exact ⟨v, F'', μ'', s', H'', rfl, h1.le_trans' r1, r2, r4 H μ (Nat.le_refl _) h3, r3, hq⟩

/-- A function that changes nothing, by what is left of its result when everything is frozen. -/
theorem PSpec.rm {P : Program} {f : FuncId} {args : List S} {r : S} (h : CSpec P f args [] fun s H' => RM 0 s H' r []) : PSpec P f args r := by
  refine CSpec.rm (Q := fun s _ => s = r) ?_
  intro K F μ w vs hw hA
  refine (h K F μ w vs hw hA).mono ?_
  rintro e w' ⟨v, F', μ', s, H', h0, h1, h2, h3, h4, hr⟩
  exact ⟨v, F', μ', s, H', h0, h1, h2, h3, h4, r, [], hr, rfl⟩

theorem CSpec.mono {P : Program} {f : FuncId} {args : List S} {Q Q' : S → List O → Prop} (h : CSpec P f args H Q) (hq : ∀ s H', Q s H' → Q' s H') : CSpec P f args H Q' := by
  intro K F μ w vs hw hA
  refine (h K F μ w vs hw hA).mono ?_
  rintro e w' ⟨v, F', μ', s, H', h0, h1, h2, h3, h4, hr⟩
  exact ⟨v, F', μ', s, H', h0, h1, h2, h3, h4, hq _ _ hr⟩

end
end Go.Am
end

section
/- THE ABSTRACT MACHINE, PART 22: a call by a contract that was proved beside fewer objects; a call that only reads. -/
namespace Go.Am

/-- The place of a number in a list. -/
def idx (rs : List Nat) (a : Nat) : Option Nat :=
  match rs with
  | [] => none
  | r :: t => match Nat.beq r a with
    | true => some 0
    | false => match idx t a with
      | some i => some (i + 1)
      | none => none

/-- The number that an object of the callee has here. -/
def sg (rs : List Nat) (h j : Nat) : Nat :=
  match getL rs j with
  | some r => r
  | none => j - rs.length + h

def reC (σ : Nat → Nat) : C → C
  | .ptr a o => .ptr (σ a) o
  | .ep a i j t => .ep (σ a) i j t
  | .sl a es l t x => .sl (σ a) es l t x
  | .mpr a => .mpr (σ a)
  | .fn f m g => .fn f m fun j => reC σ (g j)
  | c => c

def reL (σ : Nat → Nat) : List C → List C
  | [] => []
  | x :: r => reC σ x :: reL σ r
def reE (σ : Nat → Nat) : C ⊕ List C → C ⊕ List C
  | .inl x => .inl (reC σ x)
  | .inr xs => .inr (reL σ xs)
def reEL (σ : Nat → Nat) : List (C ⊕ List C) → List (C ⊕ List C)
  | [] => []
  | x :: r => reE σ x :: reEL σ r
def reS (σ : Nat → Nat) : S → S
  | .u => .u
  | .c x => .c (reC σ x)
  | .a xs => .a (reL σ xs)
  | .t l => .t (reEL σ l)
  | .lz b s => .lz b (reS σ s)
  | .so .. => .u
def reO (σ : Nat → Nat) : O → O
  | .vr cs => .vr (reL σ cs)
  | .arr e es m h => .arr e es m fun i j => reC σ (h i j)
  | .dead => .dead
  | .mp sh z va ks val => .mp sh z va ks val
def reHL (σ : Nat → Nat) : List O → List O
  | [] => []
  | o :: r => reO σ o :: reHL σ r

/-- The callee's objects, put back among the caller's. -/
def plugK (σ : Nat → Nat) (rs : List Nat) (Hc : List O) : Nat → List O → List O
  | _, [] => []
  | k, o :: r => (match idx rs k with
    | some i => match getL Hc i with
      | some o' => reO σ o'
      | none => o
    | none => o) :: plugK σ rs Hc (k + 1) r

def dropL {α : Type} : Nat → List α → List α
  | 0, l => l
  | _ + 1, [] => []
  | k + 1, _ :: r => dropL k r

def plug (rs : List Nat) (H Hc : List O) : List O :=
  plugK (sg rs H.length) rs Hc 0 H ++ reHL (sg rs H.length) (dropL rs.length Hc)

section
variable {σ : Nat → Nat}

theorem dropL_eq {α : Type} : ∀ (k : Nat) (l : List α), dropL k l = l.drop k
  | 0, _ => rfl
  | _ + 1, [] => rfl
  | k + 1, _ :: r => by simp [dropL, dropL_eq k r]
theorem reL_len : ∀ l : List C, (reL σ l).length = l.length
  | [] => rfl
  | _ :: r => by simp [reL, reL_len r]
theorem reL_get : ∀ (l : List C) (j : Nat), getL (reL σ l) j = (getL l j).map (reC σ)
  | [], _ => rfl
  | _ :: _, 0 => rfl
  | _ :: r, j + 1 => by simp only [reL, getL]; exact reL_get r j
theorem reEL_len : ∀ l : List (C ⊕ List C), (reEL σ l).length = l.length
  | [] => rfl
  | _ :: r => by simp [reEL, reEL_len r]
theorem reEL_get : ∀ (l : List (C ⊕ List C)) (j : Nat), getL (reEL σ l) j = (getL l j).map (reE σ)
  | [], _ => rfl
  | _ :: _, 0 => rfl
  | _ :: r, j + 1 => by simp only [reEL, getL]; exact reEL_get r j
theorem reHL_len : ∀ l : List O, (reHL σ l).length = l.length
  | [] => rfl
  | _ :: r => by simp [reHL, reHL_len r]
theorem reHL_get : ∀ (l : List O) (j : Nat), getL (reHL σ l) j = (getL l j).map (reO σ)
  | [], _ => rfl
  | _ :: _, 0 => rfl
  | _ :: r, j + 1 => by simp only [reHL, getL]; exact reHL_get r j

theorem plugK_len {rs : List Nat} {Hc : List O} : ∀ (k : Nat) (H : List O), (plugK σ rs Hc k H).length = H.length
  | _, [] => rfl
  | k, _ :: r => by simp [plugK, plugK_len (k + 1) r]
theorem plugK_get {rs : List Nat} {Hc : List O} : ∀ (k : Nat) (H : List O) (j : Nat), getL (plugK σ rs Hc k H) j = (getL H j).map fun o => match idx rs (k + j) with
    | some i => match getL Hc i with
      | some o' => reO σ o'
      | none => o
    | none => o
  | _, [], _ => rfl
  | k, _ :: _, 0 => rfl
  | k, _ :: r, j + 1 => by
    simp only [plugK, getL, plugK_get (k + 1) r j]
    rw [show k + 1 + j = k + (j + 1) by omega]

theorem idx_some {a i : Nat} : ∀ {rs : List Nat}, idx rs a = some i → getL rs i = some a
  | [], h => by simp [idx] at h
  | r :: t, h => by
    simp only [idx] at h
    split at h
    · rename_i hb
      cases h
      rw [Nat.eq_of_beq_eq_true hb]
      rfl
    · cases hi : idx t a with
      | none => rw [hi] at h; cases h
      | some k =>
        rw [hi] at h
        cases h
        simpa [getL] using idx_some hi
theorem idx_none {a : Nat} : ∀ {rs : List Nat}, idx rs a = none → ∀ i, getL rs i ≠ some a
  | [], _, i => by simp [getL]
  | r :: t, h, i => by
    simp only [idx] at h
    split at h
    · cases h
    · rename_i hb
      cases hi : idx t a with
      | some k => rw [hi] at h; cases h
      | none =>
        cases i with
        | zero =>
          simp only [getL]
          intro e
          cases e
          simp at hb
        | succ i => simpa [getL] using idx_none hi i

end

theorem getL_append_ge {α : Type} (l r : List α) (i : Nat) (h : l.length ≤ i) : getL (l ++ r) i = getL r (i - l.length) := by
  rw [getL_eq, getL_eq, List.getElem?_append_right h]
theorem getL_append_lt' {α : Type} (l r : List α) (i : Nat) (h : i < l.length) : getL (l ++ r) i = getL l i := by
  rw [getL_eq, getL_eq, List.getElem?_append_left h]

/-- The caller's objects that the callee does not have, put aside. -/
noncomputable def Keep.but (K : Keep) (H : List O) (μ : Nat → Value) (w : World) (rs : List Nat) : Keep :=
  { K with mem := open Classical in fun b => if ∃ id, idx rs id = none ∧ owned H μ id b then w.heap[b]? else K.mem b }

section
variable {K : Keep} {F F' : Mem} {H Hc Hc' : List O} {μ μ' : Nat → Value} {w w' : World} {rs : List Nat}

/-- The values of all objects, the callee's put back. -/
def plugM (rs : List Nat) (h : Nat) (μ μ' : Nat → Value) : Nat → Value := fun id =>
  if h ≤ id then μ' (id - h + rs.length) else match idx rs id with
    | some i => μ' i
    | none => μ id

def rho (rs : List Nat) : Nat → Nat := fun i => (getL rs i).getD 0

structure Fr (H Hc : List O) (rs : List Nat) : Prop where
  len : rs.length = Hc.length
  wk : HWk (rho rs) H Hc

theorem Fr.lt (h : Fr H Hc rs) {i a : Nat} (hi : getL rs i = some a) : i < Hc.length ∧ a < H.length ∧ rho rs i = a ∧ idx rs a = some i := by
  have h1 := getL_lt hi
  have h2 : rho rs i = a := by simp [rho, hi]
  have h3 : i < Hc.length := by rw [← h.len]; exact h1
  refine ⟨h3, ?_, h2, ?_⟩
  · obtain ⟨o, ho, _⟩ := h.wk.ob i Hc[i] (by rw [getL_eq]; simp [h3])
    rw [h2] at ho
    exact getL_lt ho
  · cases hx : idx rs a with
    | none => exact absurd hi (idx_none hx i)
    | some k =>
      have hk := idx_some hx
      have k1 := getL_lt hk
      have := h.wk.inj i k h3 (by rw [← h.len]; exact k1) (by rw [h2]; simp [rho, hk])
      rw [this]

/-- An object of the callee, seen by the caller. -/
theorem Fr.at (h : Fr H Hc rs) (hl : Hc.length ≤ Hc'.length) {j : Nat} {o : O} (hj : getL Hc' j = some o) :
    getL (plug rs H Hc') (sg rs H.length j) = some (reO (sg rs H.length) o) ∧ plugM rs H.length μ μ' (sg rs H.length j) = μ' j := by
  cases hr : getL rs j with
  | some a =>
    obtain ⟨h1, h2, h3, h4⟩ := h.lt hr
    have hs : sg rs H.length j = a := by simp [sg, hr]
    rw [hs]
    constructor
    · unfold plug
      rw [getL_append_lt' _ _ _ (by rw [plugK_len]; exact h2), plugK_get]
      have : ∃ p, getL H a = some p := ⟨H[a], by rw [getL_eq]; simp [h2]⟩
      obtain ⟨p, hp⟩ := this
      rw [hp]
      simp only [Option.map_some, Nat.zero_add, h4, hj]
    · simp only [plugM]
      rw [if_neg (by omega), h4]
  | none =>
    have hge : rs.length ≤ j := by
      rw [getL_eq] at hr
      exact List.getElem?_eq_none_iff.1 hr
    have hs : sg rs H.length j = j - rs.length + H.length := by simp [sg, hr]
    rw [hs]
    constructor
    · unfold plug
      rw [getL_append_ge _ _ _ (by rw [plugK_len]; omega), plugK_len, reHL_get, dropL_eq]
      have : getL (Hc'.drop rs.length) (j - rs.length + H.length - H.length) = some o := by
        rw [getL_eq, List.getElem?_drop]
        rw [getL_eq] at hj
        rw [← hj]
        congr 1
        omega
      rw [this]
      rfl
    · simp only [plugM]
      rw [if_pos (by omega)]
      congr 1
      omega

theorem Fr.repC (h : Fr H Hc rs) (hl : Hc.length ≤ Hc'.length) : ∀ (c : C) (v : Value), RepC F Hc' μ' c v → RepC F (plug rs H Hc') (plugM rs H.length μ μ') (reC (sg rs H.length) c) v := by
  intro c
  induction c with
  | ptr a off =>
    intro v hv
    obtain ⟨⟨cs, h1⟩, b, h2, h3⟩ := hv
    obtain ⟨k1, k2⟩ := h.at (μ := μ) (μ' := μ') hl h1
    exact ⟨⟨_, k1⟩, b, by rw [k2]; exact h2, h3⟩
  | ep a i j t =>
    intro v hv
    obtain ⟨h0, e, es, n, g, h1, h2, h3⟩ := hv
    obtain ⟨k1, k2⟩ := h.at (μ := μ) (μ' := μ') hl h1
    exact ⟨h0, e, es, n, _, k1, h2, fun q => by rw [k2]; exact h3 q⟩
  | sl a es l t x =>
    intro v hv
    obtain ⟨h0, e, n, g, h1, h2, h3, h4⟩ := hv
    obtain ⟨k1, k2⟩ := h.at (μ := μ) (μ' := μ') hl h1
    exact ⟨h0, e, n, _, k1, h2, h3, fun q => by rw [k2]; exact h4 q⟩
  | fn f m g ih =>
    intro v hv
    obtain ⟨cs, h1, h2, h3⟩ := hv
    refine ⟨cs, h1, h2, fun j hj => ?_⟩
    obtain ⟨x, x1, x2⟩ := h3 j hj
    exact ⟨x, x1, ih j x x2⟩
  | mpr a =>
    intro v hv
    obtain ⟨⟨sh, z, va, ks, val, h1⟩, b, h2, h3⟩ := hv
    obtain ⟨k1, k2⟩ := h.at (μ := μ) (μ' := μ') hl h1
    exact ⟨⟨_, _, _, _, _, k1⟩, b, by rw [k2]; exact h2, h3⟩
  | _ => intro v hv; exact hv

theorem Fr.repL (h : Fr H Hc rs) (hl : Hc.length ≤ Hc'.length) {xs : List C} {cs : Array Value} (hx : RepL F Hc' μ' xs cs) : RepL F (plug rs H Hc') (plugM rs H.length μ μ') (reL (sg rs H.length) xs) cs := by
  refine ⟨by rw [reL_len]; exact hx.1, fun j x hj => ?_⟩
  rw [reL_get] at hj
  cases hy : getL xs j with
  | none => rw [hy] at hj; cases hj
  | some y =>
    rw [hy] at hj
    cases hj
    obtain ⟨v, v1, v2⟩ := hx.2 j y hy
    exact ⟨v, v1, h.repC hl y v v2⟩

theorem Fr.repS (h : Fr H Hc rs) (hl : Hc.length ≤ Hc'.length) : ∀ {s : S} {v : Value}, RepS F Hc' μ' s v → RepS F (plug rs H Hc') (plugM rs H.length μ μ') (reS (sg rs H.length) s) v
  | .u, _, _ => trivial
  | .c x, v, hv => h.repC hl x v hv
  | .a _, _, ⟨cs, h1, h2⟩ => ⟨cs, h1, h.repL hl h2⟩
  | .t l, _, ⟨vs, h1, h2, h3⟩ => by
    refine ⟨vs, h1, by rw [reEL_len]; exact h2, fun j x hx => ?_⟩
    rw [reEL_get] at hx
    cases hy : getL l j with
    | none => rw [hy] at hx; cases hx
    | some y =>
      rw [hy] at hx
      cases hx
      obtain ⟨u, u1, u2⟩ := h3 j y hy
      refine ⟨u, u1, ?_⟩
      cases y with
      | inl c => exact h.repC hl c u u2
      | inr cs => obtain ⟨k, k1, k2⟩ := u2; exact ⟨k, k1, h.repL hl k2⟩
  | .lz _ s, _, hv => ⟨fun hg => h.repS hl (s := s) (hv.1 hg), hv.2⟩
  | .so .., _, _ => trivial

theorem Ext.len (h : Ext Hc μ Hc' μ') (hd : ∀ i, getL Hc i ≠ some .dead) : Hc.length ≤ Hc'.length := by
  by_cases hz : Hc.length = 0
  · omega
  · have hlt : Hc.length - 1 < Hc.length := by omega
    have hg : getL Hc (Hc.length - 1) = some Hc[Hc.length - 1] := by rw [getL_eq]; simp
    cases ho : Hc[Hc.length - 1] with
    | vr cs =>
      rw [ho] at hg
      obtain ⟨⟨cs', h1⟩, _⟩ := h.1 _ cs hg
      have := getL_lt h1
      omega
    | arr e es n g =>
      rw [ho] at hg
      obtain ⟨n', g', h1, _⟩ := h.2.1 _ e es n g hg
      have := getL_lt h1
      omega
    | mp sh z va ks val =>
      rw [ho] at hg
      obtain ⟨⟨ks', val', h1⟩, _⟩ := h.2.2 _ sh z va ks val hg
      have := getL_lt h1
      omega
    | dead => rw [ho] at hg; exact absurd hg (hd _)

/-- The caller's object that is not the callee's, later. -/
theorem Fr.old (h : Fr H Hc rs) {a : Nat} {o : O} (ha : getL H a = some o) (hx : idx rs a = none) :
    getL (plug rs H Hc') a = some o ∧ plugM rs H.length μ μ' a = μ a := by
  have := getL_lt ha
  constructor
  · unfold plug
    rw [getL_append_lt' _ _ _ (by rw [plugK_len]; exact this), plugK_get, ha]
    simp only [Option.map_some, Nat.zero_add, hx]
  · simp only [plugM]
    rw [if_neg (by omega), hx]

theorem Fr.ext (h : Fr H Hc rs) (hl : Hc.length ≤ Hc'.length) (hE : Ext Hc (fun i => μ (rho rs i)) Hc' μ') : Ext H μ (plug rs H Hc') (plugM rs H.length μ μ') := by
  refine ⟨fun a cs ha => ?_, fun a e es n g ha => ?_, fun a sh z va ks val ha => ?_⟩
  · cases hx : idx rs a with
    | none =>
      obtain ⟨h1, h2⟩ := h.old (Hc' := Hc') (μ := μ) (μ' := μ') ha hx
      exact ⟨⟨cs, h1⟩, h2⟩
    | some i =>
      obtain ⟨k1, k2, k3, _⟩ := h.lt (idx_some hx)
      obtain ⟨cs', hc⟩ := h.wk.kind_vr (b := i) k1 (by rw [k3]; exact ha)
      obtain ⟨⟨cs'', h1⟩, h2⟩ := hE.1 i cs' hc
      obtain ⟨q1, q2⟩ := h.at (μ := μ) (μ' := μ') hl h1
      have hs : sg rs H.length i = a := by simp [sg, idx_some hx]
      rw [hs] at q1 q2
      exact ⟨⟨_, q1⟩, by rw [q2, h2]; show μ (rho rs i) = μ a; rw [k3]⟩
  · cases hx : idx rs a with
    | none =>
      obtain ⟨h1, h2⟩ := h.old (Hc' := Hc') (μ := μ) (μ' := μ') ha hx
      exact ⟨n, g, h1, Nat.le_refl _, fun _ => h2⟩
    | some i =>
      obtain ⟨k1, k2, k3, _⟩ := h.lt (idx_some hx)
      obtain ⟨g', hc⟩ := h.wk.kind_arr (b := i) k1 (by rw [k3]; exact ha)
      obtain ⟨n', g'', h1, h2, h3⟩ := hE.2.1 i e es n g' hc
      obtain ⟨q1, q2⟩ := h.at (μ := μ) (μ' := μ') hl h1
      have hs : sg rs H.length i = a := by simp [sg, idx_some hx]
      rw [hs] at q1 q2
      exact ⟨n', _, q1, h2, fun q => by rw [q2, h3 q]; show μ (rho rs i) = μ a; rw [k3]⟩
  · cases hx : idx rs a with
    | none =>
      obtain ⟨h1, h2⟩ := h.old (Hc' := Hc') (μ := μ) (μ' := μ') ha hx
      exact ⟨⟨ks, val, h1⟩, h2⟩
    | some i =>
      obtain ⟨k1, k2, k3, _⟩ := h.lt (idx_some hx)
      obtain ⟨ks', val', hc⟩ := h.wk.kind_mp (b := i) k1 (by rw [k3]; exact ha)
      obtain ⟨⟨ks'', val'', h1⟩, h2⟩ := hE.2.2 i sh z va ks' val' hc
      obtain ⟨q1, q2⟩ := h.at (μ := μ) (μ' := μ') hl h1
      have hs : sg rs H.length i = a := by simp [sg, idx_some hx]
      rw [hs] at q1 q2
      exact ⟨⟨_, _, q1⟩, by rw [q2, h2]; show μ (rho rs i) = μ a; rw [k3]⟩

theorem Fr.aside (h : Fr H Hc rs) (hw : HSat K F H μ w) : HSat (K.but H μ w rs) F Hc (fun i => μ (rho rs i)) w := by
  have hk := hw.wk h.wk
  refine ⟨hk.os, hk.tape, hk.output, hk.fr, fun b o hb => ?_, hk.ob, fun i b hb => ⟨(hk.sp i b hb).1, ?_⟩, hk.ij, fun b o hb => ?_⟩
  · simp only [Keep.but] at hb
    split at hb
    · exact hb
    · exact hk.kp b o hb
  · simp only [Keep.but]
    rw [if_neg]
    · exact (hk.sp i b hb).2
    · rintro ⟨id, h1, h2⟩
      obtain ⟨⟨o, o1, o2⟩, hbb⟩ := hb
      have hi := getL_lt o1
      obtain ⟨p, p1, p2⟩ := h.wk.ob i o o1
      have hown : owned H μ (rho rs i) b := ⟨⟨p, p1, fun e => by subst e; cases o with
        | dead => exact o2 rfl
        | vr => exact p2.elim
        | arr => exact p2.elim
        | mp => exact p2.elim⟩, hbb⟩
      have := hw.ij _ _ b h2 hown
      have hr : getL rs i = some (rho rs i) := by
        have : i < rs.length := by rw [h.len]; exact hi
        simp only [rho, getL_eq]
        simp [this]
      rw [← this] at hr
      exact idx_none h1 i hr
  · simp only [Keep.but]
    rw [if_neg]
    · exact hk.dj b o hb
    · rintro ⟨id, _, h2⟩
      rw [(hw.sp id b h2).1] at hb
      cases hb

theorem Fr.back (h : Fr H Hc rs) (hw : HSat K F H μ w) (hl : Hc.length ≤ Hc'.length) (hE : Ext Hc (fun i => μ (rho rs i)) Hc' μ') (hF : F.le F') (k : HSat (K.but H μ w rs) F' Hc' μ' w') : HSat K F' (plug rs H Hc') (plugM rs H.length μ μ') w' := by
  have hext := h.ext hl hE
  have ownK : ∀ id b, idx rs id = none → owned H μ id b → (K.but H μ w rs).mem b = w.heap[b]? := by
    intro id b h1 h2
    simp only [Keep.but]
    rw [if_pos ⟨id, h1, h2⟩]
  -- what an object of the whole is
  have split : ∀ a o, getL (plug rs H Hc') a = some o → (idx rs a = none ∧ getL H a = some o ∧ plugM rs H.length μ μ' a = μ a) ∨ ∃ j o', getL Hc' j = some o' ∧ a = sg rs H.length j ∧ o = reO (sg rs H.length) o' ∧ plugM rs H.length μ μ' a = μ' j := by
    intro a o ha
    by_cases hlt : a < H.length
    · have hg : getL H a = some H[a] := by rw [getL_eq]; simp [hlt]
      cases hx : idx rs a with
      | none =>
        obtain ⟨h1, h2⟩ := h.old (Hc' := Hc') (μ := μ) (μ' := μ') hg hx
        rw [h1] at ha
        cases ha
        exact .inl ⟨rfl, hg, h2⟩
      | some i =>
        obtain ⟨k1, k2, k3, _⟩ := h.lt (idx_some hx)
        have hi : getL Hc' i = some (Hc'[i]'(by omega)) := by rw [getL_eq]; simp
        obtain ⟨q1, q2⟩ := h.at (μ := μ) (μ' := μ') hl hi
        have hs : sg rs H.length i = a := by simp [sg, idx_some hx]
        rw [hs] at q1 q2
        rw [q1] at ha
        cases ha
        exact .inr ⟨i, _, hi, hs.symm, rfl, q2⟩
    · have hge : H.length ≤ a := by omega
      have hlen := getL_lt ha
      have hsz : (plug rs H Hc').length = H.length + (Hc'.length - rs.length) := by
        unfold plug
        rw [List.length_append, plugK_len, reHL_len, dropL_eq, List.length_drop]
      rw [hsz] at hlen
      have hj : a - H.length + rs.length < Hc'.length := by omega
      have hi : getL Hc' (a - H.length + rs.length) = some Hc'[a - H.length + rs.length] := by rw [getL_eq]; simp
      obtain ⟨q1, q2⟩ := h.at (μ := μ) (μ' := μ') hl hi
      have hs : sg rs H.length (a - H.length + rs.length) = a := by
        have : getL rs (a - H.length + rs.length) = none := by rw [getL_eq]; simp
        simp only [sg, this]
        omega
      rw [hs] at q1 q2
      rw [q1] at ha
      cases ha
      exact .inr ⟨_, _, hi, hs.symm, rfl, q2⟩
  have own : ∀ a b, owned (plug rs H Hc') (plugM rs H.length μ μ') a b → (idx rs a = none ∧ owned H μ a b) ∨ ∃ j, a = sg rs H.length j ∧ owned Hc' μ' j b := by
    intro a b ⟨⟨o, o1, o2⟩, hb⟩
    rcases split a o o1 with ⟨h1, h2, h3⟩ | ⟨j, o', h1, h2, h3, h4⟩
    · exact .inl ⟨h1, ⟨o, h2, o2⟩, by rw [← h3]; exact hb⟩
    · refine .inr ⟨j, h2, ⟨o', h1, fun e => o2 ?_⟩, by rw [← h4]; exact hb⟩
      subst e
      exact h3
  have apart : ∀ a j b, idx rs a = none → owned H μ a b → owned Hc' μ' j b → False := by
    intro a j b h1 h2 h3
    have := (k.sp j b h3).2
    rw [ownK a b h1 h2] at this
    obtain ⟨o, ho⟩ := owned_some hw h2
    rw [ho] at this
    cases this
  refine ⟨k.os, k.tape, k.output, k.fr, fun b o hb => k.kp b o ?_, fun a o ho => ?_, fun a b ho => ?_, fun a a' b ho ho' => ?_, fun b o hb => ?_⟩
  · simp only [Keep.but]
    rw [if_neg]
    · exact hb
    · rintro ⟨id, _, hid⟩
      rw [(hw.sp id b hid).2] at hb
      cases hb
  · rcases split a o ho with ⟨h1, h2, h3⟩ | ⟨j, o', h1, h2, h3, h4⟩
    · have := hw.ob a o h2
      cases o with
      | vr cs =>
        obtain ⟨b, c, T, q1, q2, q3⟩ := this
        have hb : owned H μ a b := ⟨⟨_, h2, by simp⟩, by rw [q1]; rfl⟩
        exact ⟨b, c, T, by rw [h3]; exact q1, k.kp b _ (by rw [ownK a b h1 hb]; exact q2), q3.mono hF hext⟩
      | arr e es n g =>
        obtain ⟨xs, q1, q2, q3, q4⟩ := this
        refine ⟨xs, ?_, q2, fun i hi j hj => ?_, by rw [h3]; exact q4.kept q1 fun b o hb ho' => k.kp b _ (by rw [ownK a b h1 ⟨⟨_, h2, by simp⟩, hb⟩]; exact ho')⟩
        · rw [h3]
          refine ⟨q1.1, ?_⟩
          rcases q1.2 with q | ⟨g', cap, cur, q, r2, r3, rest⟩
          · exact .inl q
          · have hb : owned H μ a g' := ⟨⟨_, h2, by simp⟩, by rw [q]; rfl⟩
            exact .inr ⟨g', cap, cur, q, r2, k.kp g' _ (by rw [ownK a g' h1 hb]; exact r3), rest⟩
        · obtain ⟨v, v1, v2⟩ := q3 i hi j hj
          exact ⟨v, v1, RepC.mono hF hext _ _ v2⟩
      | dead => trivial
      | mp sh z va ks val =>
        obtain ⟨b, es, ck, q1, q2, q3⟩ := this
        have hb : owned H μ a b := ⟨⟨_, h2, by simp⟩, by rw [q1]; rfl⟩
        exact ⟨b, es, ck, by rw [h3]; exact q1, k.kp b _ (by rw [ownK a b h1 hb]; exact q2), q3.1.mono hF, q3.2⟩
    · have := k.ob j o' h1
      subst h3
      cases o' with
      | vr cs =>
        obtain ⟨b, c, T, q1, q2, q3⟩ := this
        exact ⟨b, c, T, by rw [h4]; exact q1, q2, h.repL hl q3⟩
      | arr e es n g =>
        obtain ⟨xs, q1, q2, q3, q4⟩ := this
        refine ⟨xs, by rw [h4]; exact q1, q2, fun i hi j hj => ?_, by rw [h4]; exact q4⟩
        obtain ⟨v, v1, v2⟩ := q3 i hi j hj
        exact ⟨v, v1, h.repC hl _ v v2⟩
      | dead => trivial
      | mp sh z va ks val =>
        obtain ⟨b, es, ck, q1, q2, q3⟩ := this
        exact ⟨b, es, ck, by rw [h4]; exact q1, q2, q3⟩
  · rcases own a b ho with ⟨h1, h2⟩ | ⟨j, h1, h2⟩
    · refine ⟨?_, (hw.sp a b h2).2⟩
      cases hf : F' b with
      | none => rfl
      | some o =>
        have := k.dj b o hf
        rw [ownK a b h1 h2] at this
        obtain ⟨o', ho'⟩ := owned_some hw h2
        rw [ho'] at this
        cases this
    · refine ⟨(k.sp j b h2).1, ?_⟩
      have := (k.sp j b h2).2
      simp only [Keep.but] at this
      split at this
      · rename_i hid
        obtain ⟨id, _, hid⟩ := hid
        exact (hw.sp id b hid).2
      · exact this
  · rcases own a b ho with ⟨h1, h2⟩ | ⟨j, h1, h2⟩
    · rcases own a' b ho' with ⟨h1', h2'⟩ | ⟨j', h1', h2'⟩
      · exact hw.ij a a' b h2 h2'
      · exact (apart a j' b h1 h2 h2').elim
    · rcases own a' b ho' with ⟨h1', h2'⟩ | ⟨j', h1', h2'⟩
      · exact (apart a' j b h1' h2' h2).elim
      · rw [h1, h1', k.ij j j' b h2 h2']
  · have := k.dj b o hb
    simp only [Keep.but] at this
    split at this
    · rename_i hid
      obtain ⟨id, _, hid⟩ := hid
      exact (hw.sp id b hid).2
    · exact this

def wkA (ρ : Nat → Nat) (n : Nat) : List S → List S → Prop
  | [], [] => True
  | s :: r, s' :: r' => wkS ρ n s s' ∧ wkA ρ n r r'
  | _, _ => False

theorem wkA_ok {ρ : Nat → Nat} {H H' : List O} (h : HWk ρ H H') {F : Mem} {μ : Nat → Value} : ∀ {l l' : List S}, wkA ρ H'.length l l' → ∀ {vs : Array Value} {o : Nat}, (∀ (j : Nat) s, getL l j = some s → ∃ v, vs[o + j]? = some v ∧ RepS F H μ s v) →
    l.length = l'.length ∧ ∀ (j : Nat) s, getL l' j = some s → ∃ v, vs[o + j]? = some v ∧ RepS F H' (fun i => μ (ρ i)) s v
  | [], [], _, _, _, _ => ⟨rfl, fun j s h => by simp [getL] at h⟩
  | s :: r, s' :: r', ⟨h2, h3⟩, vs, o, hh => by
    obtain ⟨k1, k2⟩ := wkA_ok h (o := o + 1) h3 (fun j t ht => by
      obtain ⟨v, v1, v2⟩ := hh (j + 1) t (by simpa [getL] using ht)
      exact ⟨v, by rw [← v1]; congr 1; omega, v2⟩)
    refine ⟨by simp [k1], fun j t ht => ?_⟩
    cases j with
    | zero =>
      simp only [getL, Option.some.injEq] at ht
      subst ht
      obtain ⟨v, v1, v2⟩ := hh 0 s rfl
      exact ⟨v, v1, wkS_ok h s s' h2 v v2⟩
    | succ j =>
      simp only [getL] at ht
      obtain ⟨v, v1, v2⟩ := k2 j t ht
      exact ⟨v, by rw [← v1]; congr 1; omega, v2⟩
  | [], _ :: _, h, _, _, _ => h.elim
  | _ :: _, [], h, _, _, _ => h.elim

/-- A call by a contract that was proved beside fewer objects, under other numbers. -/
theorem CSpec.frame {P : Program} {f : FuncId} {args args' : List S} {H Hc : List O} {Q : S → List O → Prop} (hc : CSpec P f args' Hc Q) (rs : List Nat) (h : Fr H Hc rs) (hd : ∀ i, getL Hc i ≠ some .dead) (ha : wkA (rho rs) Hc.length args args') {k : S → List O → Prop}
    (hk : ∀ s Hc', Q s Hc' → k (reS (sg rs H.length) s) (plug rs H Hc')) : CSpec P f args H k := by
  intro K F μ w vs hw hA
  obtain ⟨l1, l2⟩ := wkA_ok h.wk (o := 0) ha (fun j s hs => by simpa using hA.2 j s hs)
  refine (hc (K.but H μ w rs) F (fun i => μ (rho rs i)) w vs (h.aside hw) ⟨hA.1.trans l1, fun j s hs => by simpa using l2 j s hs⟩).mono ?_
  rintro e w' ⟨v, F', μ', s, Hc', rfl, h1, h2, h3, h4, h5⟩
  have hl := h3.len hd
  exact ⟨v, F', plugM rs H.length μ μ', _, _, rfl, h1, h.back hw hl h3 h1 h2, h.ext hl h3, h.repS hl h4, hk s Hc' h5⟩

theorem Fr.nil : Fr H [] [] := ⟨rfl, ⟨fun i o' h => by simp [getL] at h, fun i j h => by simp at h⟩⟩

/-- A call by a contract that was proved beside nothing. -/
theorem CSpec.opens {P : Program} {f : FuncId} {args args' : List S} {H : List O} {Q : S → List O → Prop} (hc : CSpec P f args' [] Q) (ha : leA args args') {k : S → List O → Prop}
    (hk : ∀ s Hc', Q s Hc' → k (reS (sg [] H.length) s) (plug [] H Hc')) : CSpec P f args H k := by
  intro K F μ w vs hw hA
  obtain ⟨l1, l2⟩ := leA_ok (o := 0) ha (fun j s hs => by simpa using hA.2 j s hs)
  have k0 := (Fr.nil (H := H)).aside hw
  have k1 : HSat (K.but H μ w []) F [] μ w := ⟨k0.os, k0.tape, k0.output, k0.fr, k0.kp, fun id o ho => by simp [getL] at ho, fun id b ⟨⟨o, ho, _⟩, _⟩ => by simp [getL] at ho, fun id id' b ⟨⟨o, ho, _⟩, _⟩ => by simp [getL] at ho, k0.dj⟩
  refine (hc (K.but H μ w []) F μ w vs k1 ⟨hA.1.trans l1, fun j s hs => by simpa using l2 j s hs⟩).mono ?_
  rintro e w' ⟨v, F', μ', s, Hc', rfl, h1, h2, h3, h4, h5⟩
  have hl : ([] : List O).length ≤ Hc'.length := Nat.zero_le _
  have h3' : Ext [] (fun i => μ (rho [] i)) Hc' μ' := ⟨fun _ _ hc => by simp [getL] at hc, fun _ _ _ _ _ hc => by simp [getL] at hc, fun _ _ _ _ _ _ hc => by simp [getL] at hc⟩
  exact ⟨v, F', plugM [] H.length μ μ', _, _, rfl, h1, Fr.nil.back hw hl h3' h1 h2, Fr.nil.ext hl h3', Fr.nil.repS hl h4, hk s Hc' h5⟩

end
end Go.Am
end

section
/- THE ABSTRACT MACHINE, PART 23: a call that only reads, and whose result has no memory. -/
namespace Go.Am

def C.flat : C → Bool
  | .junk => true
  | .bool _ => true
  | .int _ _ => true
  | .str _ => true
  | .nilp => true
  | .nilfn => true
  | .nils => true
  | .nilm => true
  | .isl es _ _ _ => Nat.beq es 0
  | _ => false

def E.flat : C ⊕ List C → Bool
  | .inl y => y.flat
  | .inr ys => ys.all C.flat

def S.flat : S → Bool
  | .u => true
  | .c x => x.flat
  | .a xs => xs.all C.flat
  | .t l => l.all E.flat
  | .lz _ s => s.flat
  | .so .. => false

theorem flatC {F F' : Mem} {H H' : List O} {μ μ' : Nat → Value} {c : C} (hc : c.flat = true) {v : Value} (h : RepC F H μ c v) : RepC F' H' μ' c v := by
  cases c with
  | isl es n g t =>
    have : es = 0 := Nat.eq_of_beq_eq_true hc
    subst this
    obtain ⟨a, cap, h1, h2, h3, h4, h5, h6⟩ := h
    refine ⟨a, cap, h1, h2, h3, h4, h5, ?_⟩
    rcases h6 with h6 | ⟨b, off, h7, _⟩
    · exact .inl h6
    · exact .inr ⟨b, off, h7, fun i _ j hj => absurd hj (Nat.not_lt_zero j)⟩
  | _ => first | exact h | exact absurd hc (by simp [C.flat])
theorem flatL {F F' : Mem} {H H' : List O} {μ μ' : Nat → Value} {xs : List C} (hc : xs.all C.flat = true) {cs : Array Value} (h : RepL F H μ xs cs) : RepL F' H' μ' xs cs :=
  ⟨h.1, fun j x hx => let ⟨v, v1, v2⟩ := h.2 j x hx; ⟨v, v1, flatC (all_get hc hx) v2⟩⟩
theorem flatS {F F' : Mem} {H H' : List O} {μ μ' : Nat → Value} : ∀ {s : S}, s.flat = true → ∀ {v : Value}, RepS F H μ s v → RepS F' H' μ' s v
  | .u, _, _, _ => trivial
  | .c _, hc, _, h => flatC hc h
  | .a _, hc, _, ⟨cs, h1, h2⟩ => ⟨cs, h1, flatL hc h2⟩
  | .t l, hc, _, ⟨vs, h1, h2, h3⟩ => ⟨vs, h1, h2, fun j x hx => by
      obtain ⟨u, u1, u2⟩ := h3 j x hx
      refine ⟨u, u1, ?_⟩
      have := all_get (p := E.flat) hc hx
      cases x with
      | inl c => exact flatC this u2
      | inr cs => obtain ⟨k, k1, k2⟩ := u2; exact ⟨k, k1, flatL this k2⟩⟩
  | .lz _ s, hc, _, h => ⟨fun hg => flatS (s := s) hc (h.1 hg), h.2⟩
  | .so .., hc, _, _ => by cases hc

/-- Of a slice, no more than its length. -/
theorem leF_len {es n : Nat} {g : Nat → Nat → C} {t : Bool} : ∀ F v, RepF F (.isl es n g t) v → RepF F (.isl 0 n (fun _ _ => .junk) false) v := by
  intro F v ⟨a, cap, h1, h2, h3, h4, h5, h6⟩
  refine ⟨a, cap, h1, h2, h3, fun e => (by cases e), h5, ?_⟩
  rcases h6 with h6 | ⟨b, off, h7, _⟩
  · exact .inl h6
  · exact .inr ⟨b, off, h7, fun i _ j hj => absurd hj (Nat.not_lt_zero j)⟩
theorem PSpec.len {P : Program} {f : FuncId} {args : List S} {es n : Nat} {g : Nat → Nat → C} {t : Bool} (h : PSpec P f args (.c (.isl es n g t))) : PSpec P f args (.c (.isl 0 n (fun _ _ => .junk) false)) :=
  h.le rfl ⟨rfl, leF_len⟩

def heapM (w : World) : Mem := fun b => w.heap[b]?

/-- A cell beside tracked objects, when all memory is taken for frozen. -/
def Bw (H : List O) (c c' : C) : Prop := ∀ K F μ w v, HSat K F H μ w → RepC F H μ c v → RepF (heapM w) c' v

theorem Bw.imm {H : List O} {c c' : C} (h : c.imm = true) (h' : c'.imm = true) (hw : wkC idN 0 c c') : Bw H c c' := by
  intro K F μ w v hs hv
  have hle : F.le (heapM w) := fun b o hb => hs.fr b o hb
  have h1 : RepC F [] μ c v := immC h hv
  have h2 := wkC_ok HWk.nil c c' hw v h1
  exact (imm_rep h' h2).mono hle

theorem Bw.same {H : List O} {c : C} (h : c.imm = true) : Bw H c c := Bw.imm h h (wkC.imm h)

theorem Bw.sl {H : List O} {id es l t e n : Nat} {x x' : Bool} {g g' : Nat → Nat → C} (hid : getL H id = some (.arr e es n g)) (ht : t = n) (hg : ∀ i, i < l → ∀ j, j < es → Bw H (g i j) (g' i j)) (hx : x' = true → x = true ∧ l = n) :
    Bw H (.sl id es l t x) (.isl es l g' x') := by
  subst ht
  intro K F μ w v hw hv
  obtain ⟨h0, e', n', g'', h1, h2, h3, h4⟩ := hv
  rw [hid] at h1
  cases h1
  obtain ⟨a', cap, q1, q2, q3⟩ := h4 rfl
  obtain ⟨xs, ⟨r1, r2⟩, r3, r4, r5⟩ := hw.ob id _ hid
  rcases r2 with ⟨s1, s2⟩ | ⟨b, cap', cur, s1, _, s3, s4, s5, s6, s7⟩
  · rw [q1] at s1
    cases s1
    exact ⟨none, 0, q2, by omega, by omega, fun _ => by omega, fun _ => rfl, .inl (by omega)⟩
  · rw [q1] at s1
    cases s1
    refine ⟨_, _, q2, by omega, by omega, fun q => ?_, fun q => (by cases q), .inr ⟨b, 0, rfl, fun i hi j hj => ?_⟩⟩
    · obtain ⟨hx1, hx2⟩ := hx q
      rw [q3 hx1, hx2]
    · obtain ⟨y, y1, y2⟩ := r4 i (by omega) j hj
      have hlt : i * es + j < t * es := Nat.lt_of_lt_of_le (show i * es + j < (i + 1) * es by rw [Nat.add_mul]; omega) (Nat.mul_le_mul_right es (by omega))
      refine ⟨y, ?_, hg i hi j hj K F μ w y hw y2⟩
      simp only [Mem.cell, heapM, s3]
      simp only [Nat.zero_add]
      rw [← s7] at y1
      rw [List.getElem?_take_of_lt (by simpa using hlt)] at y1
      simpa using y1

theorem Bw.ptr {H : List O} {id off n : Nat} {cs : List C} {g : Nat → C} (hid : getL H id = some (.vr cs)) (hg : ∀ j, j < n → ∃ c, getL cs (off + j) = some c ∧ Bw H c (g j)) : Bw H (.ptr id off) (.ip n g) := by
  intro K F μ w v hw hv
  obtain ⟨_, b, h2, h3⟩ := hv
  obtain ⟨b', c, T, q1, q2, q3⟩ := hw.ob id _ hid
  rw [h2] at q1
  cases q1
  refine ⟨b, off, h3, fun j hj => ?_⟩
  obtain ⟨x, x1, x2⟩ := hg j hj
  obtain ⟨u, u1, u2⟩ := q3.2 _ x x1
  refine ⟨u, ?_, x2 K F μ w u hw u2⟩
  simp only [Mem.cell, heapM, q2]
  exact u1

def BwL (H : List O) : List C → List C → Prop
  | [], [] => True
  | c :: r, c' :: r' => Bw H c c' ∧ BwL H r r'
  | _, _ => False

theorem BwL_get {H : List O} : ∀ {xs ys : List C}, BwL H xs ys → xs.length = ys.length ∧ ∀ (j : Nat) x y, getL xs j = some x → getL ys j = some y → Bw H x y
  | [], [], _ => ⟨rfl, fun j x y h => by simp [getL] at h⟩
  | x :: r, y :: r', h => by
    obtain ⟨h1, h2⟩ := BwL_get h.2
    refine ⟨by simp [h1], fun j a b ha hb => ?_⟩
    cases j with
    | zero => simp only [getL, Option.some.injEq] at ha hb; subst ha; subst hb; exact h.1
    | succ j => simp only [getL] at ha hb; exact h2 j a b ha hb
  | [], _ :: _, h => h.elim
  | _ :: _, [], h => h.elim

/-- A slot's value. -/
def BwS (H : List O) : S → S → Prop
  | .c x, .c y => Bw H x y
  | .a xs, .a ys => BwL H xs ys
  | _, _ => False

def BwA (H : List O) : List S → List S → Prop
  | [], [] => True
  | s :: r, s' :: r' => BwS H s s' ∧ BwA H r r'
  | _, _ => False

theorem BwS_ok {H : List O} {K : Keep} {F : Mem} {μ : Nat → Value} {w : World} (hw : HSat K F H μ w) : ∀ {s s' : S}, BwS H s s' → ∀ {v : Value}, RepS F H μ s v → RepS (heapM w) [] μ s' v
  | .c x, .c y, h, v, hv => RepF.toC _ _ y v (h K F μ w v hw hv)
  | .a xs, .a ys, h, _, ⟨cs, h1, h2⟩ => by
    obtain ⟨k1, k2⟩ := BwL_get h
    refine ⟨cs, h1, h2.1.trans k1, fun j y hy => ?_⟩
    have hj := getL_lt hy
    have hx : getL xs j = some (xs[j]'(by omega)) := by rw [getL_eq]; simp
    obtain ⟨v, v1, v2⟩ := h2.2 j _ hx
    exact ⟨v, v1, RepF.toC _ _ y v (k2 j _ y hx hy K F μ w v hw v2)⟩
  | .u, _, h, _, _ => h.elim
  | .t _, _, h, _, _ => h.elim
  | .lz _ _, _, h, _, _ => h.elim
  | .so .., _, h, _, _ => h.elim
  | .c _, .so .., h, _, _ => h.elim
  | .a _, .so .., h, _, _ => h.elim
  | .c _, .u, h, _, _ => h.elim
  | .c _, .a _, h, _, _ => h.elim
  | .c _, .t _, h, _, _ => h.elim
  | .c _, .lz _ _, h, _, _ => h.elim
  | .a _, .u, h, _, _ => h.elim
  | .a _, .c _, h, _, _ => h.elim
  | .a _, .t _, h, _, _ => h.elim
  | .a _, .lz _ _, h, _, _ => h.elim

theorem BwA_ok {H : List O} {K : Keep} {F : Mem} {μ : Nat → Value} {w : World} (hw : HSat K F H μ w) : ∀ {l l' : List S}, BwA H l l' → ∀ {vs : Array Value} {o : Nat}, (∀ (j : Nat) s, getL l j = some s → ∃ v, vs[o + j]? = some v ∧ RepS F H μ s v) →
    l.length = l'.length ∧ ∀ (j : Nat) s, getL l' j = some s → ∃ v, vs[o + j]? = some v ∧ RepS (heapM w) [] μ s v
  | [], [], _, _, _, _ => ⟨rfl, fun j s h => by simp [getL] at h⟩
  | s :: r, s' :: r', ⟨h2, h3⟩, vs, o, hh => by
    obtain ⟨k1, k2⟩ := BwA_ok hw (o := o + 1) h3 (fun j t ht => by
      obtain ⟨v, v1, v2⟩ := hh (j + 1) t (by simpa [getL] using ht)
      exact ⟨v, by rw [← v1]; congr 1; omega, v2⟩)
    refine ⟨by simp [k1], fun j t ht => ?_⟩
    cases j with
    | zero =>
      simp only [getL, Option.some.injEq] at ht
      subst ht
      obtain ⟨v, v1, v2⟩ := hh 0 s rfl
      exact ⟨v, v1, BwS_ok hw h2 v2⟩
    | succ j =>
      simp only [getL] at ht
      obtain ⟨v, v1, v2⟩ := k2 j t ht
      exact ⟨v, by rw [← v1]; congr 1; omega, v2⟩
  | [], _ :: _, h, _, _, _ => h.elim
  | _ :: _, [], h, _, _, _ => h.elim

theorem HSat.later {K : Keep} {F : Mem} {H : List O} {μ : Nat → Value} {w w' : World} (hw : HSat K F H μ w) (h1 : w'.os = w.os) (h2 : w'.tape = w.tape) (h3 : w'.output = w.output) (h4 : ∀ (b : Nat) (o : Obj), w.heap[b]? = some o → w'.heap[b]? = some o) : HSat K F H μ w' := by
  refine ⟨h1.trans hw.os, h2.trans hw.tape, h3.trans hw.output, fun b o hb => h4 b o (hw.fr b o hb), fun b o hb => h4 b o (hw.kp b o hb), fun id o ho => ?_, hw.sp, hw.ij, hw.dj⟩
  have := hw.ob id o ho
  cases o with
  | vr cs =>
    obtain ⟨b, c, T, q1, q2, q3⟩ := this
    exact ⟨b, c, T, q1, h4 _ _ q2, q3⟩
  | arr e es n g =>
    obtain ⟨xs, ⟨q1, q2⟩, q3, q4, q5⟩ := this
    refine ⟨xs, ⟨q1, ?_⟩, q3, q4, q5.kept ⟨q1, q2⟩ fun b o _ hb => h4 b o hb⟩
    rcases q2 with q | ⟨g', cap, cur, q, r2, r3, rest⟩
    · exact .inl q
    · exact .inr ⟨g', cap, cur, q, r2, h4 _ _ r3, rest⟩
  | dead => trivial
  | mp sh z va ks val =>
    obtain ⟨b, es, ck, q1, q2, q3⟩ := this
    exact ⟨b, es, ck, q1, h4 _ _ q2, q3⟩

/-- A call that only reads. -/
theorem CSpec.reads {P : Program} {f : FuncId} {args args' : List S} {r : S} {H : List O} (hp : PSpec P f args' r) (ha : BwA H args args') (hr : r.flat = true) {k : S → List O → Prop} (hk : k r H) : CSpec P f args H k := by
  intro K F μ w vs hw hA
  obtain ⟨l1, l2⟩ := BwA_ok hw (o := 0) ha (fun j s hs => by simpa using hA.2 j s hs)
  have hw0 : HSat { K with mem := fun _ => none } (heapM w) [] μ w :=
    ⟨hw.os, hw.tape, hw.output, fun b o hb => hb, fun b o hb => (by cases hb), fun id o ho => by simp [getL] at ho, fun id b ⟨⟨o, ho, _⟩, _⟩ => by simp [getL] at ho, fun id id' b ⟨⟨o, ho, _⟩, _⟩ => by simp [getL] at ho, fun _ _ _ => rfl⟩
  refine (hp _ (heapM w) μ w vs hw0 ⟨hA.1.trans l1, fun j s hs => by simpa using l2 j s hs⟩).mono ?_
  rintro e w' ⟨v, F', μ', s, H', rfl, h1, h2, h3, h4, rfl⟩
  exact ⟨v, F, μ, s, H, rfl, Mem.le_refl F, hw.later (h2.os.trans hw.os.symm) (h2.tape.trans hw.tape.symm) (h2.output.trans hw.output.symm) (fun b o hb => h2.fr b o (h1 b o hb)), Ext.refl H μ, flatS hr h4, hk⟩

theorem CallN.reads {X : Cx} {f : FuncId} {args args' : List S} {r : S} {dst : Option Tmp} {ts : Ts} {H : List O} (hb : HasBody X.P f) (hp : PSpec X.P f args' r) (ha : BwA H args args') (hr : r.flat = true) {k : Ts → List O → Prop}
    (hk : forceS r fun s' => putK X.nt dst s' ts fun ts' => k ts' H) : CallN X f args dst ts H k :=
  CallN.spec hb (CSpec.reads hp ha hr (by rw [forceH_eq]; exact hk))

theorem CallG.reads {P : Program} {g : Bool} {f : FuncId} {args args' : List S} {r : S} {H : List O} (hb : HasBody P f) (hp : g = true → PSpec P f args' r) (ha : g = true → BwA H args args') (hr : r.flat = true) {k : S → List O → Prop} (hk : k r H) : CallG P g f args H k :=
  CallG.mk r (fun hg => ⟨hb, CSpec.reads (hp hg) (ha hg) hr ⟨rfl, rfl⟩⟩) hk


theorem fzC_sl {id n es l t : Nat} {x : Bool} {g : Nat → Nat → C} (ht : t = n) : fzC id n g (.sl id es l t x) = .isl es l g (Nat.beq l t && x) := by
  subst ht
  have h1 : Nat.beq id id = true := Nat.beq_refl id
  have h2 : Nat.beq t t = true := Nat.beq_refl t
  simp only [fzC, h1, h2]

theorem wkC.fz {ρ : Nat → Nat} {m id n es l t l' : Nat} {x x' : Bool} {g g' : Nat → Nat → C} (ht : t = n) (hl : l = l') (hg : ∀ i, i < l → ∀ j, j < es → leF (g i j) (g' i j)) (hx : x' = true → x = true ∧ l = t) :
    wkC ρ m (fzC id n g (.sl id es l t x)) (.isl es l' g' x') := by
  rw [fzC_sl ht]
  refine wkC.isl' (leF.isl hl hg fun e => ?_)
  obtain ⟨h1, h2⟩ := hx e
  subst h2
  rw [Nat.beq_refl, h1]; rfl

/-- The array is frozen ahead of a call; what is needed afterwards is listed. -/
theorem CallN.fzTo {X : Cx} {f : FuncId} {args args' : List S} {dst : Option Tmp} {ts ts' : Ts} {H H' : List O} {k : Ts → List O → Prop} {e es n : Nat} {g : Nat → Nat → C} (id : Nat) (hid : getL H id = some (.arr e es n g)) (hn : X.n0 ≤ id)
    (him : ∀ i, i < n → ∀ j, j < es → (g i j).imm = true) (m : Nat) (hm : H'.length = m) (hH : HWkL idN m (fzH id n g H) H') (ht : wkT idN m (fzT id n g ts) ts') (ha : wkA idN m (fzA id n g args) args') (h0 : X.n0 ≤ m)
    (h : CallN X f args' dst ts' H' k) : CallN X f args dst ts H k := by
  refine CallN.fz id hid hn him ?_
  subst hm
  obtain ⟨h1, h2⟩ := h.out
  have hk : HWk idN (fzH id n g H) H' := ⟨fun i o' hi => HWkL_get hH i o' hi, fun i j _ _ e => e⟩
  refine ⟨h1, fun K F0 H0 μ0 F μ a w vs hs hA => ?_⟩
  obtain ⟨l1, l2⟩ := wkA_ok hk (o := 0) ha (fun j s hs => by simpa using hA.2 j s hs)
  exact h2 K F0 H0 μ0 F (fun i => μ (idN i)) a w vs (hs.wk ⟨hk, ht, h0⟩) ⟨hA.1.trans l1, fun j s hs => by simpa using l2 j s hs⟩


/-- A call by a contract that was proved beside nothing; what is there afterwards is said. -/
theorem CallN.opens {X : Cx} {f : FuncId} {args args' : List S} {dst : Option Tmp} {ts : Ts} {H : List O} {Q : S → List O → Prop} (hb : HasBody X.P f) (hc : CSpec X.P f args' [] Q) (ha : leA args args') {k : Ts → List O → Prop}
    (hk : ∀ s Hc', Q s Hc' → ∃ s'' H'', reS (sg [] H.length) s = s'' ∧ plug [] H Hc' = H'' ∧ forceH H'' fun H1 => forceS s'' fun s' => putK X.nt dst s' ts fun ts' => k ts' H1) : CallN X f args dst ts H k := by
  refine CallN.spec hb (CSpec.opens hc ha fun s Hc' hq => ?_)
  obtain ⟨s'', H'', rfl, rfl, h⟩ := hk s Hc' hq
  exact h

/-- A call by a contract that was proved beside fewer objects; what is there afterwards is said. -/
theorem CallN.frame {X : Cx} {f : FuncId} {args args' : List S} {dst : Option Tmp} {ts : Ts} {H Hc : List O} {Q : S → List O → Prop} (hb : HasBody X.P f) (hc : CSpec X.P f args' Hc Q) (rs : List Nat) (h : Fr H Hc rs) (hd : ∀ i, getL Hc i ≠ some .dead)
    (ha : wkA (rho rs) Hc.length args args') {k : Ts → List O → Prop}
    (hk : ∀ s Hc', Q s Hc' → ∃ s'' H'', reS (sg rs H.length) s = s'' ∧ plug rs H Hc' = H'' ∧ forceH H'' fun H1 => forceS s'' fun s' => putK X.nt dst s' ts fun ts' => k ts' H1) : CallN X f args dst ts H k := by
  refine CallN.spec hb (CSpec.frame hc rs h hd ha fun s Hc' hq => ?_)
  obtain ⟨s'', H'', rfl, rfl, h⟩ := hk s Hc' hq
  exact h

theorem CallN.imp {X : Cx} {f : FuncId} {args : List S} {dst : Option Tmp} {ts : Ts} {H : List O} {k k' : Ts → List O → Prop} (h : CallN X f args dst ts H k) (hk : ∀ ts' H', k ts' H' → k' ts' H') : CallN X f args dst ts H k' := by
  obtain ⟨h1, h2⟩ := h.out
  refine ⟨h1, fun K F0 H0 μ0 F μ a w vs hs hA => (h2 K F0 H0 μ0 F μ a w vs hs hA).mono ?_⟩
  rintro e w' ⟨v, rfl, ts', H', F', μ', p1, p2⟩
  exact ⟨v, rfl, ts', H', F', μ', hk _ _ p1, p2⟩


/-- One array of the call's own is left. -/
theorem RM.ren1 {s s' : S} {H : List O} {e es n n' : Nat} {g g' : Nat → Nat → C} (id : Nat) (hid : getL H id = some (.arr e es n g)) (hn : n = n') (hg : ∀ i, i < n → ∀ j, j < es → wkC (fun _ => id) 1 (g i j) (g' i j)) (hs : wkS (fun _ => id) 1 s s') : RM 0 s H s' [.arr e es n' g'] := by
  refine RM.ren (fun _ => id) 1 rfl ⟨?_, ?_⟩ hs
  · intro i o' hi
    match i with
    | 0 =>
      simp only [getL, Option.some.injEq] at hi
      subst hi
      exact ⟨_, hid, O.wk.arr hn hg⟩
    | i + 1 => simp [getL] at hi
  · intro i j hi hj _
    simp only [List.length_cons, List.length_nil] at hi hj
    omega

theorem wkC.own {id es l t l' t' : Nat} {x x' : Bool} (hl : l = l') (ht : t = t') (hx : x' = true → x = true) : wkC (fun _ => id) 1 (.sl id es l t x) (.sl 0 es l' t' x') := ⟨rfl, rfl, hl, ht, by decide, hx⟩


theorem Bw.leF {H : List O} {c c' : C} (h : c.imm = true) (hl : Am.leF c c') : Bw H c c' := by
  intro K F μ w v hs hv
  exact hl (heapM w) v ((imm_rep h hv).mono fun b o hb => hs.fr b o hb)
theorem BwA.nil {H : List O} : BwA H [] [] := trivial
theorem BwA.cons {H : List O} {s s' : S} {r r' : List S} (h : BwS H s s') (k : BwA H r r') : BwA H (s :: r) (s' :: r') := ⟨h, k⟩
theorem BwS.a {H : List O} {xs ys : List C} (h : BwL H xs ys) : BwS H (.a xs) (.a ys) := h
theorem BwS.c {H : List O} {x y : C} (h : Bw H x y) : BwS H (.c x) (.c y) := h
theorem BwL.nil {H : List O} : BwL H [] [] := trivial
theorem BwL.cons {H : List O} {s s' : C} {r r' : List C} (h : Bw H s s') (k : BwL H r r') : BwL H (s :: r) (s' :: r') := ⟨h, k⟩


theorem Fr.one {H : List O} {o o' : O} (id : Nat) (hid : getL H id = some o) (hw : O.wk (rho [id]) 1 o o') : Fr H [o'] [id] := by
  refine ⟨rfl, ⟨fun i x hi => ?_, fun i j hi hj _ => ?_⟩⟩
  · match i with
    | 0 =>
      simp only [getL, Option.some.injEq] at hi
      subst hi
      exact ⟨o, hid, hw⟩
    | i + 1 => simp [getL] at hi
  · simp only [List.length_cons, List.length_nil] at hi hj
    omega

theorem wkA.nil {ρ : Nat → Nat} {n : Nat} : wkA ρ n [] [] := trivial
theorem wkA.cons {ρ : Nat → Nat} {n : Nat} {s s' : S} {r r' : List S} (h : wkS ρ n s s') (k : wkA ρ n r r') : wkA ρ n (s :: r) (s' :: r') := ⟨h, k⟩
theorem wkC.ep1 {id i i' j j' t t' : Nat} (hi : i = i') (hj : j = j') (ht : t = t') : wkC (rho [id]) 1 (.ep id i j t) (.ep 0 i' j' t') := ⟨rfl, hi, hj, ht, by decide⟩
theorem wkC.sl1 {id es l t l' t' : Nat} {x x' : Bool} (hl : l = l') (ht : t = t') (hx : x' = true → x = true) : wkC (rho [id]) 1 (.sl id es l t x) (.sl 0 es l' t' x') := ⟨rfl, rfl, hl, ht, by decide, hx⟩

/-- A call that has one of the arrays. -/
theorem CallN.frame1 {X : Cx} {f : FuncId} {args args' : List S} {dst : Option Tmp} {ts : Ts} {H : List O} {e es n : Nat} {g g' : Nat → Nat → C} {Q : S → List O → Prop} (hb : HasBody X.P f) (hc : CSpec X.P f args' [.arr e es n g'] Q) (id : Nat)
    (hid : getL H id = some (.arr e es n g)) (hg : ∀ i, i < n → ∀ j, j < es → wkC (rho [id]) 1 (g i j) (g' i j)) (ha : wkA (rho [id]) 1 args args') {k : Ts → List O → Prop}
    (hk : ∀ s Hc', Q s Hc' → ∃ s'' H'', reS (sg [id] H.length) s = s'' ∧ plug [id] H Hc' = H'' ∧ forceH H'' fun H1 => forceS s'' fun s' => putK X.nt dst s' ts fun ts' => k ts' H1) : CallN X f args dst ts H k :=
  CallN.frame hb hc [id] (Fr.one id hid (O.wk.arr rfl hg)) (fun i hi => by
    match i with
    | 0 => simp [getL] at hi
    | i + 1 => simp [getL] at hi) ha hk


theorem AW.mv {X : Cx} {c : Code} {ts ts' : Ts} {H H' : List O} {k : Kp} (hm : Mv X ts H ts' H') (h : AW X c ts' H' k) : AW X c ts H k := by
  intro K F0 H0 μ0 F μ a w hs
  obtain ⟨F', μ', hs'⟩ := hm K F0 H0 μ0 F μ a w hs
  exact h K F0 H0 μ0 F' μ' a w hs'

/-- What is there is taken for less, ahead of a region whose order is open. -/
theorem Dr.mv {X : Cx} {id : Nat} {ops : Array Oper} {ts : Ts} {H : List O} {k : Kp} (ts' : Ts) (H' : List O) (hm : Mv X ts H ts' H') (h : Dr X id ops ts' H' k) : Dr X id ops ts H k := ⟨AW.mv hm h.out⟩

end Go.Am
end
