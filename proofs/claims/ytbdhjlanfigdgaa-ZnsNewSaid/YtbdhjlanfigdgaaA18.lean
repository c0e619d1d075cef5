import Derived.Test.YtbdhjlanfigdgaaA17
/- THE ABSTRACT MACHINE, PART 18: a region whose order is open, walked once in the text's order. -/
namespace Go.Am

/-- A node: a call, in a region whose order is open. -/
inductive CallP (P : Program) (g : Bool) (f : FuncId) (args : List S) (k : S → Prop) : Prop
  | intro (args' : List S) (r : S) (hb : HasBody P f) (hp : g = true → PSpec P f args' r) (ha : g = true → leA args args') (hr : r.imm = true) (hk : k r) : CallP P g f args k

theorem CallP.mk {P : Program} {f : FuncId} {args args' : List S} {r : S} (hb : HasBody P f) (hp : PSpec P f args' r) (ha : leA args args') (hr : r.imm = true) {k : S → Prop} (hk : k r) : CallP P true f args k :=
  ⟨args', r, hb, fun _ => hp, fun _ => ha, hr, hk⟩
theorem CallP.mkG {P : Program} {g : Bool} {f : FuncId} {args args' : List S} {r : S} (hb : HasBody P f) (hp : g = true → PSpec P f args' r) (ha : g = true → leA args args') (hr : r.imm = true) {k : S → Prop} (hk : k r) : CallP P g f args k :=
  ⟨args', r, hb, hp, ha, hr, hk⟩
theorem CallP.out {P : Program} {g : Bool} {f : FuncId} {args : List S} {k : S → Prop} (h : CallP P g f args k) : ∃ args' r, HasBody P f ∧ (g = true → PSpec P f args' r) ∧ (g = true → leA args args') ∧ r.imm = true ∧ k r := by
  obtain ⟨args', r, h1, h2, h3, h4, h5⟩ := h
  exact ⟨args', r, h1, h2, h3, h4, h5⟩

/-- Is what is tracked changed by this operation? -/
def isEff : Op → Bool
  | .alloc _ | .box .. | .store .. | .makeSlice .. | .buildSlice .. => true
  | .call { callee := .builtin .append, .. } | .call { callee := .builtin .copy, .. } => true
  | _ => false

/-- Does it only add to it? -/
def isNew : Op → Bool
  | .alloc _ | .box .. | .makeSlice .. | .buildSlice .. => true
  | _ => false

/-- No address under a guard is among the operands. -/
def lzOk (ts : Ts) : List Operand → Bool
  | [] => true
  | x :: r => (match opnd ts x with
    | .lz _ s => match idS s with
      | some _ => false
      | none => true
    | _ => true) && lzOk ts r

noncomputable def vcOpD (X : Cx) (all : List Oper) (o : Oper) (ts : Ts) (H : List O) (K : Ts → List O → Prop) : Prop :=
  match o.guard with
  | none => match isCall o.op with
    | true => match callOf ts o.op with
      | some (q, f, l) => needs q (CallP X.P true f l fun s => forceS s fun s' => putK X.nt o.dst s' ts fun ts' => K ts' H)
      | none => Stuck o ts H
    | false => match isEff o.op with
      | true => match eff X.Γ ts H o.op with
        | some (ns, s, H') => needs ns (forceH H' fun H'' => forceS s fun s' => putK X.nt o.dst s' ts fun ts' => K ts' H'')
        | none => Stuck o ts H
      | false => match lzOk ts o.op.operands.toList with
        | true => match val X.Γ ts H o.op with
          | some (ns, s) => needs ns (frcK (isEp ts o.op) s fun s0 => forceS s0 fun s' => putK X.nt o.dst s' ts fun ts' => K ts' H)
          | none => Stuck o ts H
        | false => Stuck o ts H
  | some (j, want) => match isEff o.op with
    | true => Stuck o ts H
    | false => match getL all j with
      | some oj => match oj.dst with
        | some d => match guardB want (find d ts) with
          | some g => match Nat.blt d X.nt with
            | true => match isCall o.op with
              | true => match callOf ts o.op with
                | some (q, f, l) => needsG g q (CallP X.P g f l fun s => forceS s fun s' => putK X.nt o.dst (.lz g s') ts fun ts' => K ts' H)
                | none => Stuck o ts H
              | false => match val X.Γ ts H o.op with
                | some (ns, s) => needsG g ns (frcK (isEp ts o.op) s fun s0 => forceS s0 fun s' => putK X.nt o.dst (.lz g s') ts fun ts' => K ts' H)
                | none => Stuck o ts H
            | false => Stuck o ts H
          | none => Stuck o ts H
        | none => Stuck o ts H
      | none => Stuck o ts H

noncomputable def vcOpsD (X : Cx) (all : List Oper) (l : List Oper) : Ts → List O → (Ts → List O → Prop) → Prop :=
  List.rec (motive := fun _ => Ts → List O → (Ts → List O → Prop) → Prop) (fun ts H K => K ts H) (fun o _ ih ts H K => vcOpD X all o ts H fun ts' H' => ih ts' H' K) l

theorem vcOpsD_nil {X : Cx} {all : List Oper} {ts : Ts} {H : List O} {K : Ts → List O → Prop} : vcOpsD X all [] ts H K = K ts H := rfl
theorem vcOpsD_cons {X : Cx} {all : List Oper} {o : Oper} {r : List Oper} {ts : Ts} {H : List O} {K : Ts → List O → Prop} : vcOpsD X all (o :: r) ts H K = vcOpD X all o ts H fun ts' H' => vcOpsD X all r ts' H' K := rfl

/-- One operation, in the text's order: the value that it puts, the objects behind it. -/
inductive Ev (X : Cx) (all : List Oper) (o : Oper) (ts : Ts) (H : List O) : S → List O → Prop
  | val (ns : List Prop) (s : S) (hg : o.guard = none) (hc : isCall o.op = false) (he : isEff o.op = false) (hl : lzOk ts o.op.operands.toList = true) (hv : val X.Γ ts H o.op = some (ns, s)) (hn : ∀ q ∈ ns, q) : Ev X all o ts H s H
  | eff (ns : List Prop) (s : S) (H' : List O) (hg : o.guard = none) (hc : isCall o.op = false) (he : isEff o.op = true) (hv : eff X.Γ ts H o.op = some (ns, s, H')) (hn : ∀ q ∈ ns, q) : Ev X all o ts H s H'
  | call (q : List Prop) (f : FuncId) (l l' : List S) (r : S) (hg : o.guard = none) (hc : isCall o.op = true) (hv : callOf ts o.op = some (q, f, l)) (hq : ∀ p ∈ q, p) (hb : HasBody X.P f) (hp : PSpec X.P f l' r) (ha : leA l l') (hr : r.imm = true) : Ev X all o ts H r H
  | gval (j : Nat) (want : Bool) (oj : Oper) (d : Nat) (g : Bool) (ns : List Prop) (s : S) (hg : o.guard = some (j, want)) (hj : getL all j = some oj) (hd : oj.dst = some d) (hgb : guardB want (find d ts) = some g) (hlt : d < X.nt)
      (hc : isCall o.op = false) (he : isEff o.op = false) (hv : Am.val X.Γ ts H o.op = some (ns, s)) (hn : g = true → ∀ q ∈ ns, q) : Ev X all o ts H (.lz g s) H
  | gcall (j : Nat) (want : Bool) (oj : Oper) (d : Nat) (g : Bool) (q : List Prop) (f : FuncId) (l l' : List S) (r : S) (hg : o.guard = some (j, want)) (hj : getL all j = some oj) (hd : oj.dst = some d) (hgb : guardB want (find d ts) = some g) (hlt : d < X.nt)
      (hc : isCall o.op = true) (he : isEff o.op = false) (hv : callOf ts o.op = some (q, f, l)) (hq : g = true → ∀ p ∈ q, p) (hb : HasBody X.P f) (hp : g = true → PSpec X.P f l' r) (ha : g = true → leA l l') (hr : r.imm = true) : Ev X all o ts H (.lz g r) H

def putT (nt : Nat) (dst : Option Tmp) (s : S) (ts : Ts) : Ts :=
  match dst with
  | none => ts
  | some d => match Nat.blt d nt with
    | true => (d, s) :: ts
    | false => ts

theorem putK_eq (nt : Nat) (dst : Option Tmp) (s : S) (ts : Ts) (k : Ts → Prop) : putK nt dst s ts k = k (putT nt dst s ts) := by
  unfold putK putT
  cases dst with
  | none => rfl
  | some d => simp only; cases Nat.blt d nt <;> rfl

theorem vcOpD_ev {X : Cx} {all : List Oper} {o : Oper} {ts : Ts} {H : List O} {K : Ts → List O → Prop} (h : vcOpD X all o ts H K) : ∃ s H', Ev X all o ts H s H' ∧ K (putT X.nt o.dst s ts) H' := by
  unfold vcOpD at h
  split at h
  · rename_i hg
    split at h
    · rename_i hc
      split at h
      · rename_i q f l hv
        obtain ⟨h1, h2⟩ := needs_out h
        obtain ⟨l', r, hb, hp, ha, hr, hk⟩ := h2.out
        rw [forceS_eq, putK_eq] at hk
        exact ⟨r, H, .call q f l l' r hg hc hv h1 hb (hp rfl) (ha rfl) hr, hk⟩
      · exact (stuck_out h).elim
    · rename_i hc
      split at h
      · rename_i he
        split at h
        · rename_i ns s H' hv
          obtain ⟨h1, h2⟩ := needs_out h
          rw [forceH_eq, forceS_eq, putK_eq] at h2
          exact ⟨s, H', .eff ns s H' hg hc he hv h1, h2⟩
        · exact (stuck_out h).elim
      · rename_i he
        split at h
        · rename_i hl
          split at h
          · rename_i ns s hv
            obtain ⟨h1, h2⟩ := needs_out h
            replace h2 := frcK_out h2
            rw [forceS_eq, putK_eq] at h2
            exact ⟨s, H, .val ns s hg hc he hl hv h1, h2⟩
          · exact (stuck_out h).elim
        · exact (stuck_out h).elim
  · rename_i j want hg
    split at h
    · exact (stuck_out h).elim
    · rename_i he
      split at h
      · rename_i oj hj
        split at h
        · rename_i d hd
          split at h
          · rename_i g hgb
            split at h
            · rename_i hlt
              have hlt' : d < X.nt := Nat.le_of_ble_eq_true hlt
              split at h
              · rename_i hc
                split at h
                · rename_i q f l hv
                  obtain ⟨h1, h2⟩ := needsG_out h
                  obtain ⟨l', r, hb, hp, ha, hr, hk⟩ := h2.out
                  rw [forceS_eq, putK_eq] at hk
                  exact ⟨.lz g r, H, .gcall j want oj d g q f l l' r hg hj hd hgb hlt' hc he hv h1 hb hp ha hr, hk⟩
                · exact (stuck_out h).elim
              · rename_i hc
                split at h
                · rename_i ns s hv
                  obtain ⟨h1, h2⟩ := needsG_out h
                  replace h2 := frcK_out h2
                  rw [forceS_eq, putK_eq] at h2
                  exact ⟨.lz g s, H, .gval j want oj d g ns s hg hj hd hgb hlt' hc he hv h1, h2⟩
                · exact (stuck_out h).elim
            · exact (stuck_out h).elim
          · exact (stuck_out h).elim
        · exact (stuck_out h).elim
      · exact (stuck_out h).elim

/-- The temporaries that an operation looks at. -/
def looks (all : List Oper) (o : Oper) : List Nat :=
  (o.op.operands.toList.filterMap fun | .tmp t => some t | _ => none) ++ (match o.guard with
    | some (j, _) => match getL all j with
      | some oj => oj.dst.toList
      | none => []
    | none => [])

theorem opnd_looks {all : List Oper} {o : Oper} {ts ts' : Ts} (h : ∀ t ∈ looks all o, find t ts' = find t ts) : ∀ x ∈ o.op.operands, opnd ts' x = opnd ts x := by
  intro x hx
  cases x with
  | tmp t =>
    refine h t ?_
    simp only [looks, List.mem_append, List.mem_filterMap]
    exact .inl ⟨.tmp t, by simpa using hx, rfl⟩
  | _ => rfl

theorem isCall_eff {op : Op} (h : isCall op = true) : isEff op = false := by
  cases op <;> simp only [isCall, Bool.false_eq_true] at h
  rename_i c
  obtain ⟨cal, args, at'⟩ := c
  cases cal <;> simp [isCall] at h
  rfl

theorem lzOk_congr {ts ts' : Ts} : ∀ (xs : List Operand), (∀ x ∈ xs, opnd ts' x = opnd ts x) → lzOk ts' xs = lzOk ts xs
  | [], _ => rfl
  | x :: r, h => by
    have hx : opnd ts' x = opnd ts x := h x (by simp)
    have ih := lzOk_congr r (fun y hy => h y (by simp [hy]))
    simp only [lzOk, hx, ih]

def isMove : Op → Bool
  | .move _ => true
  | _ => false

theorem val_move {Γ : Env} {ts ts' : Ts} {H H' : List O} {op : Op} (h : isMove op = true) {r : List Prop × S} (hv : val Γ ts H op = some r) (he : ∀ x ∈ op.operands, opnd ts' x = opnd ts x) : val Γ ts' H' op = some r := by
  cases op <;> simp only [isMove, Bool.false_eq_true] at h
  rename_i a
  have := he a (by simp [Op.operands])
  simp only [val, this] at hv ⊢
  exact hv

/-- The same operation beside other slots and objects, where what it looks at is the same. -/
theorem Ev.move {X : Cx} {all : List Oper} {o : Oper} {ts ts' : Ts} {H H' H2 : List O} {s : S} (h : Ev X all o ts H s H') (ht : ∀ t ∈ looks all o, find t ts' = find t ts)
    (hH : H2 = H ∨ isCall o.op = true ∨ (isEff o.op = false ∧ o.guard = none ∧ (isMove o.op = true ∨ ∀ x ∈ o.op.operands, Sees H H2 (idS (opnd ts x))))) : ∃ H2', Ev X all o ts' H2 s H2' ∧ (isEff o.op = true → H2' = H') ∧ (isEff o.op = false → H2' = H2) := by
  have he := opnd_looks ht
  have guard : ∀ {j : Nat} {want : Bool} {oj : Oper} {d : Nat}, o.guard = some (j, want) → getL all j = some oj → oj.dst = some d → find d ts' = find d ts := by
    intro j want oj d h1 h2 h3
    refine ht d ?_
    simp only [looks, List.mem_append, h1, h2, h3]
    right; simp
  have self : ∀ x ∈ o.op.operands, Sees H H (idS (opnd ts x)) := fun x _ i _ o ho => ho
  cases h with
  | val ns _ hg hc hef hl hv hn =>
    have hv2 : Am.val X.Γ ts' H2 o.op = some (ns, s) := by
      rcases hH with rfl | h1 | ⟨_, _, h2 | h2⟩
      · exact val_mono hv he self
      · rw [hc] at h1; cases h1
      · exact val_move h2 hv he
      · exact val_mono hv he h2
    exact ⟨H2, .val ns s hg hc hef (by rw [lzOk_congr _ (fun x hx => he x (by simpa using hx))]; exact hl) hv2 hn, ⟨fun (e : isEff o.op = true) => absurd e (by rw [hef]; simp), fun _ => rfl⟩⟩
  | eff ns _ _ hg hc hef hv hn =>
    rcases hH with rfl | h1 | ⟨h1, _⟩
    · exact ⟨H', .eff ns s H' hg hc hef (by rw [eff_congr he]; exact hv) hn, ⟨fun _ => rfl, fun (e : isEff o.op = false) => absurd e (by rw [hef]; simp)⟩⟩
    · rw [hc] at h1; cases h1
    · rw [hef] at h1; cases h1
  | call q f l l' _ hg hc hv hq hb hp ha hr =>
    have hef := isCall_eff hc
    exact ⟨H2, .call q f l l' s hg hc (by rw [callOf_congr he]; exact hv) hq hb hp ha hr, ⟨fun (e : isEff o.op = true) => absurd e (by rw [hef]; simp), fun _ => rfl⟩⟩
  | gval j want oj d g ns s' hg hj hd hgb hlt hc hef hv hn =>
    have hsee : ∀ x ∈ o.op.operands, Sees H H2 (idS (opnd ts x)) := by
      rcases hH with rfl | h1 | ⟨_, h1, _⟩
      · exact self
      · rw [hc] at h1; cases h1
      · rw [hg] at h1; cases h1
    exact ⟨H2, .gval j want oj d g ns s' hg hj hd (by rw [guard hg hj hd]; exact hgb) hlt hc hef (val_mono hv he hsee) hn, ⟨fun (e : isEff o.op = true) => absurd e (by rw [hef]; simp), fun _ => rfl⟩⟩
  | gcall j want oj d g q f l l' r hg hj hd hgb hlt hc hef hv hq hb hp ha hr =>
    exact ⟨H2, .gcall j want oj d g q f l l' r hg hj hd (by rw [guard hg hj hd]; exact hgb) hlt hc hef (by rw [callOf_congr he]; exact hv) hq hb hp ha hr, ⟨fun (e : isEff o.op = true) => absurd e (by rw [hef]; simp), fun _ => rfl⟩⟩

/-- What one operation does in a world. -/
theorem Ev.run {X : Cx} (hΓ : EnvOk X.P X.Γ) {all : List Oper} {i : Nat} {o : Oper} (hi : getL all i = some o) {ts : Ts} {H H' : List O} {s : S} (h : Ev X all o ts H s H') {K : Keep} {F0 : Mem} {H0 : List O} {μ0 : Nat → Value} {F : Mem} {μ : Nat → Value} {a : Act} {w : World}
    (hs : Sat X K F0 H0 μ0 ts H F μ a w) {k : Act → World → Prop} {Q : Exit → Act → World → Prop} (hk : ∀ F' μ' v w', F.le F' → Ext H μ H' μ' → HSat K F' H' μ' w' → RepS F' H' μ' s v → k (a.put o.dst v) w') : wpOp X.P all.toArray Q i k a w := by
  have hi' : all.toArray[i]? = some o := by rw [getL_eq] at hi; simpa using hi
  unfold wpOp
  simp only [hi']
  have plain : o.guard = none → o.wp X.P a w k Q → (if Region.wanted o (yielded all.toArray a.tmps) = true then o.wp X.P a w k Q ∨ (o.asks X.P a w ∧ LetsOut Q) else k (a.put o.dst undef) w) := by
    intro hg hw
    rw [if_pos (by simp [Region.wanted, hg])]
    exact .inl hw
  have guarded : ∀ {j : Nat} {want : Bool} {oj : Oper} {d : Nat} {g : Bool}, o.guard = some (j, want) → getL all j = some oj → oj.dst = some d → guardB want (find d ts) = some g → d < X.nt → (g = true → o.wp X.P a w k Q) → (g = false → k (a.put o.dst undef) w) →
      (if Region.wanted o (yielded all.toArray a.tmps) = true then o.wp X.P a w k Q ∨ (o.asks X.P a w ∧ LetsOut Q) else k (a.put o.dst undef) w) := by
    intro j want oj d g hg hj hd hgb hlt h1 h2
    have hdlt : d < a.tmps.size := by rw [hs.sz]; exact hlt
    have hrep := guardB_ok hgb (hs.tp d)
    have hy : (Region.wanted o (yielded all.toArray a.tmps) = true) ↔ g = true := by
      rw [getL_eq] at hj
      simp only [Region.wanted, hg, yielded]
      simp only [List.getElem?_toArray, hj, Option.bind_some, hd]
      have : a.tmps[d]? = some a.tmps[d] := Array.getElem?_eq_getElem hdlt
      simp only [this]
      have he : a.tmps.getD d undef = a.tmps[d] := by simp [Array.getD, hdlt]
      rw [he] at hrep
      rw [hrep]
      generalize a.tmps[d] = vv
      cases vv <;> simp
    by_cases c : g = true
    · rw [if_pos (hy.2 c)]; exact .inl (h1 c)
    · rw [if_neg (fun e => c (hy.1 e))]; exact h2 (by simpa using c)
  cases h with
  | val ns _ hg hc hef hl hv hn =>
    refine plain hg ?_
    obtain ⟨r, r1, r2⟩ := val_ok (P := X.P) hΓ hs.hs hs.tp o hv hn
    unfold Oper.wp
    rw [r1, Oper.upon_value]
    exact hk F μ r w (Mem.le_refl F) (Ext.refl H μ) hs.hs r2
  | eff ns _ _ hg hc hef hv hn =>
    refine plain hg ?_
    obtain ⟨nx, w', μ', r1, r2, r3, r4, r5⟩ := eff_ok (P := X.P) hΓ hs.hs hs.tp o hv hn
    unfold Oper.wp
    rw [r1]
    rcases r2 with rfl | ⟨v, rfl⟩
    · rw [Oper.upon_skip]; exact hk F μ' undef w' (Mem.le_refl F) r4 r3 r5
    · rw [Oper.upon_value]; exact hk F μ' v w' (Mem.le_refl F) r4 r3 r5
  | call q f l l' _ hg hc hv hq hb hp ha hr =>
    refine plain hg ?_
    obtain ⟨fn, f1, f2, f3⟩ := hb.out
    obtain ⟨vs, r1, r2⟩ := callOf_ok (P := X.P) hs.tp o hv hq f1 f2 f3 w
    unfold Oper.wp
    rw [r1, Oper.upon_enter]
    refine (CSpec.pure hp ha hr (k := fun s' H' => s' = s ∧ H' = H) ⟨rfl, rfl⟩ K F μ w vs hs.hs r2).mono ?_
    rintro e w' ⟨v, F', μ', s', H', rfl, g1, g2, g3, g4, rfl, rfl⟩
    exact hk F' μ' v w' g1 g3 g2 g4
  | gval j want oj d g ns s' hg hj hd hgb hlt hc hef hv hn =>
    refine guarded hg hj hd hgb hlt (fun e => ?_) (fun e => hk F μ undef w (Mem.le_refl F) (Ext.refl H μ) hs.hs ⟨fun e' => by (rw [e] at e'; cases e'), fun _ => rfl⟩)
    obtain ⟨r, r1, r2⟩ := val_ok (P := X.P) hΓ hs.hs hs.tp o hv (hn e)
    unfold Oper.wp
    rw [r1, Oper.upon_value]
    exact hk F μ r w (Mem.le_refl F) (Ext.refl H μ) hs.hs ⟨fun _ => r2, fun e' => by (rw [e] at e'; cases e')⟩
  | gcall j want oj d g q f l l' r hg hj hd hgb hlt hc hef hv hq hb hp ha hr =>
    refine guarded hg hj hd hgb hlt (fun e => ?_) (fun e => hk F μ undef w (Mem.le_refl F) (Ext.refl H μ) hs.hs ⟨fun e' => by (rw [e] at e'; cases e'), fun _ => rfl⟩)
    obtain ⟨fn, f1, f2, f3⟩ := hb.out
    obtain ⟨vs, r1, r2⟩ := callOf_ok (P := X.P) hs.tp o hv (hq e) f1 f2 f3 w
    unfold Oper.wp
    rw [r1, Oper.upon_enter]
    refine (CSpec.pure (hp e) (ha e) hr (k := fun s' H' => s' = r ∧ H' = H) ⟨rfl, rfl⟩ K F μ w vs hs.hs r2).mono ?_
    rintro e' w' ⟨v, F', μ', s', H', rfl, g1, g2, g3, g4, rfl, rfl⟩
    exact hk F' μ' v w' g1 g3 g2 ⟨fun _ => g4, fun e' => by (rw [e] at e'; cases e')⟩

end Go.Am
