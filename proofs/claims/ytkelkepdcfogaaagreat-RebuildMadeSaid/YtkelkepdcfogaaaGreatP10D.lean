/- Contracts, lemmas; no condition. -/
import Derived.Test.YtkelkepdcfogaaaGreatP09D
set_option linter.all false
section
namespace Go.Am
theorem QiQ {Γ : Env} {ts : Ts} {H H' : List O} {op : Op} {ns : List Prop} {s : S} (h : eff Γ ts H op = some (ns, s, H')) (hn : QW op = true) : ∃ x, H' = H ++ [x] := by
 unfold eff at h
 split at h
 ·split at h
  ·rw [Qdb] at h; cases h; exact ⟨_, rfl⟩
  ·cases h
 ·split at h
  split at h
  ·cases h; exact ⟨_, rfl⟩
  ·cases h
 ·simp [QW] at hn
 ·split at h
  ·split at h
   ·split at h
    ·split at h
     ·simp only [QbR, Option.some.injEq, Prod.mk.injEq] at h
      obtain ⟨_, _, rfl⟩ := h
      exact ⟨_, rfl⟩
     ·cases h
    ·cases h
   ·cases h
  ·cases h
 ·split at h
  ·split at h
   ·split at h
    ·rename_i hb
     cases h
     unfold Qdy at hb
     split at hb
     ·split at hb
      ·cases hb; exact ⟨_, rfl⟩
      ·cases hb
     ·cases hb
    ·cases h
   ·cases h
  ·cases h
 ·simp [QW] at hn
 ·simp [QW] at hn
 ·simp [QW] at hn
 ·unfold QlX at h
  split at h
  ·cases h; exact ⟨_, rfl⟩
  ·cases h
 ·simp [QW] at hn
 ·simp [QW] at hn
 ·simp [QW] at hn
 ·cases h
def hD (E : List Nat) (l : List Oper) (HH : Nat → List O) (D : Nat → Bool) : Nat → List O
 | 0 => HH 0
 | k + 1 => match getL l k with
  | some o => if isE E o = true ∧ D k = true then HH (k + 1) else hD E l HH D k
  | none => hD E l HH D k
def Pre (H H' : List O) : Prop := ∃ e, H' = H ++ e
theorem Pre.refl (H : List O) : Pre H H := ⟨[], by simp⟩
theorem Pre.trans {a b c : List O} (h : Pre a b) (k : Pre b c) : Pre a c := by
 obtain ⟨e, rfl⟩ := h
 obtain ⟨f, rfl⟩ := k
 exact ⟨e ++ f, by simp⟩
theorem Pre.get {a b : List O} (h : Pre a b) {i : Nat} {o : O} (hi : getL a i = some o) : getL b i = some o := by
 obtain ⟨e, rfl⟩ := h
 have := Qk hi
 rw [Qd] at hi ⊢
 rw [List.getElem?_append_left this]
 exact hi
section
variable {E : List Nat} {l : List Oper} {HH : Nat → List O}
theorem Qdu {D : Nat → Bool} {i : Nat} (hsame : ∀ k o, getL l k = some o → isE E o = false → HH (k + 1) = HH k) : ∀ m, i ≤ m → m ≤ l.length → (∀ k o, k < m → getL l k = some o → isE E o = true → D k = decide (k < i)) → hD E l HH D m = HH i := by
 have low : ∀ m, m ≤ l.length → (∀ k o, k < m → getL l k = some o → isE E o = true → D k = true) → hD E l HH D m = HH m := by
  intro m
  induction m with
  | zero => intro _ _; rfl
  | succ m ih =>
   intro hl h
   have ho : getL l m = some (l[m]'(by omega)) := by rw [Qd]; simp
   simp only [hD, ho]
   by_cases c : isE E (l[m]'(by omega)) = true
   ·rw [if_pos ⟨c, h m _ (by omega) ho c⟩]
   ·rw [if_neg (fun e => c e.1), ih (by omega) fun k o hk => h k o (by omega)]
    exact (hsame m _ ho (by simpa using c)).symm
 intro m
 induction m with
 | zero =>
  intro hi _ _; have : i = 0 := by omega
  subst this; rfl
 | succ m ih =>
  intro hi hl h
  by_cases c : i = m + 1
  ·subst c
   exact low (m + 1) hl fun k o hk ho he => by rw [h k o hk ho he]; simp [hk]
  ·have ho : getL l m = some (l[m]'(by omega)) := by rw [Qd]; simp
   simp only [hD, ho]
   rw [if_neg, ih (by omega) (by omega) fun k o hk => h k o (by omega)]
   rintro ⟨e1, e2⟩
   rw [h m _ (by omega) ho e1] at e2
   simp at e2
   omega
end
theorem QgS (E : List Nat) (l : List Oper) (D : Nat → Bool) : ∃ c, c ≤ l.length ∧ (∀ k o, k < c → getL l k = some o → isE E o = true → D k = true) ∧ (c = l.length ∨ ∃ o, getL l c = some o ∧ isE E o = true ∧ D c = false) := by
 by_cases h : ∃ k, ∃ o, getL l k = some o ∧ isE E o = true ∧ D k = false
 ·obtain ⟨c, ⟨o, h1, h2, h3⟩, hmin⟩ := QG h
  refine ⟨c, Nat.le_of_lt (Qk h1), fun k o' hk ho he => ?_, .inr ⟨o, h1, h2, h3⟩⟩
  cases hd : D k with
  | true => rfl
  | false => have := hmin k ⟨o', ho, he, hd⟩; omega
 ·refine ⟨l.length, Nat.le_refl _, fun k o _ ho he => ?_, .inl rfl⟩
  cases hd : D k with
  | true => rfl
  | false => exact absurd ⟨k, o, ho, he, hd⟩ h
def QaF (D : Nat → Bool) : Nat → Nat
 | 0 => 0
 | k + 1 => QaF D k + if D k = true then 0 else 1
theorem Qfw {D : Nat → Bool} : ∀ n, QaF D n = 0 → ∀ k, k < n → D k = true
 | 0, _, k, hk => by omega
 | n + 1, h, k, hk => by
  simp only [QaF] at h
  by_cases c : D n = true
  ·by_cases e : k = n
   ·rw [e]; exact c
   ·exact Qfw n (by omega) k (by omega)
  ·rw [if_neg c] at h; omega
theorem Qed {D D' : Nat → Bool} {i : Nat} (hi : D i = false) (hi' : D' i = true) (ho : ∀ k, k ≠ i → D' k = D k) : ∀ n, i < n → QaF D' n + 1 = QaF D n
 | 0, h => by omega
 | n + 1, h => by
  simp only [QaF]
  by_cases e : i = n
  ·subst e
   have : ∀ m, m ≤ i → QaF D' m = QaF D m := by
    intro m
    induction m with
    | zero => intro _; rfl
    | succ m ih => intro hm; simp only [QaF]; rw [ih (by omega), ho m (by omega)]
   rw [this i (Nat.le_refl _), hi', hi]
   simp
  ·have := Qed hi hi' ho n (by omega)
   rw [ho n (fun q => e q.symm)]
   omega
theorem Qmc {F : Mem} {H : List O} {μ : Nat → Value} {s : S} {v : Value} (h : RepS F H μ s v) {id : Nat} (hid : idS s = some id) (hlz : ∀ g t, s ≠ .lz g t) : ∃ o, getL H id = some o := by
 cases s with
 | c x =>
  cases x <;> simp [idS, idC] at hid
  ·subst hid; obtain ⟨⟨cs, h1⟩, _⟩ := h; exact ⟨_, h1⟩
  ·subst hid; obtain ⟨_, e, es, n, g, h1, _⟩ := h; exact ⟨_, h1⟩
  ·subst hid; obtain ⟨_, e, n, g, h1, _⟩ := h; exact ⟨_, h1⟩
  ·subst hid; obtain ⟨⟨sh, z, va, ks, val, h1⟩, _⟩ := h; exact ⟨_, h1⟩
 | lz g t => exact absurd rfl (hlz g t)
 | so id' es off len tot => simp [idS] at hid; subst hid; obtain ⟨_, _, _, _, _, _, _, h1, _⟩ := h; exact ⟨_, h1⟩
 | _ => simp [idS] at hid
theorem Qew {ts : Ts} : ∀ {xs : List Operand}, lzOk ts xs = true → ∀ x ∈ xs, ∀ g t, opnd ts x = .lz g t → idS t = none
 | [], _, x, hx => by simp at hx
 | y :: r, h, x, hx => by
  simp only [lzOk, Bool.and_eq_true] at h
  intro g t e
  rcases List.mem_cons.1 hx with rfl | hx
  ·have := h.1
   rw [e] at this
   cases hi : idS t with
   | none => rfl
   | some i => simp [hi] at this
  ·exact Qew h.2 x hx g t e
def fixB (l : List Oper) (i : Nat) : Operand → Bool
 | .tmp t => !(l.drop i).any fun o => o.dst == some t
 | _ => true
def Qdm (l : List Oper) (ts : Ts) (i q : Nat) : Bool :=
 match getL l i with
 | some x => match getL l q with
  | some y => x.guard.isNone && (match y.op with
   | .call { callee := .value (.func _), args, .. } => Qbn x.op || x.op.operands.toList.all (fun z => fixB l i z && (match idS (opnd ts z) with
     | some m => args.toList.all (fun a => fixB l q a && (match idS (opnd ts a) with
      | some n => !Nat.beq n m
      | none => true))
     | none => true))
   | .call { callee := .builtin .append, args, .. } => Qbn x.op || x.op.operands.toList.all (fun z => fixB l i z && (match idS (opnd ts z) with
     | some m => args.toList.all (fun a => fixB l q a && (match idS (opnd ts a) with
      | some n => !Nat.beq n m
      | none => true))
     | none => true))
   | .store _ a _ => fixB l q a && (match idS (opnd ts a) with
    | some n => Qbn x.op || x.op.operands.toList.all (fun z => fixB l i z && (match idS (opnd ts z) with
     | some m => !Nat.beq n m
     | none => true))
    | none => false)
   | _ => false)
  | none => false
 | none => false
theorem QbJ {nt : Nat} {l : List Oper} {sv : Nat → S} {ts : Ts} {i : Nat} (hi : i ≤ l.length) {x : Operand} (h : fixB l i x = true) : opnd (tsF nt l sv (fun _ => true) ts l.length) x = opnd (tsF nt l sv (fun _ => true) ts i) x := by
 cases x with
 | tmp t =>
  refine Qdz l.length hi fun k hk hd => ?_
  simp only [fixB, Bool.not_eq_true', List.any_eq_false] at h
  by_cases c : k < i
  ·simp [c]
  ·exfalso
   have ho : getL l k = some l[k] := by rw [Qd]; simp [hk]
   have hd' : l[k].dst = some t := by simpa [Qbj, ho] using hd
   have hm : l[k] ∈ l.drop i := by
    have : (l.drop i)[k - i]? = some l[k] := by
     rw [List.getElem?_drop]
     rw [show i + (k - i) = k by omega]
     simp [hk]
    exact List.mem_of_getElem? this
   have := h _ hm
   rw [hd'] at this
   simp at this
 | _ => rfl
theorem Qkt {Γ : Env} {ts : Ts} {H H' : List O} {t : Nat} {a x : Operand} {ns : List Prop} {s : S} (h : eff Γ ts H (.store t a x) = some (ns, s, H')) {n : Nat} (hn : idS (opnd ts a) = some n) : ∀ id, id ≠ n → getL H' id = getL H id := by
 simp only [eff] at h
 split at h
 ·split at h
  ·rename_i p c hb
   have hc := QdC hb
   rw [hn] at hc
   split at h
   ·split at h
    ·split at h
     ·rename_i r H1 hst
      cases h
      unfold QeI at hst
      split at hst
      ·split at hst
       ·split at hst
        ·split at hst
         ·rename_i hset
          cases hst
          cases hc
          exact (QaA hset).2
         ·cases hst
        ·cases hst
       ·cases hst
      ·split at hst
       ·split at hst
        ·rename_i hset
         cases hst
         cases hc
         exact (QaA hset).2
        ·cases hst
       ·cases hst
      ·cases hst
     ·cases h
    ·cases h
   ·cases h
  ·cases h
 ·cases h
theorem Qms {e : Nat} {te : TI} {H H' : List O} {x c : C} {src : List Prop × Nat × (Nat → Nat → C)} {ns : List Prop} (h : appP e te H x src = some (ns, c, H')) {id : Nat} (hx : idC x ≠ some id) {o : O} (ho : getL H id = some o) : getL H' id = some o := by
 have push : ∀ z : O, getL (H ++ [z]) id = some o := fun z => by
  have := Qk ho
  rw [Qap _ _ _ (by omega)]; exact ho
 obtain ⟨ns', m, g2⟩ := src
 simp only [appP] at h
 split at h
 ·cases h; exact push _
 ·split at h
  ·cases h; exact push _
  ·cases h
 ·split at h
  ·split at h
   ·split at h
    ·split at h
     ·rename_i hset
      cases h
      rw [(QaA hset).2 id (fun q => hx (by rw [q]; rfl))]; exact ho
     ·cases h
    ·cases h
   ·cases h
  ·cases h
 ·cases h
theorem QtX {e : Nat} {te : TI} {H H' : List O} {x y c : C} {ns : List Prop} (h : appK e te H x y = some (ns, c, H')) {id : Nat} (hx : idC x ≠ some id) {o : O} (ho : getL H id = some o) : getL H' id = some o := by
 unfold appK at h
 split at h
 ·exact Qms h hx ho
 ·cases h
theorem QsT {e : Nat} {te : TI} {H H' : List O} {x c : C} {a b d f g : Nat} {ns : List Prop} (h : QiH e te H x a b d f g = some (ns, c, H')) {id : Nat} (hx : idC x ≠ some id) {o : O} (ho : getL H id = some o) : getL H' id = some o := by
 unfold QiH at h
 split at h
 ·exact Qms h hx ho
 ·cases h
theorem QiE {Γ : Env} {ts : Ts} {H H' : List O} {args : Array Operand} {tys : Array TypeId} {ns : List Prop} {s : S} (h : eff Γ ts H (.call { callee := .builtin .append, args := args, argTypes := tys }) = some (ns, s, H')) {id : Nat} (hn : ∀ a ∈ args.toList, idS (opnd ts a) ≠ some id) {o : O} (ho : getL H id = some o) : getL H' id = some o := by
 simp only [eff] at h
 split at h
 ·rename_i x y hargs
  split at h
  ·split at h
   ·split at h
    ·split at h
     ·split at h
      ·rename_i p c hb
       have hc := QdC hb
       split at h
       ·split at h
        ·rename_i happ
         cases h
         refine QtX happ (fun q => hn x (by rw [hargs]; simp) ?_) ho
         rw [← hc]; exact q
        ·cases h
       ·split at h
        ·rename_i happ
         cases h
         refine QsT happ (fun q => hn x (by rw [hargs]; simp) ?_) ho
         rw [← hc]; exact q
        ·cases h
       ·cases h
      ·cases h
     ·cases h
    ·cases h
   ·cases h
  ·cases h
 ·cases h
theorem Qup {md : Bool} {e : Nat} {te : TI} {H H' : List O} {x y c : C} {ns : List Prop} (h : cutK md e te H x y = some (ns, c, H')) {id : Nat} (hx : idC x ≠ some id) {o : O} (ho : getL H id = some o) : getL H' id = some o := by
 unfold cutK at h
 split at h
 ·split at h
  ·split at h
   ·split at h
    ·split at h
     ·split at h
      ·split at h
       ·cases h
        have hi : id < H.length := (List.getElem?_eq_some_iff.1 (by rw [← Qd]; exact ho)).1
        rw [Qap _ _ _ (by omega)]; exact ho
       ·cases h
      ·split at h
       ·rename_i hset
        cases h
        rw [(QaA hset).2 id (fun q => hx (by rw [q]; rfl))]; exact ho
       ·cases h
     ·cases h
    ·cases h
   ·cases h
  ·cases h
 ·cases h
theorem QiM {Γ : Env} {ts : Ts} {H H' : List O} {args : Array Operand} {tys : Array TypeId} {ns : List Prop} {s : S} {md : Bool} (h : QbS md Γ ts H (.call { callee := .builtin .append, args := args, argTypes := tys }) = some (ns, s, H')) {id : Nat} (hn : ∀ a ∈ args.toList, idS (opnd ts a) ≠ some id) {o : O} (ho : getL H id = some o) : getL H' id = some o := by
 simp only [QbS] at h
 split at h
 ·rename_i x y hargs
  split at h
  ·split at h
   ·split at h
    ·split at h
     ·split at h
      ·rename_i p c hb
       have hc := QdC hb
       split at h
       ·split at h
        ·rename_i happ
         cases h
         refine Qup happ (fun q => hn x (by rw [hargs]; simp) ?_) ho
         rw [← hc]; exact q
        ·cases h
       ·cases h
      ·cases h
     ·cases h
    ·cases h
   ·cases h
  ·cases h
 ·cases h
theorem Qho {ts : Ts} : ∀ (xs : List Operand) (q : List Prop) (l : List S), Qcj ts xs = some (q, l) → ∀ a ∈ l, ∃ x ∈ xs, idS a = idS (opnd ts x)
 | [], q, l, h, a, ha => by simp only [Qcj, Option.some.injEq, Prod.mk.injEq] at h; rw [← h.2] at ha; cases ha
 | x :: r, q, l, h, a, ha => by
  simp only [Qcj] at h
  split at h
  ·rename_i q' l' hr
   cases h
   rcases List.mem_cons.1 ha with rfl | ha
   ·exact ⟨x, by simp, QdC (s := opnd ts x) (p := (bare (opnd ts x)).1) rfl⟩
   ·obtain ⟨y, y1, y2⟩ := Qho r q' l' hr a ha
    exact ⟨y, by simp [y1], y2⟩
  ·cases h
theorem QiK {X : Cx} (hΓ : Qo X.P X.Γ) (hm : X.P.follows .mixedOrders = true) {ops : Array Oper} {ts : Ts} {H : List O} {k : Kp} (E : List Nat) (S : List (Nat × Nat)) (hok : Qgn E S ops.toList = true) (h : Qcw X E ops.toList ops.toList ts H fun ts' H' => match S.all (fun p => Qdm ops.toList ts' p.1 p.2) with
   | true => k .normal ts' H'
   | false => StuckC .skip ts' H') :
  ∀ K F0 H0 μ0 F μ a w, Sat X K F0 H0 μ0 ts H F μ a w → wpAny X.P .any ops (Post X K F0 H0 μ0 k) ops.size (Array.replicate ops.size false) a { w with drawn := w.drawn + 1 } := by
 intro K F0 H0 μ0 F μ a w hs
 obtain ⟨sv, HH, hh0, hev, hend0⟩ := Qhy ops.toList h
 generalize hl : ops.toList = l at *
 obtain ⟨hfreeB, hend⟩ : S.all (fun p => Qdm l (tsF X.nt l sv (fun _ => true) ts l.length) p.1 p.2) = true ∧ k .normal (tsF X.nt l sv (fun _ => true) ts l.length) (HH l.length) := by
  split at hend0
  ·rename_i hq; exact ⟨hq, hend0⟩
  ·exact (QcM hend0).elim
 rw [Qgn, Bool.and_eq_true] at hok
 obtain ⟨hok, hfr⟩ := hok
 have alias : ∀ i q, (i, q) ∈ S → ∃ x y, getL l i = some x ∧ getL l q = some y ∧ x.guard = none ∧ (Qbn x.op = true ∨ ∀ z ∈ x.op.operands, ∀ id, idS (opnd (tsF X.nt l sv (fun _ => true) ts i) z) = some id → ∀ o, getL (HH q) id = some o → getL (HH (q + 1)) id = some o) := by
  intro i q hm
  have hf := List.all_eq_true.1 hfreeB _ hm
  have hfr2 := List.all_eq_true.1 hfr _ hm
  simp only [Qdm] at hf
  split at hf
  ·rename_i x hx
   split at hf
   ·rename_i y hy
    simp only [Bool.and_eq_true, Option.isNone_iff_eq_none] at hf
    obtain ⟨hg, hf⟩ := hf
    refine ⟨x, y, hx, hy, hg, ?_⟩
    have hq := Qk hy
    have hi := Qk hx
    split at hf
    ·rename_i cf args at' hop
     rw [Bool.or_eq_true] at hf
     rcases hf with hf | hf
     ·exact .inl hf
     ·right
      intro z hz id hid o ho
      have hz2 := List.all_eq_true.1 hf z (by simpa using hz)
      simp only [Bool.and_eq_true] at hz2
      rw [QbJ (by omega) hz2.1, hid] at hz2
      have hall := hz2.2
      have hq2 := hev q y hy
      generalize HH (q + 1) = H1 at hq2 ⊢
      generalize sv q = s1 at hq2
      cases hq2 with
      | eff ns _ _ _ hc _ _ _ => rw [hop] at hc; cases hc
      | callE q' f la _ _ _ _ _ hv _ _ _ hch =>
       refine hch (by simpa [hy] using hfr2) id o (fun a ha e => ?_) ho
       rw [hop] at hv
       simp only [Qbd] at hv
       split at hv
       ·rename_i f' n get hcal
        have hn0 : n = 0 := by
         simp only [opnd, bare] at hcal
         cases hcal
         rfl
        subst hn0
        split at hv
        ·rename_i q'' l'' hak
         cases hv
         rcases List.mem_append.1 ha with ha | ha
         ·obtain ⟨b, b1, b2⟩ := Qho _ _ _ hak a ha
          have hb := List.all_eq_true.1 hall b b1
          simp only [Bool.and_eq_true] at hb
          rw [QbJ (by omega) hb.1, ← b2, e] at hb
          simp at hb
         ·simp [capS] at ha
        ·cases hv
       ·cases hv
      | _ => exact ho
    ·rename_i args tys hop
     rw [Bool.or_eq_true] at hf
     rcases hf with hf | hf
     ·exact .inl hf
     ·right
      intro z hz id hid o ho
      have hz2 := List.all_eq_true.1 hf z (by simpa using hz)
      simp only [Bool.and_eq_true] at hz2
      rw [QbJ (by omega) hz2.1, hid] at hz2
      have hall := hz2.2
      have hq2 := hev q y hy
      generalize HH (q + 1) = H1 at hq2 ⊢
      generalize sv q = s1 at hq2
      cases hq2 with
      | eff ns _ _ _ _ _ he _ =>
       rw [hop] at he
       have hgo : ∀ a ∈ args.toList, idS (opnd (tsF X.nt l sv (fun _ => true) ts q) a) ≠ some id := fun a ha e => ?_
       ·exact (QbO he).elim (fun he => QiE he hgo ho) (fun ⟨_, he⟩ => QiM he hgo ho)
       have hb := List.all_eq_true.1 hall a ha
       simp only [Bool.and_eq_true] at hb
       rw [QbJ (by omega) hb.1, e] at hb
       simp at hb
      | callE _ _ _ _ _ _ hc => rw [hop] at hc; cases hc
      | _ => exact ho
    ·rename_i t a v hop
     simp only [Bool.and_eq_true] at hf
     obtain ⟨hfix, hf⟩ := hf
     split at hf
     ·rename_i n hn
      rw [Bool.or_eq_true] at hf
      rcases hf with hf | hf
      ·exact .inl hf
      ·right
       intro z hz id hid o ho
       have hz2 := List.all_eq_true.1 hf z (by simpa using hz)
       simp only [Bool.and_eq_true] at hz2
       rw [QbJ (by omega) hz2.1, hid] at hz2
       rw [QbJ (by omega) hfix] at hn
       have hne : id ≠ n := by
        intro e
        subst e
        simp at hz2
       have hq2 := hev q y hy
       generalize HH (q + 1) = H1 at hq2 ⊢
       generalize sv q = s1 at hq2
       cases hq2 with
       | eff ns _ _ _ _ _ he _ =>
        rw [hop] at he
        rw [Qkt ((QbO he).resolve_right (by simp [QbS])) hn id hne]; exact ho
       | callE _ _ _ _ _ _ hc => rw [hop] at hc; cases hc
       | _ => exact ho
     ·simp at hf
    ·simp at hf
   ·simp at hf
  ·simp at hf
 have hsz : ops.size = l.length := by rw [← hl]; simp
 have harr : l.toArray = ops := by rw [← hl]
 have rows := Qnp l 0 hok
 simp only [Nat.zero_add] at rows
 have anc : ∀ j i, ((Qd9 l []).getD j 0).testBit i = true → Anc l i j := Qgy l l [] (fun k => by simp) (fun j i hj => by simp at hj)
 have back : ∀ j o, getL l j = some o → ∀ e ∈ o.after.toList, Region.binds .any e = true → e.on < j := fun j o ho => (rows j o ho).1
 have pair : ∀ i j x y, getL l i = some x → getL l j = some y → i < j → Anc l i j ∨
   (¬ (isE E x = true ∧ isE E y = true) ∧ ¬ (isE E x = true ∧ (QW x.op = false ∨ y.guard.isSome = true) ∧ QF y.op = false ∧ (j, i) ∉ S) ∧ ¬ (isE E y = true ∧ (QW y.op = false ∨ x.guard.isSome = true) ∧ QF x.op = false ∧ (i, j) ∉ S) ∧
    (∀ t, x.dst = some t → t ∉ Qbp l y ∧ y.dst ≠ some t) ∧ ∀ t, y.dst = some t → t ∉ Qbp l x) := by
  intro i j x y hx hy hij
  have := (rows j y hy).2 i x hx hij
  simp only [QlN, Bool.or_eq_true] at this
  rcases this with h1 | h1
  ·exact .inl (anc j i h1)
  ·right
   simp only [Bool.and_eq_true] at h1
   obtain ⟨⟨⟨⟨h1, h2⟩, h3⟩, h4⟩, h5⟩ := h1
   refine ⟨fun ⟨a, b⟩ => by simp [a, b] at h1, fun ⟨a, b, c, d⟩ => by rcases b with b | b <;> simp [a, b, c, d] at h2, fun ⟨a, b, c, d⟩ => by rcases b with b | b <;> simp [a, b, c, d] at h3, fun t ht => ?_, fun t ht => ?_⟩
   ·rw [ht] at h4
    simp only [Bool.and_eq_true, Bool.not_eq_true', beq_eq_false_iff_ne] at h4
    exact ⟨by simpa using h4.1, h4.2⟩
   ·rw [ht] at h5
    simpa using h5
 have hsame : ∀ k o, getL l k = some o → isE E o = false → HH (k + 1) = HH k := by
  intro k o ho he
  have := hev k o ho
  generalize hq : HH (k + 1) = q at this
  generalize sv k = sk at this
  cases this with
  | eff _ _ _ _ _ h1 => rw [he] at h1; cases h1
  | callE _ _ _ _ _ _ _ h1 => rw [he] at h1; cases h1
  | _ => rfl
 have hnew : ∀ k o, getL l k = some o → QW o.op = true → Pre (HH k) (HH (k + 1)) := by
  intro k o ho hn
  by_cases he : isE E o = true
  ·have := hev k o ho
   generalize hq : HH (k + 1) = q at this
   generalize sv k = sk at this
   cases this with
   | eff ns _ _ _ _ _ h1 =>
    obtain ⟨x, rfl⟩ := QiQ ((QbO h1).resolve_right (fun ⟨_, e⟩ => by (unfold QbS at e; split at e; rename_i hop; rw [hop] at hn; cases hn; cases e))) hn
    exact ⟨[x], rfl⟩
   | callE _ _ _ _ _ _ hc =>
    exfalso
    generalize o.op = op at hn hc
    cases op <;> simp [QF, QW] at hn hc
   | _ => exact Pre.refl _
  ·rw [hsame k o ho (by simpa using he)]; exact Pre.refl _
 have stretch : ∀ id m i, i ≤ m → m ≤ l.length → (∀ k o, i ≤ k → k < m → getL l k = some o → isE E o = true → QW o.op = true ∨ ∀ o', getL (HH k) id = some o' → getL (HH (k + 1)) id = some o') → ∀ o, getL (HH i) id = some o → getL (HH m) id = some o := by
  intro id m
  induction m with
  | zero =>
   intro i hi _ _ o h; have : i = 0 := by omega
   subst this; exact h
  | succ m ih =>
   intro i hi hml hk o h
   by_cases c : i = m + 1
   ·subst c; exact h
   ·have ho : getL l m = some (l[m]'(by omega)) := by rw [Qd]; simp
    have := ih i (by omega) (by omega) (fun k o h1 h2 => hk k o h1 (by omega)) o h
    by_cases he : isE E (l[m]'(by omega)) = true
    ·rcases hk m _ (by omega) (by omega) ho he with h1 | h1
     ·exact (hnew m _ ho h1).get this
     ·exact h1 _ this
    ·rw [hsame m _ ho (by simpa using he)]; exact this
 have main : ∀ fuel (listed : Array Bool) (D : Nat → Bool), listed.size = ops.size → (∀ i, D i = listed.getD i false) → Closed l D → QaF D l.length = fuel → ∀ (F : Mem) (μ : Nat → Value) (a : Act) (w : World),
   Sat X K F0 H0 μ0 (tsF X.nt l sv D ts l.length) (hD E l HH D l.length) F μ a w → wpAny X.P .any ops (Post X K F0 H0 μ0 k) fuel listed a w := by
  intro fuel
  induction fuel with
  | zero =>
   intro listed D hls hD' hcl hun F μ a w hst
   have all := Qfw l.length hun
   refine ⟨?_, ?_⟩
   ·rw [Region.ready]
    rw [List.filter_eq_nil_iff]
    intro i hi
    have hi' : i < ops.size := by simpa using hi
    have hd := all i (by omega)
    rw [hD' i] at hd
    have : listed.getD i true = true := by
     rw [Array.getD_eq_getD_getElem?] at hd ⊢
     rw [Array.getElem?_eq_getElem (by omega)] at hd ⊢
     exact hd
    simp [this]
   ·have e1 : tsF X.nt l sv D ts l.length = tsF X.nt l sv (fun _ => true) ts l.length := by
     have : ∀ m, m ≤ l.length → tsF X.nt l sv D ts m = tsF X.nt l sv (fun _ => true) ts m := by
      intro m
      induction m with
      | zero => intro _; rfl
      | succ m ih => intro hm; simp only [tsF, all m (by omega), ih (by omega), if_true]
     exact this _ (Nat.le_refl _)
    have e2 : hD E l HH D l.length = HH l.length := Qdu hsame l.length (Nat.le_refl _) (Nat.le_refl _) fun k o hk _ _ => by rw [all k hk]; simp [hk]
    rw [e1, e2] at hst
    exact ⟨_, _, F, μ, hst, hend⟩
  | succ fuel ih =>
   intro listed D hls hD' hcl hun F μ a w hst
   have getD2 : ∀ i, i < ops.size → listed.getD i true = listed.getD i false := by
    intro i hi
    rw [Array.getD_eq_getD_getElem?, Array.getD_eq_getD_getElem?, Array.getElem?_eq_getElem (by omega)]
    rfl
   refine ⟨fun hnil => ?_, fun i hi => ?_⟩
   ·
    exfalso
    have hex : ∃ k, k < l.length ∧ D k = false := by
     refine Classical.byContradiction fun hno => ?_
     have : ∀ m, m ≤ l.length → QaF D m = 0 := by
      intro m
      induction m with
      | zero => intro _; rfl
      | succ m ihm =>
       intro hm
       simp only [QaF, ihm (by omega)]
       cases hd : D m with
       | true => simp
       | false => exact absurd ⟨m, by omega, hd⟩ hno
     rw [this _ (Nat.le_refl _)] at hun
     cases hun
    obtain ⟨i, ⟨h1, h2⟩, hmin⟩ := QG hex
    have ho : getL l i = some l[i] := by rw [Qd]; simp [h1]
    have hmem : i ∈ Region.ready .any ops listed := by
     rw [Region.ready, List.mem_filter]
     refine ⟨by simp; omega, ?_⟩
     have hopi : ops[i]? = some l[i] := by rw [← harr]; simp [h1]
     rw [hopi, getD2 i (by omega), ← hD' i, h2]
     simp only [Bool.not_false, Option.map_some, Option.getD_some, Bool.true_and]
     rw [← Array.all_toList, List.all_eq_true]
     intro e he
     cases hb : Region.binds .any e with
     | false => rfl
     | true =>
      have hlt := back i _ ho e he hb
      rw [← hD' e.on]
      cases hd : D e.on with
      | true => rfl
      | false => have := hmin e.on ⟨by omega, hd⟩; omega
    rw [hnil] at hmem
    cases hmem
   ·
    rw [Region.ready, List.mem_filter] at hi
    obtain ⟨hi1, hi2⟩ := hi
    have hilt : i < l.length := by rw [← hsz]; simpa using hi1
    have ho : getL l i = some l[i] := by rw [Qd]; simp [hilt]
    have hopi : ops[i]? = some l[i] := by rw [← harr]; simp [hilt]
    rw [hopi, getD2 i (by omega), ← hD' i] at hi2
    simp only [Option.map_some, Option.getD_some, Bool.and_eq_true, Bool.not_eq_true'] at hi2
    obtain ⟨hDi, hdeps⟩ := hi2
    have deps : ∀ o, getL l i = some o → ∀ e ∈ o.after.toList, Region.binds .any e = true → D e.on = true := by
     intro o ho' e he hb
     rw [ho] at ho'
     cases ho'
     rw [← Array.all_toList, List.all_eq_true] at hdeps
     have := hdeps e he
     rw [hb, ← hD' e.on] at this
     simpa using this
    have before : ∀ k, Anc l k i → D k = true := fun k hk => hcl.anc hk deps
    have behind : ∀ k, Anc l i k → D k = true → False := by
     intro k hk hd
     have := hcl.anc hk (fun o ho' e he hb => hcl k o ho' hd e he hb)
     rw [hDi] at this
     cases this
    have writers : ∀ t, (t ∈ Qbp l l[i] ∨ l[i].dst = some t) → ∀ q, q < l.length → Qbj l q = some t → q ≠ i → D q = decide (q < i) := by
     intro t ht q hq hd hne
     have hoq : getL l q = some l[q] := by rw [Qd]; simp [hq]
     have hdq : l[q].dst = some t := by simpa [Qbj, hoq] using hd
     rcases Nat.lt_or_gt_of_ne hne with c | c
     ·rw [decide_eq_true c]
      rcases pair q i _ _ hoq ho c with h1 | ⟨_, _, _, h4, _⟩
      ·exact before q h1
      ·exfalso
       rcases ht with ht | ht
       ·exact (h4 t hdq).1 ht
       ·exact (h4 t hdq).2 ht
     ·rw [decide_eq_false (by omega)]
      cases hdd : D q with
      | false => rfl
      | true =>
       exfalso
       rcases pair i q _ _ ho hoq c with h1 | ⟨_, _, _, h4, h5⟩
       ·exact behind q h1 hdd
       ·rcases ht with ht | ht
        ·exact h5 t hdq ht
        ·exact (h4 t ht).2 hdq
    have hlook : ∀ t ∈ Qbp l l[i], find t (tsF X.nt l sv D ts l.length) = find t (tsF X.nt l sv (fun _ => true) ts i) := by
     intro t ht
     refine Qdz l.length (by omega) fun q hq hd => ?_
     by_cases c : q = i
     ·subst c; rw [hDi]; simp
     ·rw [writers t (.inl ht) q hq hd c]; simp
    obtain ⟨c, c1, c2, c3⟩ := QgS E l D
    have effD : ∀ q o, getL l q = some o → isE E o = true → D q = decide (q < c) := by
     intro q o hq he
     by_cases hqc : q < c
     ·rw [decide_eq_true hqc]; exact c2 q o hqc hq he
     ·rw [decide_eq_false hqc]
      rcases c3 with c3 | ⟨oc, d1, d2, d3⟩
      ·have := Qk hq; omega
      ·by_cases e : q = c
       ·rw [e]; exact d3
       ·cases hd : D q with
        | false => rfl
        | true =>
         exfalso
         rcases pair c q oc o d1 hq (by omega) with h1 | ⟨h1, _⟩
         ·have := hcl.anc h1 (fun o' ho' e' he' hb => hcl q o' ho' hd e' he' hb)
          rw [d3] at this
          cases this
         ·exact h1 ⟨d2, he⟩
    have hHc : hD E l HH D l.length = HH c := Qdu hsame l.length c1 (Nat.le_refl _) fun q o _ hq he => effD q o hq he
    have hevi := hev i _ ho
    rw [hHc] at hst
    have hH : HH c = HH i ∨ (QF l[i].op = true ∧ isE E l[i] = false) ∨ (isE E l[i] = false ∧ l[i].guard = none ∧ (Qbn l[i].op = true ∨ ∀ x ∈ l[i].op.operands, Sees (HH i) (HH c) (idS (opnd (tsF X.nt l sv (fun _ => true) ts i) x)))) := by
     cases hei : isE E l[i] with
     | true =>
      left
      have : ∀ q o, q < l.length → getL l q = some o → isE E o = true → D q = decide (q < i) := by
       intro q o _ hq he
       by_cases e : q = i
       ·subst e; rw [hDi]; simp
       ·rcases Nat.lt_or_gt_of_ne e with cc | cc
        ·rw [decide_eq_true cc]
         rcases pair q i o _ hq ho cc with h1 | ⟨h1, _⟩
         ·exact before q h1
         ·exact absurd ⟨he, hei⟩ h1
        ·rw [decide_eq_false (by omega)]
         cases hd : D q with
         | false => rfl
         | true =>
          rcases pair i q _ o ho hq cc with h1 | ⟨h1, _⟩
          ·exact (behind q h1 hd).elim
          ·exact absurd ⟨hei, he⟩ h1
      rw [← hHc]
      exact Qdu hsame l.length (by omega) (Nat.le_refl _) this
     | false =>
      cases hci : QF l[i].op with
      | true => exact .inr (.inl ⟨rfl, rfl⟩)
      | false =>
      have free : ∀ q o, getL l q = some o → isE E o = true → (i ≤ q ∧ q < c) ∨ (c ≤ q ∧ q < i) → l[i].guard = none ∧ (QW o.op = true ∨ Qbn l[i].op = true ∨ ∀ z ∈ l[i].op.operands, ∀ id, idS (opnd (tsF X.nt l sv (fun _ => true) ts i) z) = some id → ∀ o', getL (HH q) id = some o' → getL (HH (q + 1)) id = some o') := by
       intro q o hq he hr
       have key : ((i, q) ∈ S ∨ (QW o.op = true ∧ l[i].guard = none)) → l[i].guard = none ∧ (QW o.op = true ∨ Qbn l[i].op = true ∨ ∀ z ∈ l[i].op.operands, ∀ id, idS (opnd (tsF X.nt l sv (fun _ => true) ts i) z) = some id → ∀ o', getL (HH q) id = some o' → getL (HH (q + 1)) id = some o') := by
        rintro (hS | ⟨h1, h2⟩)
        ·obtain ⟨x, y, hx, hy, hg, h⟩ := alias i q hS
         rw [ho] at hx
         cases hx
         exact ⟨hg, .inr h⟩
        ·exact ⟨h2, .inl h1⟩
       have nonS : (i, q) ∉ S → ¬ (isE E o = true ∧ (QW o.op = false ∨ l[i].guard.isSome = true) ∧ QF l[i].op = false ∧ (i, q) ∉ S) → QW o.op = true ∧ l[i].guard = none := by
        intro hS h3
        refine ⟨?_, ?_⟩
        ·cases hn : QW o.op with
         | true => rfl
         | false => exact absurd ⟨he, .inl hn, hci, hS⟩ h3
        ·cases hg : l[i].guard with
         | none => rfl
         | some g => exact absurd ⟨he, .inr (by rw [hg]; rfl), hci, hS⟩ h3
       refine key ?_
       by_cases hS : (i, q) ∈ S
       ·exact .inl hS
       ·right
        rcases hr with ⟨r1, r2⟩ | ⟨r1, r2⟩
        ·have hne : q ≠ i := fun e => by subst e; rw [ho] at hq; cases hq; rw [hei] at he; cases he
         have hd : D q = true := c2 q o r2 hq he
         rcases pair i q _ o ho hq (by omega) with h1 | ⟨_, _, h3, _⟩
         ·exact (behind q h1 hd).elim
         ·exact nonS hS h3
        ·have hd : D q = false := by rw [effD q o hq he]; simp; omega
         rcases pair q i o _ hq ho r2 with h1 | ⟨_, h2, _⟩
         ·rw [before q h1] at hd; cases hd
         ·exact nonS hS h2
      by_cases hany : ∃ q o, getL l q = some o ∧ isE E o = true ∧ ((i ≤ q ∧ q < c) ∨ (c ≤ q ∧ q < i))
      ·obtain ⟨q, o, hq, he, hr⟩ := hany
       have hg := (free q o hq he hr).1
       right; right
       cases hmv : Qbn l[i].op with
       | true => exact ⟨rfl, hg, .inl rfl⟩
       | false =>
       refine ⟨rfl, hg, .inr fun x hx id hid o' ho' => ?_⟩
       have sees : ∀ q o, getL l q = some o → isE E o = true → (i ≤ q ∧ q < c) ∨ (c ≤ q ∧ q < i) → QW o.op = true ∨ ∀ o', getL (HH q) id = some o' → getL (HH (q + 1)) id = some o' := by
        intro q o hq he hr
        rcases (free q o hq he hr).2 with h1 | h1 | h1
        ·exact .inl h1
        ·rw [hmv] at h1; cases h1
        ·exact .inr (h1 x hx id hid)
       rcases Nat.le_total i c with hic | hic
       ·exact stretch id c i hic c1 (fun k o h1 h2 hk he' => sees k o hk he' (.inl ⟨h1, h2⟩)) o' ho'
       ·have hpre := stretch id i c hic (by omega) (fun k o h1 h2 hk he' => sees k o hk he' (.inr ⟨h1, h2⟩))
        have hx2 : opnd (tsF X.nt l sv D ts l.length) x = opnd (tsF X.nt l sv (fun _ => true) ts i) x := QgB hlook x hx
        have hrep := Qab hst.tp x
        rw [hx2] at hrep
        have hnlz : ∀ g t, opnd (tsF X.nt l sv (fun _ => true) ts i) x ≠ .lz g t := by
         intro g t e
         have hevi' := hevi
         generalize sv i = s1 at hevi'
         generalize HH (i + 1) = q1 at hevi'
         cases hevi' with
         | val ns _ _ _ _ hlz _ _ =>
          have := Qew hlz x (by simpa using hx) g t e
          rw [e] at hid
          simp only [idS] at hid
          rw [this] at hid
          cases hid
         | lit _ _ _ _ _ hlz _ _ =>
          have := Qew hlz x (by simpa using hx) g t e
          rw [e] at hid
          simp only [idS] at hid
          rw [this] at hid
          cases hid
         | eff _ _ _ _ _ h1 => rw [hei] at h1; cases h1
         | call _ _ _ _ _ _ h1 => rw [hci] at h1; cases h1
         | callE _ _ _ _ _ _ h1 => rw [hci] at h1; cases h1
         | gval _ _ _ _ _ _ _ h1 => rw [hg] at h1; cases h1
         | gcall _ _ _ _ _ _ _ _ _ _ h1 => rw [hg] at h1; cases h1
        obtain ⟨o2, ho2⟩ := Qmc hrep hid hnlz
        have := hpre o2 ho2
        rw [ho'] at this
        cases this
        exact ho2
      ·left
       have e : ∀ a b, a ≤ b → b ≤ l.length → (∀ q o, a ≤ q → q < b → getL l q = some o → isE E o = false) → HH a = HH b := by
        intro a b hab
        induction b with
        | zero =>
         intro _ _; have : a = 0 := by omega
         subst this; rfl
        | succ b ihb =>
         intro hbl hq
         by_cases cc : a = b + 1
         ·subst cc; rfl
         ·have hob : getL l b = some (l[b]'(by omega)) := by rw [Qd]; simp
          rw [ihb (by omega) (by omega) fun q o h1 h2 => hq q o h1 (by omega)]
          exact (hsame b _ hob (hq b _ (by omega) (by omega) hob)).symm
       rcases Nat.le_total i c with hic | hic
       ·exact (e i c hic c1 fun q o h1 h2 hq => by
         cases he : isE E o with
         | false => rfl
         | true => exact absurd ⟨q, o, hq, he, .inl ⟨h1, h2⟩⟩ hany).symm
       ·exact e c i hic (by omega) fun q o h1 h2 hq => by
         cases he : isE E o with
         | false => rfl
         | true => exact absurd ⟨q, o, hq, he, .inr ⟨h1, h2⟩⟩ hany
    obtain ⟨H2', hev2, hef1, hef2⟩ := hevi.move hlook hH
    have hrun := hev2.run hΓ ho hst (k := wpAny X.P .any ops (Post X K F0 H0 μ0 k) fuel (listed.setIfInBounds i true)) (Q := Post X K F0 H0 μ0 k)
    rw [harr] at hrun
    refine hrun fun F' μ' v w' g1 g2 g3 g4 => ?_
    let D' : Nat → Bool := fun q => if q = i then true else D q
    have hD'i : D' i = true := by simp [D']
    have hD'o : ∀ q, q ≠ i → D' q = D q := fun q hq => by simp [D', hq]
    have hcl' : Closed l D' := by
     intro j o hj hd e he hb
     by_cases c : e.on = i
     ·rw [c]; exact hD'i
     ·rw [hD'o _ c]
      by_cases cj : j = i
      ·subst cj; exact deps o hj e he hb
      ·rw [hD'o j cj] at hd; exact hcl j o hj hd e he hb
    have hH2 : hD E l HH D' l.length = H2' := by
     cases hei : isE E l[i] with
     | true =>
      rw [hef1 hei]
      refine Qdu hsame l.length (by omega) (Nat.le_refl _) fun q o _ hq he => ?_
      by_cases e : q = i
      ·subst e; rw [hD'i]; simp
      ·rw [hD'o q e]
       rcases Nat.lt_or_gt_of_ne e with cc | cc
       ·rw [decide_eq_true (by omega)]
        rcases pair q i o _ hq ho cc with h1 | ⟨h1, _⟩
        ·exact before q h1
        ·exact absurd ⟨he, hei⟩ h1
       ·rw [decide_eq_false (by omega)]
        cases hd : D q with
        | false => rfl
        | true =>
         rcases pair i q _ o ho hq cc with h1 | ⟨h1, _⟩
         ·exact (behind q h1 hd).elim
         ·exact absurd ⟨hei, he⟩ h1
     | false =>
      rw [hef2 hei]
      refine Qdu hsame l.length c1 (Nat.le_refl _) fun q o _ hq he => ?_
      have hne : q ≠ i := fun e => by subst e; rw [ho] at hq; cases hq; rw [hei] at he; cases he
      rw [hD'o q hne]
      exact effD q o hq he
    refine ih (listed.setIfInBounds i true) D' (by simp [hls]) ?_ hcl' ?_ F' μ' (a.put l[i].dst v) w' ?_
    ·intro q
     by_cases e : q = i
     ·subst e
      rw [hD'i]
      simp [Array.getD_eq_getD_getElem?, hls, hsz, hilt]
     ·rw [hD'o q e, hD' q, Array.getD_eq_getD_getElem?, Array.getD_eq_getD_getElem?, Array.getElem?_setIfInBounds_ne (fun h => e h.symm)]
    ·have := Qed hDi hD'i hD'o l.length hilt
     omega
    ·rw [hH2]
     refine ⟨hst.le.le_trans' g1, hst.ext.trans g2, g3, ?_, ?_, ?_, hst.n0⟩
     ·intro t
      have hold := RepS.mono g1 g2 _ _ (hst.tp t)
      by_cases cd : l[i].dst = some t
      ·by_cases clt : t < X.nt
       ·have hf : find t (tsF X.nt l sv D' ts l.length) = sv i := by
         have h1 : find t (tsF X.nt l sv D' ts l.length) = find t (tsF X.nt l sv D' ts (i + 1)) := by
          refine Qdz l.length (by omega) fun q hq hd => ?_
          by_cases e : q = i
          ·subst e; rw [hD'i]; simp
          ·rw [hD'o q e, writers t (.inr cd) q hq hd e]
           by_cases cc : q < i
           ·rw [decide_eq_true cc, decide_eq_true (by omega)]; rfl
           ·rw [decide_eq_false cc, decide_eq_false (by omega)]; rfl
         rw [h1]
         simp only [tsF, hD'i, if_true]
         rw [Qak, if_pos ⟨by simp [Qbj, ho, cd], clt⟩]
        rw [hf]
        have : (a.put l[i].dst v).tmps.getD t undef = v := by
         have hlt : t < a.tmps.size := by rw [hst.sz]; exact clt
         rw [cd]
         simp [Act.put, Array.getD, hlt]
        rw [this]
        exact g4
       ·have hf : find t (tsF X.nt l sv D' ts l.length) = find t (tsF X.nt l sv D ts l.length) := by
         have : ∀ DD m, find t (tsF X.nt l sv DD ts m) = find t ts := by
          intro DD m
          induction m with
          | zero => rfl
          | succ m ihm =>
           simp only [tsF]
           split
           ·rw [Qak, if_neg (fun h => clt h.2)]; exact ihm
           ·exact ihm
         rw [this, this]
        rw [hf]
        have : (a.put l[i].dst v).tmps = a.tmps := by
         rw [cd]
         simp only [Act.put]
         exact Array.setIfInBounds_eq_of_size_le (by rw [hst.sz]; omega)
        rw [this]
        exact hold
      ·have hf : find t (tsF X.nt l sv D' ts l.length) = find t (tsF X.nt l sv D ts l.length) := by
        have : ∀ m, find t (tsF X.nt l sv D' ts m) = find t (tsF X.nt l sv D ts m) := by
         intro m
         induction m with
         | zero => rfl
         | succ m ihm =>
          simp only [tsF]
          by_cases e : m = i
          ·subst e
           rw [hD'i, if_pos rfl, hDi, if_neg (by simp), Qak, if_neg (by simp [Qbj, ho, cd])]
           exact ihm
          ·rw [hD'o m e]
           split
           ·rw [Qak, Qak, ihm]
           ·exact ihm
        exact this _
       rw [hf]
       have : (a.put l[i].dst v).tmps.getD t undef = a.tmps.getD t undef := by
        cases hdd : l[i].dst with
        | none => rfl
        | some d =>
         have hne : d ≠ t := fun e => cd (by rw [hdd, e])
         simp only [Act.put, Array.getD_eq_getD_getElem?]
         rw [Array.getElem?_setIfInBounds_ne hne]
       rw [this]
       exact hold
     ·cases hdd : l[i].dst <;> simp [Act.put, hst.sz]
     ·cases hdd : l[i].dst <;> simp [Act.put, hst.df]
 have hsat0 : Sat X K F0 H0 μ0 ts H F μ a { w with drawn := w.drawn + 1 } := by
  refine ⟨hs.le, hs.ext, ?_, hs.tp, hs.sz, hs.df, hs.n0⟩
  refine ⟨hs.hs.os, hs.hs.tape, hs.hs.output, hs.hs.fr, hs.hs.kp, fun i o hi => ?_, hs.hs.sp, hs.hs.ij, hs.hs.dj⟩
  have := hs.hs.ob i o hi
  cases o with
  | vr cs => exact this
  | arr e es n g => exact this
  | dead => trivial
  | mp sh z va ks val => exact this
 refine main ops.size (Array.replicate ops.size false) (fun _ => false) (by simp) (fun i => by simp [Array.getD_eq_getD_getElem?, Array.getElem?_replicate]; split <;> rfl) (fun j o _ hd => by cases hd) ?_ F μ a _ ?_
 ·rw [hsz]
  have : ∀ m, QaF (fun _ => false) m = m := by
   intro m
   induction m with
   | zero => rfl
   | succ m ih => simp [QaF, ih]
  exact this _
 ·have e1 : ∀ m, tsF X.nt l sv (fun _ => false) ts m = ts := by
   intro m
   induction m with
   | zero => rfl
   | succ m ih => simp [tsF, ih]
  have e2 : ∀ m, hD E l HH (fun _ => false) m = HH 0 := by
   intro m
   induction m with
   | zero => rfl
   | succ m ih =>
    simp only [hD]
    split
    ·simp [ih]
    ·exact ih
  rw [e1, e2, hh0]
  exact hsat0
theorem QjV {X : Cx} (hΓ : Qo X.P X.Γ) (hm : X.P.follows .mixedOrders = true) {id : Nat} {ops : Array Oper} {ts : Ts} {H : List O} {k : Kp} (E : List Nat) (S : List (Nat × Nat)) (hok : Qgn E S ops.toList = true) (h : Qcw X E ops.toList ops.toList ts H fun ts' H' => match S.all (fun p => Qdm ops.toList ts' p.1 p.2) with
   | true => k .normal ts' H'
   | false => StuckC .skip ts' H') :
  AW X (.region id ops true) ts H k := fun K F0 H0 μ0 F μ a w hs => wp_region_any hm (QiK hΓ hm E S hok h K F0 H0 μ0 F μ a w hs)
theorem Dr.mkE {X : Cx} (hΓ : Qo X.P X.Γ) (hm : X.P.follows .mixedOrders = true) {id : Nat} {ops : Array Oper} {ts : Ts} {H : List O} {k : Kp} (E : List Nat) (S : List (Nat × Nat)) (hok : Qgn E S ops.toList = true) (h : Qcw X E ops.toList ops.toList ts H fun ts' H' => match S.all (fun p => Qdm ops.toList ts' p.1 p.2) with
   | true => k .normal ts' H'
   | false => StuckC .skip ts' H') : Dr X id ops ts H k := by
 refine ⟨?_⟩
 exact QjV hΓ hm E S hok h
theorem Dr.mk {X : Cx} (hΓ : Qo X.P X.Γ) (hm : X.P.follows .mixedOrders = true) {id : Nat} {ops : Array Oper} {ts : Ts} {H : List O} {k : Kp} (hok : Qgn [] [] ops.toList = true) (h : Qcw X [] ops.toList ops.toList ts H (k .normal)) : Dr X id ops ts H k := by
 refine ⟨?_⟩
 exact QjV hΓ hm [] [] hok h
theorem Dr.mkS {X : Cx} (hΓ : Qo X.P X.Γ) (hm : X.P.follows .mixedOrders = true) {id : Nat} {ops : Array Oper} {ts : Ts} {H : List O} {k : Kp} (S : List (Nat × Nat)) (hok : Qgn [] S ops.toList = true) (h : Qcw X [] ops.toList ops.toList ts H fun ts' H' => match S.all (fun p => Qdm ops.toList ts' p.1 p.2) with
   | true => k .normal ts' H'
   | false => StuckC .skip ts' H') : Dr X id ops ts H k := by
 refine ⟨?_⟩
 exact QjV hΓ hm [] S hok h
end Go.Am
end

section
namespace Go.Am
section
variable {id n : Nat} {g : Nat → Nat → C}
variable {K : Keep} {F : Mem} {H : List O} {μ : Nat → Value} {w : World} {e es : Nat}
theorem Sat.fz {X : Cx} {F0 : Mem} {H0 : List O} {μ0 : Nat → Value} {ts : Ts} {a : Act} (hs : Sat X K F0 H0 μ0 ts H F μ a w) (hid : getL H id = some (.arr e es n g)) (hn : X.n0 ≤ id) (him : ∀ i, i < n → ∀ j, j < es → (g i j).imm = true) :
  Sat X K F0 H0 μ0 (fzT id n g ts) (fzH id n g H) (fzM F H μ w id) μ a w :=
 ⟨hs.le.le_trans' (QdV hs.hs), hs.ext.fz (Nat.le_trans hs.n0 hn), QiZ hs.hs hid him, fun t => by rw [Qmu]; exact QfN hs.hs hid him (hs.tp t), hs.sz, hs.df, hs.n0⟩
theorem Mv.fz {X : Cx} {ts : Ts} (id : Nat) (hid : getL H id = some (.arr e es n g)) (hn : X.n0 ≤ id) (him : ∀ i, i < n → ∀ j, j < es → (g i j).imm = true) : Mv X ts H (fzT id n g ts) (fzH id n g H) :=
 fun _ _ _ _ _ _ _ _ hs => ⟨_, _, hs.fz hid hn him⟩
theorem CallN.fz {X : Cx} {f : FuncId} {args : List S} {dst : Option Tmp} {ts : Ts} {k : Ts → List O → Prop} (id : Nat) (hid : getL H id = some (.arr e es n g)) (hn : X.n0 ≤ id) (him : ∀ i, i < n → ∀ j, j < es → (g i j).imm = true)
  (h : CallN X f (fzA id n g args) dst (fzT id n g ts) (fzH id n g H) k) : CallN X f args dst ts H k := by
 obtain ⟨h1, h2⟩ := h.out
 refine ⟨h1, fun K F0 H0 μ0 F μ a w vs hs hA => ?_⟩
 refine h2 K F0 H0 μ0 _ μ a w vs (hs.fz hid hn him) ⟨by rw [QpP]; exact hA.1, fun j s hj => ?_⟩
 rw [Qpq] at hj
 cases hy : getL args j with
 | none => rw [hy] at hj; cases hj
 | some y =>
  rw [hy] at hj
  cases hj
  obtain ⟨v, v1, v2⟩ := hA.2 j y hy
  exact ⟨v, v1, QfN hs.hs hid him v2⟩
structure RM (n0 : Nat) (s : S) (H : List O) (s' : S) (H' : List O) : Prop where
 intro ::
 out : ∀ K F μ w v, HSat K F H μ w → RepS F H μ s v → ∃ F' μ', F.le F' ∧ HSat K F' H' μ' w ∧ RepS F' H' μ' s' v ∧ ∀ H0 μ0, H0.length ≤ n0 → Ext H0 μ0 H μ → Ext H0 μ0 H' μ'
theorem RM.refl {n0 : Nat} {s : S} : RM n0 s H s H := ⟨fun _ F μ _ _ hw hs => ⟨F, μ, Mem.le_refl F, hw, hs, fun _ _ _ h => h⟩⟩
theorem RM.trans {n0 : Nat} {s s' s'' : S} {H' H'' : List O} (h : RM n0 s H s' H') (k : RM n0 s' H' s'' H'') : RM n0 s H s'' H'' := by
 refine ⟨fun K F μ w v hw hs => ?_⟩
 obtain ⟨F', μ', h1, h2, h3, h4⟩ := h.out K F μ w v hw hs
 obtain ⟨F'', μ'', k1, k2, k3, k4⟩ := k.out K F' μ' w v h2 h3
 exact ⟨F'', μ'', h1.le_trans' k1, k2, k3, fun H0 μ0 hn he => k4 H0 μ0 hn (h4 H0 μ0 hn he)⟩
theorem RM.fz {n0 : Nat} {s s' : S} {H' : List O} (id : Nat) (hid : getL H id = some (.arr e es n g)) (hn : n0 ≤ id) (him : ∀ i, i < n → ∀ j, j < es → (g i j).imm = true) (h : RM n0 (fzS id n g s) (fzH id n g H) s' H') : RM n0 s H s' H' :=
 RM.trans ⟨fun K F μ w v hw hs => ⟨_, μ, QdV hw, QiZ hw hid him, QfN hw hid him hs, fun _ _ hl he => he.fz (Nat.le_trans hl hn)⟩⟩ h
theorem RM.wk {n0 : Nat} {s s' : S} {H' : List O} (m : Nat) (hm : H'.length = m) (h : HWkL idN m H H') (hs : wkS idN m s s') (hn : n0 ≤ m) : RM n0 s H s' H' := by
 subst hm
 refine ⟨fun K F μ w v hw hv => ?_⟩
 have hk : HWk idN H H' := ⟨fun i o' hi => QfX h i o' hi, fun i j _ _ e => e⟩
 exact ⟨F, fun i => μ (idN i), Mem.le_refl F, hw.wk hk, QfF hk s s' hs v hv, fun H0 μ0 hl he => he.wk hk (Nat.le_trans hl hn)⟩
theorem RM.ren {s s' : S} {H' : List O} (ρ : Nat → Nat) (m : Nat) (hm : H'.length = m) (h : HWk ρ H H') (hs : wkS ρ m s s') : RM 0 s H s' H' := by
 subst hm
 refine ⟨fun K F μ w v hw hv => ?_⟩
 refine ⟨F, fun i => μ (ρ i), Mem.le_refl F, hw.wk h, QfF h s s' hs v hv, fun H0 μ0 hl _ => ?_⟩
 have : H0 = [] := List.length_eq_zero_iff.1 (by omega)
 subst this
 exact ⟨fun _ _ hc => by simp [getL] at hc, fun _ _ _ _ _ hc => by simp [getL] at hc, fun _ _ _ _ _ _ hc => by simp [getL] at hc⟩
theorem RM.imm {s s' : S} (h : s.imm = true) (hs : wkS idN 0 s s') : RM 0 s H s' [] :=
 RM.wk 0 rfl (by cases H <;> trivial) hs (Nat.le_refl 0)
theorem CSpec.rm {P : Program} {f : FuncId} {args : List S} {Q : S → List O → Prop} (h : CSpec P f args H fun s H' => ∃ s' H'', RM H.length s H' s' H'' ∧ Q s' H'') : CSpec P f args H Q := by
 intro K F μ w vs hw hA
 refine (h K F μ w vs hw hA).mono ?_
 rintro e w' ⟨v, F', μ', s, H', rfl, h1, h2, h3, h4, s', H'', hr, hq⟩
 obtain ⟨F'', μ'', r1, r2, r3, r4⟩ := hr.out K F' μ' w' v h2 h4
 exact ⟨v, F'', μ'', s', H'', rfl, h1.le_trans' r1, r2, r4 H μ (Nat.le_refl _) h3, r3, hq⟩
theorem PSpec.rm {P : Program} {f : FuncId} {args : List S} {r : S} (h : CSpec P f args [] fun s H' => RM 0 s H' r []) : PSpec P f args r := by
 refine CSpec.rm (Q := fun s _ => s = r) ?_
 intro K F μ w vs hw hA
 refine (h K F μ w vs hw hA).mono ?_
 rintro e w' ⟨v, F', μ', s, H', h0, h1, h2, h3, h4, hr⟩
 exact ⟨v, F', μ', s, H', h0, h1, h2, h3, h4, r, [], hr, rfl⟩
theorem CSpec.mono {P : Program} {f : FuncId} {args : List S} {Q Q' : S → List O → Prop} (h : CSpec P f args H Q) (hq : ∀ s H', Q s H' → Q' s H') : CSpec P f args H Q' := by
 intro K F μ w vs hw hA
 refine (h K F μ w vs hw hA).mono ?_
 rintro e w' ⟨v, F', μ', s, H', h0, h1, h2, h3, h4, hr⟩
 exact ⟨v, F', μ', s, H', h0, h1, h2, h3, h4, hq _ _ hr⟩
end
end Go.Am
end
