/- Contracts, lemmas; no condition. -/
import Derived.Test.YtjjlblnbeggejaaGreatP09
set_option linter.all false
namespace Go.Am
variable {ts : Ts} {ns : List Prop} {s : S} {b i id e : Nat} {c : Array Value} {o : O} {x : Operand} {t T : TypeId} {te : TI} {d : Tmp} {args : Array Operand} {tys : Array TypeId} {md : Bool} {P : Program} {w : World} {cs : List C} {k : Kp} {p : Nat × Nat} {oy oq : Oper} {ops : Array Oper} {X : Cx}
theorem QpC {Γ : Env} {H H' : List O} {op : Op} (h : eff Γ ts H op = some (ns, s, H')) (hn : QaR op = true) : ∃ x, H' = H ++ [x] := by
 unfold eff at h
 split at h
 ·split at h
  ·rw [QdP] at h; cases h; exact ⟨_, rfl⟩
  ·cases h
 ·split at h
  split at h
  ·cases h; exact ⟨_, rfl⟩
  ·cases h
 ·simp [QaR] at hn
 ·split at h
  ·split at h
   ·split at h
    ·split at h
     ·simp only [Qbt, Qxv, QxI] at h
      obtain ⟨_, _, rfl⟩ := h
      exact ⟨_, rfl⟩
     ·cases h
    ·cases h
   ·cases h
  ·cases h
 ·split at h
  ·split at h
   ·split at h
    ·rename_i hb
     cases h
     unfold Qdg at hb
     split at hb
     ·split at hb
      ·cases hb; exact ⟨_, rfl⟩
      ·cases hb
     ·cases hb
    ·cases h
   ·cases h
  ·cases h
 ·simp [QaR] at hn
 ·simp [QaR] at hn
 ·simp [QaR] at hn
 ·unfold QlT at h
  split at h
  ·cases h; exact ⟨_, rfl⟩
  ·cases h
 ·simp [QaR] at hn
 ·simp [QaR] at hn
 ·simp [QaR] at hn
 ·cases h
def hD (E : List Nat) (l : List Oper) (HH : Nat → List O) (D : Nat → Bool) : Nat → List O
 | 0 => HH 0
 | k + 1 => match getL l k with
  | some o => if isE E o = true ∧ D k = true then HH (k + 1) else hD E l HH D k
  | none => hD E l HH D k
def Pre (H H' : List O) : Prop := ∃ e, H' = H ++ e
theorem Pre.refl (H : List O) : Pre H H := ⟨[], by simp⟩
theorem Pre.trans {a b c : List O} (h : Pre a b) (k : Pre b c) : Pre a c := by
 obtain ⟨e, rfl⟩ := h
 obtain ⟨f, rfl⟩ := k
 exact ⟨e ++ f, by simp⟩
theorem Pre.get {a b : List O} (h : Pre a b) (hi : getL a i = some o) : getL b i = some o := by
 obtain ⟨e, rfl⟩ := h
 have := Qt hi
 rw [Qc] at hi ⊢
 rw [QxS this]
 exact hi
section
variable {E : List Nat} {l : List Oper} {HH : Nat → List O}
theorem Qjb {D : Nat → Bool} (hsame : ∀ k o, getL l k = some o → isE E o = false → HH (k + 1) = HH k) : ∀ m, i ≤ m → m ≤ l.length → (∀ k o, k < m → getL l k = some o → isE E o = true → D k = decide (k < i)) → hD E l HH D m = HH i := by
 have low : ∀ m, m ≤ l.length → (∀ k o, k < m → getL l k = some o → isE E o = true → D k = true) → hD E l HH D m = HH m := by
  intro m
  induction m with
  | zero => intro _ _; rfl
  | succ m ih =>
   intro hl h
   have ho : getL l m = some (l[m]'om) := by rw [Qc]; simp
   simp only [hD, ho]
   by_cases c : isE E (l[m]'om) = true
   ·rw [Qxt ⟨c, h m _ om ho c⟩]
   ·rw [Qxu (fun e => c e.1), ih om fun k o hk => h k o om]
    exact (hsame m _ ho (by simpa using c)).symm
 intro m
 induction m with
 | zero =>
  intro hi _ _; have : i = 0 := by omega
  subst this; rfl
 | succ m ih =>
  intro hi hl h
  by_cases c : i = m + 1
  ·subst c
   exact low (m + 1) hl fun k o hk ho he => by rw [h k o hk ho he]; simp [hk]
  ·have ho : getL l m = some (l[m]'om) := by rw [Qc]; simp
   simp only [hD, ho]
   rw [Qxu, ih om om fun k o hk => h k o om]
   rintro ⟨e1, e2⟩
   rw [h m _ om ho e1] at e2
   simp at e2
   omega
end
theorem QlW (E : List Nat) (l : List Oper) (D : Nat → Bool) : ∃ c, c ≤ l.length ∧ (∀ k o, k < c → getL l k = some o → isE E o = true → D k = true) ∧ (c = l.length ∨ ∃ o, getL l c = some o ∧ isE E o = true ∧ D c = false) := by
 by_cases h : ∃ k, ∃ o, getL l k = some o ∧ isE E o = true ∧ D k = false
 ·obtain ⟨c, ⟨o, h1, h2, h3⟩, hmin⟩ := Qbe h
  refine ⟨c, Nat.le_of_lt (Qt h1), fun k o' hk ho he => ?_, .inr ⟨o, h1, h2, h3⟩⟩
  cases hd : D k with
  | true => rfl
  | false => have := hmin k ⟨o', ho, he, hd⟩; omega
 ·refine ⟨l.length, QxB _, fun k o _ ho he => ?_, .inl rfl⟩
  cases hd : D k with
  | true => rfl
  | false => exact absurd ⟨k, o, ho, he, hd⟩ h
def Qbs (D : Nat → Bool) : Nat → Nat
 | 0 => 0
 | k + 1 => Qbs D k + if D k = true then 0 else 1
theorem QhY {D : Nat → Bool} : ∀ n, Qbs D n = 0 → ∀ k, k < n → D k = true
 | 0, _, k, hk => by omega
 | n + 1, h, k, hk => by
  simp only [Qbs] at h
  by_cases c : D n = true
  ·by_cases e : k = n
   ·rw [e]; exact c
   ·exact QhY n om k om
  ·rw [Qxu c] at h; omega
theorem Qiy {D D' : Nat → Bool} {i : Nat} (hi : D i = false) (hi' : D' i = true) (ho : ∀ k, k ≠ i → D' k = D k) : ∀ n, i < n → Qbs D' n + 1 = Qbs D n
 | 0, h => by omega
 | n + 1, h => by
  simp only [Qbs]
  by_cases e : i = n
  ·subst e
   have : ∀ m, m ≤ i → Qbs D' m = Qbs D m := by
    intro m
    induction m with
    | zero => intro _; rfl
    | succ m ih => intro hm; simp only [Qbs]; rw [ih om, ho m om]
   rw [this i (QxB _), hi', hi]
   simp
  ·have := Qiy hi hi' ho n om
   rw [ho n (fun q => e q.symm)]
   omega
theorem Qts {F : Mem} {H : List O} {μ : Nat → Value} {v : Value} (h : RepS F H μ s v) (hid : idS s = some id) (hlz : ∀ g t, s ≠ .lz g t) : ∃ o, getL H id = some o := by
 cases s with
 | c x =>
  cases x <;> simp [idS, idC] at hid
  ·subst hid; obtain ⟨⟨cs, h1⟩, _⟩ := h; exact ⟨_, h1⟩
  ·subst hid; obtain ⟨_, e, es, n, g, h1, _⟩ := h; exact ⟨_, h1⟩
  ·subst hid; obtain ⟨_, e, n, g, h1, _⟩ := h; exact ⟨_, h1⟩
  ·subst hid; obtain ⟨⟨sh, z, va, ks, val, h1⟩, _⟩ := h; exact ⟨_, h1⟩
 | lz g t => exact absurd rfl (hlz g t)
 | so id' es off len tot => simp [idS] at hid; subst hid; obtain ⟨_, _, _, _, _, _, _, h1, _⟩ := h; exact ⟨_, h1⟩
 | _ => simp [idS] at hid
theorem Qh8 {ts : Ts} : ∀ {xs : List Operand}, lzOk ts xs = true → ∀ x ∈ xs, ∀ g t, opnd ts x = .lz g t → idS t = none
 | [], _, x, hx => by simp at hx
 | y :: r, h, x, hx => by
  simp only [lzOk, QxA] at h
  intro g t e
  rcases Qyf.1 hx with rfl | hx
  ·have := h.1
   rw [e] at this
   cases hi : idS t with
   | none => rfl
   | some i => simp [hi] at this
  ·exact Qh8 h.2 x hx g t e
def fixB (l : List Oper) (i : Nat) : Operand → Bool
 | .tmp t => !(l.drop i).any fun o => o.dst == some t
 | _ => true
def QeF (l : List Oper) (ts : Ts) (i q : Nat) : Bool :=
 match getL l i with
 | some x => match getL l q with
  | some y => x.guard.isNone && (match y.op with
   | .call { callee := .value (.func _), args, .. } => Qcm x.op || x.op.operands.toList.all (fun z => fixB l i z && (match idS (opnd ts z) with
     | some m => args.toList.all (fun a => fixB l q a && (match idS (opnd ts a) with
      | some n => !Nat.beq n m
      | none => true))
     | none => true))
   | .call { callee := .builtin .append, args, .. } => Qcm x.op || x.op.operands.toList.all (fun z => fixB l i z && (match idS (opnd ts z) with
     | some m => args.toList.all (fun a => fixB l q a && (match idS (opnd ts a) with
      | some n => !Nat.beq n m
      | none => true))
     | none => true))
   | .store _ a _ => fixB l q a && (match idS (opnd ts a) with
    | some n => Qcm x.op || x.op.operands.toList.all (fun z => fixB l i z && (match idS (opnd ts z) with
     | some m => !Nat.beq n m
     | none => true))
    | none => false)
   | _ => false)
  | none => false
 | none => false
theorem Qdo {nt : Nat} {l : List Oper} {sv : Nat → S} (hi : i ≤ l.length) (h : fixB l i x = true) : opnd (tsF nt l sv (fun _ => true) ts l.length) x = opnd (tsF nt l sv (fun _ => true) ts i) x := by
 cases x with
 | tmp t =>
  refine Qic l.length hi fun k hk hd => ?_
  simp only [fixB, Qyp, List.any_eq_false] at h
  by_cases c : k < i
  ·simp [c]
  ·exfalso
   have ho : getL l k = some l[k] := by rw [Qc]; simp [hk]
   have hd' : l[k].dst = some t := by simpa [Qa4, ho] using hd
   have hm : l[k] ∈ l.drop i := by
    have : (l.drop i)[k - i]? = some l[k] := by
     rw [QyE]
     rw [show i + (k - i) = k by omega]
     simp [hk]
    exact Qx8 this
   have := h _ hm
   rw [hd'] at this
   simp at this
 | _ => rfl
theorem Qq6 {Γ : Env} {H H' : List O} {t : Nat} {a : Operand} (h : eff Γ ts H (.store t a x) = some (ns, s, H')) {n : Nat} (hn : idS (opnd ts a) = some n) : ∀ id, id ≠ n → getL H' id = getL H id := by
 simp only [eff] at h
 split at h
 ·split at h
  ·rename_i p c hb
   have hc := Qdd hb
   rw [hn] at hc
   split at h
   ·split at h
    ·split at h
     ·rename_i r H1 hst
      cases h
      unfold Qen at hst
      split at hst
      ·split at hst
       ·split at hst
        ·split at hst
         ·rename_i hset
          cases hst
          cases hc
          exact (Qaz hset).2
         ·cases hst
        ·cases hst
       ·cases hst
      ·split at hst
       ·split at hst
        ·rename_i hset
         cases hst
         cases hc
         exact (Qaz hset).2
        ·cases hst
       ·cases hst
      ·cases hst
     ·cases h
    ·cases h
   ·cases h
  ·cases h
 ·cases h
theorem Ql2 {H H' : List O} {x c : C} {src : List Prop × Nat × (Nat → Nat → C)} (h : appP e te H x src = some (ns, c, H')) (hx : idC x ≠ some id) (ho : getL H id = some o) : getL H' id = some o := by
 have push : ∀ z : O, getL (H ++ [z]) id = some o := fun z => by
  have := Qt ho
  rw [Qad _ _ _ om]; exact ho
 obtain ⟨ns', m, g2⟩ := src
 simp only [appP] at h
 split at h
 ·cases h; exact push _
 ·split at h
  ·cases h; exact push _
  ·cases h
 ·split at h
  ·split at h
   ·split at h
    ·split at h
     ·rename_i hset
      cases h
      rw [(Qaz hset).2 id (fun q => hx (by rw [q]; rfl))]; exact ho
     ·cases h
    ·cases h
   ·cases h
  ·cases h
 ·cases h
theorem QsF {H H' : List O} {x y c : C} (h : appK e te H x y = some (ns, c, H')) (hx : idC x ≠ some id) (ho : getL H id = some o) : getL H' id = some o := by
 unfold appK at h
 split at h
 ·exact Ql2 h hx ho
 ·cases h
theorem QrS {H H' : List O} {x c : C} {a d f g : Nat} (h : Qi1 e te H x a b d f g = some (ns, c, H')) (hx : idC x ≠ some id) (ho : getL H id = some o) : getL H' id = some o := by
 unfold Qi1 at h
 split at h
 ·exact Ql2 h hx ho
 ·cases h
theorem Qqc {Γ : Env} {H H' : List O} (h : eff Γ ts H (.call { callee := .builtin .append, args := args, argTypes := tys }) = some (ns, s, H')) (hn : ∀ a ∈ args.toList, idS (opnd ts a) ≠ some id) (ho : getL H id = some o) : getL H' id = some o := by
 simp only [eff] at h
 split at h
 ·rename_i x y hargs
  split at h
  ·split at h
   ·split at h
    ·split at h
     ·split at h
      ·rename_i p c hb
       have hc := Qdd hb
       split at h
       ·split at h
        ·rename_i happ
         cases h
         refine QsF happ (fun q => hn x (by rw [hargs]; simp) ?_) ho
         rw [← hc]; exact q
        ·cases h
       ·split at h
        ·rename_i happ
         cases h
         refine QrS happ (fun q => hn x (by rw [hargs]; simp) ?_) ho
         rw [← hc]; exact q
        ·cases h
       ·cases h
      ·cases h
     ·cases h
    ·cases h
   ·cases h
  ·cases h
 ·cases h
theorem Qtt {H H' : List O} {x y c : C} (h : cutK md e te H x y = some (ns, c, H')) (hx : idC x ≠ some id) (ho : getL H id = some o) : getL H' id = some o := by
 unfold cutK at h
 split at h
 ·split at h
  ·split at h
   ·split at h
    ·split at h
     ·split at h
      ·split at h
       ·cases h
        have hi : id < H.length := (QxU.1 (by rw [← Qc]; exact ho)).1
        rw [Qad _ _ _ om]; exact ho
       ·cases h
      ·split at h
       ·rename_i hset
        cases h
        rw [(Qaz hset).2 id (fun q => hx (by rw [q]; rfl))]; exact ho
       ·cases h
     ·cases h
    ·cases h
   ·cases h
  ·cases h
 ·cases h
theorem Qpx {Γ : Env} {H H' : List O} (h : Qb8 md Γ ts H (.call { callee := .builtin .append, args := args, argTypes := tys }) = some (ns, s, H')) (hn : ∀ a ∈ args.toList, idS (opnd ts a) ≠ some id) (ho : getL H id = some o) : getL H' id = some o := by
 simp only [Qb8] at h
 split at h
 ·rename_i x y hargs
  split at h
  ·split at h
   ·split at h
    ·split at h
     ·split at h
      ·rename_i p c hb
       have hc := Qdd hb
       split at h
       ·split at h
        ·rename_i happ
         cases h
         refine Qtt happ (fun q => hn x (by rw [hargs]; simp) ?_) ho
         rw [← hc]; exact q
        ·cases h
       ·cases h
      ·cases h
     ·cases h
    ·cases h
   ·cases h
  ·cases h
 ·cases h
theorem Qkl {ts : Ts} : ∀ (xs : List Operand) (q : List Prop) (l : List S), Qb4 ts xs = some (q, l) → ∀ a ∈ l, ∃ x ∈ xs, idS a = idS (opnd ts x)
 | [], q, l, h, a, ha => by simp only [Qb4, Qxv, QxI] at h; rw [← h.2] at ha; cases ha
 | x :: r, q, l, h, a, ha => by
  simp only [Qb4] at h
  split at h
  ·rename_i q' l' hr
   cases h
   rcases Qyf.1 ha with rfl | ha
   ·exact ⟨x, by simp, Qdd (s := opnd ts x) (p := (bare (opnd ts x)).1) rfl⟩
   ·obtain ⟨y, y1, y2⟩ := Qkl r q' l' hr a ha
    exact ⟨y, by simp [y1], y2⟩
  ·cases h
theorem QtA (w : World) (o : Obj) {r : Nat} (h : r < w.heap.size) : (w.alloc o).heap[r]? = w.heap[r]? := by
 show (w.heap.push o)[r]? = w.heap[r]?
 rw [Array.getElem?_push_lt h, Qx9 h]
theorem Quz (w : World) (o : Obj) : (w.alloc o).heap[w.heap.size]? = some o := by
 show (w.heap.push o)[w.heap.size]? = _
 simp
def Keep.also (K : Keep) (b : Nat) (o : Obj) : Keep := { K with mem := fun b' => if b' = b then some o else K.mem b' }
theorem QnY {Γ : Env} {K : Keep} {F : Mem} {H : List O} {μ : Nat → Value} (hw : HSat K F H μ w) (hΓ : Qw P Γ) {t : Nat} {i : TI} (hi : Γ.at t = some i) (a : Act) (o : Oper) (ho : o.op = .alloc t) :
  ∃ c T, (execOp a.eval o).run P w = .ok (.value (.pointer (some ⟨w.heap.size, 0, none⟩))) (w.alloc (.cells c T (0, 0))) ∧ RepL F H μ (QN i) c ∧ HSat (K.also w.heap.size (.cells c T (0, 0))) F H μ (w.alloc (.cells c T (0, 0))) ∧ K.mem w.heap.size = none := by
 obtain ⟨z, z1, z2, _⟩ := QcI (P := P) (F := F) (H := H) (μ := μ) (hΓ t i hi) w
 have hnone : K.mem w.heap.size = none := by
  cases h : K.mem w.heap.size with
  | none => rfl
  | some o =>
   have := hw.kp _ _ h
   rw [Qx1 (QxB _)] at this
   cases this
 have hold : ∀ b o, w.heap[b]? = some o → (w.alloc (.cells z.cells t (0, 0))).heap[b]? = some o := fun b o hb => by
  rw [QtA w _ (QxH.1 hb).1]; exact hb
 have hlt : ∀ b o, w.heap[b]? = some o → b ≠ w.heap.size := fun b o hb e => by
  have := (QxH.1 hb).1
  omega
 refine ⟨z.cells, t, ?_, z2, ⟨hw.os, hw.tape, hw.output, fun b o h => hold b o (hw.fr b o h), fun b o h => ?_, fun id o h => ?_, fun id b h => ?_, hw.ij, fun b o h => ?_⟩, hnone⟩
 ·unfold execOp
  rw [ho]
  apply val1
  show (do let zero ← zeroValue t; pure (Value.pointer (some (← newVar t zero))) : Sem Value).run P w = _
  rw [Qg z1]
  simp [newVar, newRow, newObj, Sem.run]
 ·simp only [Keep.also] at h
  split at h
  ·rename_i e; subst e; cases h; exact Quz w _
  ·exact hold b o (hw.kp b o h)
 ·exact (hw.ob id o h).other (Ext.refl H μ) rfl fun b hb _ => QtA w _ hb
 ·have h1 := hw.sp id b h
  refine ⟨h1.1, ?_⟩
  have hb : b ≠ w.heap.size := by
   obtain ⟨⟨o, o1, o2⟩, hb⟩ := h
   have := hw.ob id o o1
   cases o with
   | vr cs =>
    obtain ⟨b', c, T, q1, q2, _⟩ := this
    rw [q1] at hb; cases hb
    exact hlt _ _ q2
   | arr e es n g =>
    obtain ⟨xs, q1, _⟩ := this
    rcases q1.2 with ⟨q, _⟩ | ⟨b', cap, cur, q, _, q3, _⟩
    ·rw [q] at hb; cases hb
    ·rw [q] at hb; cases hb
     exact hlt _ _ q3
   | dead => simp at o2
   | mp sh z va ks val =>
    obtain ⟨b', es, ck, q1, q2, _⟩ := this
    rw [q1] at hb; cases hb
    exact hlt _ _ q2
  simp only [Keep.also]
  rw [Qxu hb]
  exact h1.2
 ·have h1 := hw.fr b o h
  simp only [Keep.also]
  rw [Qxu (hlt b o h1)]
  exact hw.dj b o h
theorem Qpc {K : Keep} {F : Mem} {H : List O} {μ : Nat → Value} (hw : HSat (K.also b (.cells c T (0, 0))) F H μ w) (hn : K.mem b = none) (hl : RepL F H μ cs c) :
  HSat K F (H ++ [.vr cs]) (upd μ H.length (.pointer (some ⟨b, 0, none⟩))) w := by
 have hE := Ext.push H μ (.vr cs) (.pointer (some ⟨b, 0, none⟩))
 have kb : (K.also b (.cells c T (0, 0))).mem b = some (.cells c T (0, 0)) := by simp [Keep.also]
 have ko : ∀ b' o, K.mem b' = some o → (K.also b (.cells c T (0, 0))).mem b' = some o := fun b' o h => by
  simp only [Keep.also]
  rw [Qxu (fun e => by subst e; rw [hn] at h; cases h)]; exact h
 have own : ∀ id b', QS (H ++ [.vr cs]) (upd μ H.length (.pointer (some ⟨b, 0, none⟩))) id b' → (id < H.length ∧ QS H μ id b') ∨ (id = H.length ∧ b' = b) := by
  rintro id b' ⟨⟨o, o1, o2⟩, hb⟩
  have hlt := Qt o1
  rw [QxL] at hlt
  simp only [QxR, Qx5] at hlt
  by_cases e : id = H.length
  ·subst e
   right
   simp only [upd, Qyo, blk, Qxv] at hb
   exact ⟨rfl, hb.symm⟩
  ·left
   rw [Qad _ _ _ om] at o1
   refine ⟨om, ⟨o, o1, o2⟩, ?_⟩
   simpa [upd, e] using hb
 have notb : ∀ id, QS H μ id b → False := fun id h => by
  have := (hw.sp id b h).2
  rw [kb] at this; cases this
 have Fb : F b = none := by
  cases h : F b with
  | none => rfl
  | some o => have := hw.dj b o h; rw [kb] at this; cases this
 refine ⟨hw.os, hw.tape, hw.output, hw.fr, fun b' o h => hw.kp b' o (ko b' o h), fun id o h => ?_, fun id b' h => ?_, fun id id' b' h h' => ?_, fun b' o h => ?_⟩
 ·have hlt := Qt h
  rw [QxL] at hlt
  simp only [QxR, Qx5] at hlt
  by_cases e : id = H.length
  ·subst e
   rw [QW] at h
   cases h
   exact ⟨b, c, T, by simp [upd], hw.kp b _ kb, hl.mono (Mem.le_refl F) hE⟩
  ·rw [Qad _ _ _ om] at h
   exact (hw.ob id o h).other hE (by simp [upd, e]) fun _ _ _ => rfl
 ·rcases own id b' h with ⟨_, h1⟩ | ⟨_, rfl⟩
  ·have := hw.sp id b' h1
   refine ⟨this.1, ?_⟩
   cases hk : K.mem b' with
   | none => rfl
   | some o => have h2 := ko b' o hk; rw [this.2] at h2; cases h2
  ·exact ⟨Fb, hn⟩
 ·rcases own id b' h with ⟨h0, h1⟩ | ⟨h0, h1⟩ <;> rcases own id' b' h' with ⟨h2, h3⟩ | ⟨h2, h3⟩
  ·exact hw.ij id id' b' h1 h3
  ·subst h3; exact (notb id h1).elim
  ·subst h1; exact (notb id' h3).elim
  ·omega
 ·have := hw.dj b' o h
  cases hk : K.mem b' with
  | none => rfl
  | some o' => have h2 := ko b' o' hk; rw [this] at h2; cases h2
def getB (l : List Oper) (k : Nat) (p : Oper → Bool) : Bool :=
 match getL l k with
 | some o => p o
 | none => true
theorem Qo2 {l : List Oper} {k : Nat} {p : Oper → Bool} (h : getB l k p = true) {o : Oper} (ho : getL l k = some o) : p o = true := by
 unfold getB at h
 rw [ho] at h
 exact h
def memP (Y : List (Nat × Nat)) (i : Nat) : Bool := Y.any fun p => Nat.beq p.1 i
def memQ (Y : List (Nat × Nat)) (i : Nat) : Bool := Y.any fun p => Nat.beq p.2 i
def QbQ (Y : List (Nat × Nat)) (i : Nat) (o : Oper) : Oper :=
 match memP Y i with
 | true => { o with op := .move (.const (.bool true)), dst := none }
 | false => match memQ Y i with
  | true => match o.op with
   | .store _ _ x => { o with op := .move x, dst := none }
   | _ => o
  | false => o
def QaH (Y : List (Nat × Nat)) : Nat → List Oper → List Oper
 | _, [] => []
 | i, o :: r => QbQ Y i o :: QaH Y (i + 1) r
theorem QkN (Y : List (Nat × Nat)) : ∀ (l : List Oper) (i k : Nat), getL (QaH Y i l) k = (getL l k).map (QbQ Y (i + k))
 | [], _, _ => by simp [QaH, getL]
 | o :: r, i, 0 => by simp [QaH, getL]
 | o :: r, i, k + 1 => by
  simp only [QaH, getL]
  rw [QkN Y r (i + 1) k, show i + 1 + k = i + (k + 1) by omega]
theorem Qk7 (Y : List (Nat × Nat)) : ∀ (l : List Oper) (i : Nat), (QaH Y i l).length = l.length
 | [], _ => rfl
 | o :: r, i => by simp [QaH, Qk7 Y r (i + 1)]
theorem QhV (Y : List (Nat × Nat)) (i : Nat) (o : Oper) : (QbQ Y i o).after = o.after ∧ (QbQ Y i o).guard = o.guard := by
 unfold QbQ
 split
 ·exact ⟨rfl, rfl⟩
 ·split
  ·split <;> exact ⟨rfl, rfl⟩
  ·exact ⟨rfl, rfl⟩
def Qqy (nt : Nat) (Γ : Env) (l l0 : List Oper) (p : Nat × Nat) : Bool :=
 match getL l p.1, getL l p.2 with
 | some oy, some oq => (match oy.op, oy.dst, oq.op with
   | .alloc t, some d, .store t' (.tmp d') x => Nat.beq t t' && (Nat.beq d d' && (Nat.blt d nt && ((match Γ.at t with | some i => Nat.beq (QN i).length i.size | none => false) && (fixB l0 p.2 x && allI l.length fun i => getB l i fun o => Nat.beq i p.1 || !(o.dst == some d)))))
   | _, _, _ => false) && (oy.guard.isNone && (oq.guard.isNone && (oq.dst.isNone && ((QiJ l0 []).getD p.2 0).testBit p.1)))
 | _, _ => false
def sideB (Y : List (Nat × Nat)) (nt : Nat) (Γ : Env) (l l0 : List Oper) : Bool :=
 Y.all (fun p => Qqy nt Γ l l0 p) && (nodupB (Y.map (·.1)) && (Y.all (fun p => !memQ Y p.1 && !(Y.any fun p' => Nat.beq p'.1 p.2)) && (nodupB (Y.map (·.2)) && allI l.length fun i => getB l i fun o => match o.guard with
  | some (j, _) => !memP Y j && !memQ Y j
  | none => true)))
where nodupB : List Nat → Bool
 | [] => true
 | x :: r => !(r.any fun y => Nat.beq y x) && nodupB r
structure SideF (nt : Nat) (Γ : Env) (l l0 : List Oper) (p : Nat × Nat) (oy oq : Oper) (d : Tmp) (t : TypeId) (i : TI) (x : Operand) : Prop where
 gy : getL l p.1 = some oy
 gq : getL l p.2 = some oq
 opy : oy.op = .alloc t
 dy : oy.dst = some d
 opq : oq.op = .store t (.tmp d) x
 lt : d < nt
 ty : Γ.at t = some i
 zs : (QN i).length = i.size
 fix : fixB l0 p.2 x = true
 one : ∀ k o, getL l k = some o → k ≠ p.1 → o.dst ≠ some d
 gny : oy.guard = none
 gnq : oq.guard = none
 dq : oq.dst = none
 anc : Anc l0 p.1 p.2
theorem QsP {nt : Nat} {Γ : Env} {l l0 : List Oper} (h : Qqy nt Γ l l0 p = true) : ∃ oy oq d t i x, SideF nt Γ l l0 p oy oq d t i x := by
 unfold Qqy at h
 split at h
 ·rename_i oy oq h1 h2
  rw [QxA, QxA, QxA, QxA] at h
  obtain ⟨a1, a2, a3, a4, a5⟩ := h
  split at a1
  ·rename_i t d t' d' x e1 e2 e3
   rw [QxA, QxA, QxA, QxA, QxA] at a1
   obtain ⟨b1, b2, b3, b4, b5, b6⟩ := a1
   have := QxD b1
   subst this
   have := QxD b2
   subst this
   obtain ⟨i, hi, hz⟩ : ∃ i, Γ.at t = some i ∧ (QN i).length = i.size := by
    split at b4
    ·rename_i i hi; exact ⟨i, hi, QxD b4⟩
    ·cases b4
   refine ⟨oy, oq, d, t, i, x, h1, h2, e1, e2, e3, QxJ b3, hi, hz, b5, fun k o hk hne hd => ?_, by simpa using a2, by simpa using a3, by simpa using a4, Qih l0 l0 [] (fun k => by simp) (fun j i hj => by simp at hj) _ _ a5⟩
   have := Qo2 (Qfw b6 k (Qt hk)) hk
   rw [QyA] at this
   rcases this with z | z
   ·exact hne (QxD z)
   ·rw [hd] at z; simp at z
  ·cases a1
 ·cases h
theorem QgR : ∀ {l : List Nat}, sideB.nodupB l = true → l.Nodup
 | [], _ => List.nodup_nil
 | x :: r, h => by
  simp only [sideB.nodupB, QxA] at h
  refine Qy4.2 ⟨fun hx => ?_, QgR h.2⟩
  have h1 := h.1
  rw [Qyp, List.any_eq_false] at h1
  exact h1 x hx (by simp)
theorem memP_ok {Y : List (Nat × Nat)} : memP Y i = true ↔ ∃ p ∈ Y, p.1 = i := by
 unfold memP
 rw [QyN]
 exact ⟨fun ⟨p, h1, h2⟩ => ⟨p, h1, QxD h2⟩, fun ⟨p, h1, h2⟩ => ⟨p, h1, by rw [h2]; simp⟩⟩
theorem memQ_ok {Y : List (Nat × Nat)} : memQ Y i = true ↔ ∃ p ∈ Y, p.2 = i := by
 unfold memQ
 rw [QyN]
 exact ⟨fun ⟨p, h1, h2⟩ => ⟨p, h1, QxD h2⟩, fun ⟨p, h1, h2⟩ => ⟨p, h1, by rw [h2]; simp⟩⟩
def Qeg (Γ : Env) (l : List Oper) (ts0 : Ts) : List (Nat × Nat) → Ts → List O → (Ts → List O → Prop) → Prop
 | [], ts, H, k => k ts H
 | p :: r, ts, H, k => match getL l p.1, getL l p.2 with
  | some oy, some oq => match oy.dst, oq.op with
   | some d, .store t _ x => match Γ.at t, (opnd ts0 x).cells with
    | some i, some ys => match Nat.beq ys.length i.size with
     | true => Qej H.length fun n => Qat (H ++ [.vr ys]) fun H' => Qeg Γ l ts0 r ((d, .c (.ptr n 0)) :: ts) H' k
     | false => False
    | _, _ => False
   | _, _ => False
  | _, _ => False
theorem Qf1 {nt : Nat} {Γ : Env} {l l0 : List Oper} {ts0 : Ts} {r : List (Nat × Nat)} {H : List O} {k : Ts → List O → Prop} (h : Qeg Γ l ts0 (p :: r) ts H k) {i : TI} (f : SideF nt Γ l l0 p oy oq d t i x) :
  ∃ ys, (opnd ts0 x).cells = some ys ∧ ys.length = i.size ∧ Qeg Γ l ts0 r ((d, .c (.ptr H.length 0)) :: ts) (H ++ [.vr ys]) k := by
 simp only [Qeg, f.gy, f.gq, f.dy, f.opq, f.ty, Qgs, QaO] at h
 split at h
 ·rename_i i' ys e1 e2
  cases e1
  split at h
  ·rename_i e3
   exact ⟨ys, e2, QxD e3, h⟩
  ·exact h.elim
 ·exact h.elim
theorem Qkh {nt : Nat} {Γ : Env} {l l0 : List Oper} {ts0 : Ts} : ∀ {r : List (Nat × Nat)} {ts : Ts} {H : List O} {k : Ts → List O → Prop}, Qeg Γ l ts0 r ts H k → (∀ p ∈ r, ∃ oy oq d t i x, SideF nt Γ l l0 p oy oq d t i x) → ∀ p ∈ r, ∀ oy oq d t i x, SideF nt Γ l l0 p oy oq d t i x → ∃ ys, (opnd ts0 x).cells = some ys ∧ ys.length = i.size
 | [], _, _, _, _, _, p, hp => by cases hp
 | p0 :: r, ts, H, k, h, all, p, hp => by
  intro oy oq d t i x f
  obtain ⟨oy0, oq0, d0, t0, i0, x0, f0⟩ := all p0 (Qys ..)
  obtain ⟨ys, y1, y2, y3⟩ := Qf1 h f0
  rcases Qyf.1 hp with e | e
  ·subst e
   obtain ⟨zs, z1, z2, _⟩ := Qf1 h f
   exact ⟨zs, z1, z2⟩
  ·exact Qkh y3 (fun p hp => all p (Qyi _ hp)) p e oy oq d t i x f
theorem QgQ {f : Nat × Nat → Nat} : ∀ {Y : List (Nat × Nat)}, (Y.map f).Nodup → ∀ p ∈ Y, ∀ p' ∈ Y, f p = f p' → p = p'
 | [], _, p, hp => by cases hp
 | x :: r, h, p, hp => by
  have h' := Qy4.1 h
  intro p' hp' e
  rcases Qyf.1 hp with q | q <;> rcases Qyf.1 hp' with q' | q'
  ·rw [q, q']
  ·exfalso; subst q; exact h'.1 (e ▸ QyJ q')
  ·exfalso; subst q'; exact h'.1 (e ▸ QyJ q)
  ·exact QgQ h'.2 p q p' q' e
theorem Qrc {l : List Oper} {o : Oper} {Q : Exit → Act → World → Prop} {k : Act → World → Prop} {a : Act} (h1 : ops[i]? = some o) (h2 : l.toArray[i]? = some o)
  (hg : ∀ j b, o.guard = some (j, b) → (ops[j]?).bind (·.dst) = (l.toArray[j]?).bind (·.dst)) (h : wpOp P l.toArray Q i k a w) : wpOp P ops Q i k a w := by
 unfold wpOp at h ⊢
 rw [h2] at h
 rw [h1]
 dsimp only at h ⊢
 have e : Region.wanted o (yielded ops a.tmps) = Region.wanted o (yielded l.toArray a.tmps) := by
  unfold Region.wanted
  cases hgo : o.guard with
  | none => rfl
  | some q =>
   obtain ⟨j, b⟩ := q
   simp only [yielded, hg j b hgo]
 rw [e]
 exact h
def isU : S → Bool
 | .u => true
 | _ => false
theorem HSat.refill {K : Keep} {F : Mem} {H : List O} {μ : Nat → Value} {w' : World} {o o' : Obj} (h : HSat K F H μ w) (hb : K.mem b = some o) (h1 : w'.os = w.os) (h2 : w'.tape = w.tape) (h3 : w'.output = w.output) (hn : w'.heap[b]? = some o') (ho : ∀ x, x ≠ b → w'.heap[x]? = w.heap[x]?) :
  HSat (K.also b o') F H μ w' := by
 refine ⟨h1.trans h.os, h2.trans h.tape, h3.trans h.output, fun x y hx => ?_, fun x y hx => ?_, fun id oo hi => ?_, fun id x hx => ⟨(h.sp id x hx).1, ?_⟩, h.ij, fun x y hx => ?_⟩
 ·have : x ≠ b := fun e => by subst e; have := h.dj x y hx; rw [hb] at this; cases this
  rw [ho x this]; exact h.fr x y hx
 ·simp only [Keep.also] at hx
  split at hx
  ·rename_i e; subst e; cases hx; exact hn
  ·rename_i e; rw [ho x e]; exact h.kp x y hx
 ·by_cases hd : oo = .dead
  ·subst hd; trivial
  ·exact (h.ob id oo hi).other (Ext.refl H μ) rfl fun x _ hx => ho x fun e => by
    subst e
    have := (h.sp id x ⟨⟨oo, hi, hd⟩, hx⟩).2
    rw [hb] at this; cases this
 ·simp only [Keep.also]
  have h4 := (h.sp id x hx).2
  rw [Qxu fun e => by subst e; rw [hb] at h4; cases h4]
  exact h4
 ·simp only [Keep.also]
  have h4 := h.dj x y hx
  rw [Qxu fun e => by subst e; rw [hb] at h4; cases h4]
  exact h4
theorem HSat.bring {K : Keep} {F : Mem} {H : List O} {μ : Nat → Value} (hw : HSat K F H μ w) (hb : K.mem b = some (.cells c T (0, 0))) (hl : RepL F H μ cs c) :
  HSat { K with mem := fun x => if x = b then none else K.mem x } F (H ++ [.vr cs]) (upd μ H.length (.pointer (some ⟨b, 0, none⟩))) w := by
 refine Qpc (K := { K with mem := fun x => if x = b then none else K.mem x }) (c := c) (T := T) ?_ (by simp) hl
 have e : (Keep.also { K with mem := fun x => if x = b then none else K.mem x } b (.cells c T (0, 0))) = K := by
  unfold Keep.also
  congr 1
  funext x
  by_cases q : x = b
  ·rw [Qxt q, q, hb]
  ·rw [Qxu q]; exact Qxu q
 rw [e]
 exact hw
theorem HSat.less {K K1 : Keep} {F : Mem} {H : List O} {μ : Nat → Value} (h : HSat K1 F H μ w) (e1 : K1.os = K.os) (e2 : K1.tape = K.tape) (e3 : K1.output = K.output) (le : ∀ b o, K.mem b = some o → K1.mem b = some o) : HSat K F H μ w := by
 have none : ∀ b, K1.mem b = none → K.mem b = none := fun b hb => by
  cases hk : K.mem b with
  | none => rfl
  | some o => rw [le b o hk] at hb; cases hb
 exact ⟨h.os.trans e1, h.tape.trans e2, h.output.trans e3, h.fr, fun b o hb => h.kp b o (le b o hb), h.ob, fun id b hb => ⟨(h.sp id b hb).1, none b (h.sp id b hb).2⟩, h.ij, fun b o hb => none b (h.dj b o hb)⟩
structure Asd (nt : Nat) (Γ : Env) (l l0 : List Oper) (K : Keep) (Y : List (Nat × Nat)) (D : Nat → Bool) (ys : Nat → List C) (β : Nat → Nat) (K1 : Keep) (F : Mem) (H : List O) (μ : Nat → Value) (a : Act) : Prop where
 os : K1.os = K.os
 tape : K1.tape = K.tape
 output : K1.output = K.output
 ds : K1.ds = K.ds
 le : ∀ b o, K.mem b = some o → K1.mem b = some o
 made : ∀ p ∈ Y, ∀ oy oq d t i x, SideF nt Γ l l0 p oy oq d t i x → D p.1 = true → ∃ c T, K1.mem (β p.1) = some (.cells c T (0, 0)) ∧ K.mem (β p.1) = none ∧ a.tmps.getD d undef = .pointer (some ⟨β p.1, 0, none⟩) ∧ c.size = i.size ∧ (D p.2 = true → RepL F H μ (ys p.2) c)
 inj : ∀ p ∈ Y, ∀ p' ∈ Y, D p.1 = true → D p'.1 = true → β p.1 = β p'.1 → p.1 = p'.1
section
variable {nt : Nat} {Γ : Env} {l l0 : List Oper} {K : Keep} {Y : List (Nat × Nat)} {D D' : Nat → Bool} {ys : Nat → List C} {β : Nat → Nat} {K1 : Keep} {F F' : Mem} {H H' : List O} {μ μ' : Nat → Value} {a a' : Act}
theorem Asd.keep (h : Asd nt Γ l l0 K Y D ys β K1 F H μ a) (hF : F.le F') (hE : Ext H μ H' μ') (hD : ∀ p ∈ Y, D' p.1 = D p.1 ∧ D' p.2 = D p.2)
  (ha : ∀ p ∈ Y, ∀ oy oq d t i x, SideF nt Γ l l0 p oy oq d t i x → a'.tmps.getD d undef = a.tmps.getD d undef) : Asd nt Γ l l0 K Y D' ys β K1 F' H' μ' a' := by
 refine ⟨h.os, h.tape, h.output, h.ds, h.le, fun p hp oy oq d t i x f h1 => ?_, fun p hp p' hp' h1 h2 => h.inj p hp p' hp' ((hD p hp).1 ▸ h1) ((hD p' hp').1 ▸ h2)⟩
 obtain ⟨c, T, r1, r2, r3, r4, r5⟩ := h.made p hp oy oq d t i x f ((hD p hp).1 ▸ h1)
 exact ⟨c, T, r1, r2, (ha p hp oy oq d t i x f).trans r3, r4, fun h2 => (r5 ((hD p hp).2 ▸ h2)).mono hF hE⟩
theorem Asd.make (h : Asd nt Γ l l0 K Y D ys β K1 F H μ a) (all : ∀ p ∈ Y, ∃ oy oq d t i x, SideF nt Γ l l0 p oy oq d t i x) {i : TI} (f : SideF nt Γ l l0 p oy oq d t i x) (hb : K1.mem b = none) (hc : c.size = i.size)
  (hq : D' p.2 = false) (h1 : ∀ q, q ≠ p.1 → D' q = D q) (hpt : a'.tmps.getD d undef = .pointer (some ⟨b, 0, none⟩)) (hYP : ∀ p' ∈ Y, p'.2 ≠ p.1) (hpp : ∀ p' ∈ Y, p'.1 = p.1 → p'.2 = p.2)
  (ha : ∀ p' ∈ Y, p'.1 ≠ p.1 → ∀ oy oq d t i x, SideF nt Γ l l0 p' oy oq d t i x → a'.tmps.getD d undef = a.tmps.getD d undef) :
  Asd nt Γ l l0 K Y D' ys (fun n => if n = p.1 then b else β n) (K1.also b (.cells c T (0, 0))) F H μ a' := by
 have kb : K.mem b = none := by
  cases hk : K.mem b with
  | none => rfl
  | some o => rw [h.le b o hk] at hb; cases hb
 have old : ∀ p' ∈ Y, p'.1 ≠ p.1 → D' p'.1 = true → β p'.1 ≠ b := by
  intro p' hp' hne hd e
  obtain ⟨oy, oq, d, t, i, x, f'⟩ := all p' hp'
  obtain ⟨c', T', r1, _⟩ := h.made p' hp' _ _ _ _ _ _ f' (h1 _ hne ▸ hd)
  rw [e, hb] at r1; cases r1
 refine ⟨h.os, h.tape, h.output, h.ds, fun b' o hk => ?_, fun p' hp' oy' oq' d' t' i' x' f' hd => ?_, fun p' hp' p'' hp'' hd hd' e => ?_⟩
 ·simp only [Keep.also]
  rw [Qxu fun e => by subst e; rw [kb] at hk; cases hk]
  exact h.le b' o hk
 ·by_cases hne : p'.1 = p.1
  ·have e1 : oy' = oy := Qyv (f'.gy.symm.trans (hne ▸ f.gy))
   subst e1
   have e2 : d' = d := Qyv (f'.dy.symm.trans f.dy)
   have e3 : t' = t := by have := f'.opy.symm.trans f.opy; injection this
   subst e2; subst e3
   have e4 : i' = i := Qyv (f'.ty.symm.trans f.ty)
   subst e4
   refine ⟨c, T, by simp [Keep.also, hne], by rw [Qxt hne]; exact kb, by rw [Qxt hne]; exact hpt, hc, fun h2 => ?_⟩
   rw [hpp p' hp' hne, hq] at h2; cases h2
  ·obtain ⟨c', T', r1, r2, r3, r4, r5⟩ := h.made p' hp' _ _ _ _ _ _ f' (h1 _ hne ▸ hd)
   have hbb : β p'.1 ≠ b := fun e => by rw [e, hb] at r1; cases r1
   refine ⟨c', T', ?_, by rw [Qxu hne]; exact r2, by rw [Qxu hne]; exact (ha p' hp' hne _ _ _ _ _ _ f').trans r3, r4, fun h2 => r5 (h1 _ (hYP p' hp') ▸ h2)⟩
   simp only [Keep.also]
   rw [Qxu hne, Qxu hbb]; exact r1
 ·by_cases q1 : p'.1 = p.1
  ·by_cases q2 : p''.1 = p.1
   ·rw [q1, q2]
   ·rw [Qxt q1, Qxu q2] at e
    exact absurd e.symm (old p'' hp'' q2 hd')
  ·by_cases q2 : p''.1 = p.1
   ·rw [Qxu q1, Qxt q2] at e
    exact absurd e (old p' hp' q1 hd)
   ·rw [Qxu q1, Qxu q2] at e
    exact h.inj p' hp' p'' hp'' (h1 _ q1 ▸ hd) (h1 _ q2 ▸ hd') e
theorem Asd.fill (h : Asd nt Γ l l0 K Y D ys β K1 F H μ a) (hp : p ∈ Y) {i : TI} (f : SideF nt Γ l l0 p oy oq d t i x) (hd1 : D p.1 = true) (hc : c.size = i.size)
  (hr : RepL F H μ (ys p.2) c) (h1 : ∀ q, q ≠ p.2 → D' q = D q) (hYP : ∀ p' ∈ Y, p'.1 ≠ p.2) (uniq : ∀ p' ∈ Y, ∀ p ∈ Y, p'.1 = p.1 → p' = p) (hqq : ∀ p' ∈ Y, p'.2 = p.2 → p'.1 = p.1)
  (ha : ∀ p' ∈ Y, ∀ oy oq d t i x, SideF nt Γ l l0 p' oy oq d t i x → a'.tmps.getD d undef = a.tmps.getD d undef) :
  Asd nt Γ l l0 K Y D' ys β (K1.also (β p.1) (.cells c T (0, 0))) F H μ a' := by
 obtain ⟨c0, T0, s1, s2, s3, s4, s5⟩ := h.made p hp _ _ _ _ _ _ f hd1
 refine ⟨h.os, h.tape, h.output, h.ds, fun b' o hk => ?_, fun p' hp' oy' oq' d' t' i' x' f' hd => ?_, fun p' hp' p'' hp'' hd hd' e => h.inj p' hp' p'' hp'' (h1 _ (hYP p' hp') ▸ hd) (h1 _ (hYP p'' hp'') ▸ hd') e⟩
 ·simp only [Keep.also]
  rw [Qxu fun e => by subst e; rw [s2] at hk; cases hk]
  exact h.le b' o hk
 ·have hd0 : D p'.1 = true := h1 _ (hYP p' hp') ▸ hd
  obtain ⟨c', T', r1, r2, r3, r4, r5⟩ := h.made p' hp' _ _ _ _ _ _ f' hd0
  by_cases hne : p'.1 = p.1
  ·have e1 : oy' = oy := Qyv (f'.gy.symm.trans (hne ▸ f.gy))
   subst e1
   have e2 : d' = d := Qyv (f'.dy.symm.trans f.dy)
   have e3 : t' = t := by have := f'.opy.symm.trans f.opy; injection this
   subst e2; subst e3
   have e4 : i' = i := Qyv (f'.ty.symm.trans f.ty)
   subst e4
   refine ⟨c, T, by simp [Keep.also, hne], r2, (ha p' hp' _ _ _ _ _ _ f').trans r3, hc, fun h2 => ?_⟩
   have : p'.2 = p.2 ∨ p'.2 ≠ p.2 := Decidable.em _
   rcases this with q | q
   ·rw [q]; exact hr
   ·
    exact absurd (show p' = p from uniq p' hp' p hp hne) (fun e => q (by rw [e]))
  ·have hbb : β p'.1 ≠ β p.1 := fun e => hne (h.inj p' hp' p hp hd0 hd1 e)
   refine ⟨c', T', ?_, r2, (ha p' hp' _ _ _ _ _ _ f').trans r3, r4, fun h2 => r5 (h1 _ (fun q => hne (hqq p' hp' q)) ▸ h2)⟩
   simp only [Keep.also]
   rw [Qxu hbb]; exact r1
theorem QwQ {X : Cx} (hnt : X.nt = nt) (hX : X.Γ = Γ) {F0 : Mem} {H0 : List O} {μ0 : Nat → Value} {ts0 : Ts} {w : World} {k : Ts → List O → Prop} : ∀ (r : List (Nat × Nat)) {ts : Ts} {H : List O} {μ : Nat → Value} {K1 : Keep}, (r.map (·.1)).Nodup →
  (∀ p ∈ r, ∃ oy oq d t i x c T, SideF nt Γ l l0 p oy oq d t i x ∧ K1.mem (β p.1) = some (.cells c T (0, 0)) ∧ K.mem (β p.1) = none ∧ a.tmps.getD d undef = .pointer (some ⟨β p.1, 0, none⟩) ∧ RepL F H μ (((opnd ts0 x).cells).getD []) c) →
  (∀ p ∈ r, ∀ p' ∈ r, β p.1 = β p'.1 → p.1 = p'.1) → Sat X K1 F0 H0 μ0 ts H F μ a w → K1.os = K.os → K1.tape = K.tape → K1.output = K.output → K1.ds = K.ds → (∀ b o, K.mem b = some o → K1.mem b = some o) →
  Qeg Γ l ts0 r ts H k → ∃ ts' H' μ', k ts' H' ∧ Sat X K F0 H0 μ0 ts' H' F μ' a w
 | [], ts, H, μ, K1, _, _, _, hs, e1, e2, e3, e4, le, hk => ⟨ts, H, μ, hk, hs.le, hs.ext, hs.hs.less e1 e2 e3 le, hs.tp, hs.sz, hs.df.trans e4, hs.n0⟩
 | p :: r, ts, H, μ, K1, hnd, hp, hinj, hs, e1, e2, e3, e4, le, hk => by
  obtain ⟨oy, oq, d, t, i, x, c, T, f, q1, q2, q3, q4⟩ := hp p (Qys ..)
  obtain ⟨ys, y1, y2, y3⟩ := Qf1 hk f
  rw [y1, Option.getD_some] at q4
  have hE := Ext.push H μ (.vr ys) (.pointer (some ⟨β p.1, 0, none⟩))
  have hb := hs.hs.bring q1 q4
  have hnd' := Qy4.1 hnd
  refine QwQ hnt hX r hnd'.2 (fun p' hp' => ?_) (fun p' hp' p'' hp'' => hinj p' (Qyi _ hp') p'' (Qyi _ hp'')) (K1 := { K1 with mem := fun x => if x = β p.1 then none else K1.mem x }) (μ := upd μ H.length (.pointer (some ⟨β p.1, 0, none⟩)))
   ⟨hs.le, hs.ext.trans hE, hb, fun t' => ?_, hs.sz, hs.df, hs.n0⟩ e1 e2 e3 e4 (fun b o hk => ?_) y3
  ·obtain ⟨oy', oq', d', t', i', x', c', T', f', r1, r2, r3, r4⟩ := hp p' (Qyi _ hp')
   refine ⟨oy', oq', d', t', i', x', c', T', f', ?_, r2, r3, r4.mono (Mem.le_refl F) hE⟩
   show (if β p'.1 = β p.1 then none else K1.mem (β p'.1)) = _
   rw [Qxu fun e => by
    have := hinj p' (Qyi _ hp') p (Qys ..) e
    have hm := QyJ (f := fun x : Nat × Nat => x.1) hp'
    rw [this] at hm
    exact hnd'.1 hm]
   exact r1
  ·simp only [find]
   cases hbq : Nat.beq d t' with
   | true =>
    have := QxD hbq
    subst this
    rw [q3]
    exact ⟨⟨ys, QW _ _⟩, β p.1, by simp [upd], rfl⟩
   | false => exact RepS.mono (Mem.le_refl F) hE _ _ (hs.tp t')
  ·show (if b = β p.1 then none else K1.mem b) = _
   rw [Qxu fun e => by subst e; rw [q2] at hk; cases hk]
   exact le b o hk
end
theorem Qjk (hΓ : Qw X.P X.Γ) (hm : X.P.follows .mixedOrders = true) {H : List O} (E : List Nat) (S : List (Nat × Nat)) (Y : List (Nat × Nat)) (hY : sideB Y X.nt X.Γ ops.toList (QaH Y 0 ops.toList) = true)
  (hts : Y.all (fun p => match Qa4 ops.toList p.1 with | some d => isU (find d ts) | none => false) = true) (hok : Qeb E S (QaH Y 0 ops.toList) = true)
  (h : Qb7 X E (QaH Y 0 ops.toList) (QaH Y 0 ops.toList) ts H fun ts' H' => match S.all (fun p => QeF (QaH Y 0 ops.toList) ts' p.1 p.2) with
   | true => Qeg X.Γ ops.toList ts' Y ts' H' (k .normal)
   | false => StuckC .skip ts' H') :
  ∀ K F0 H0 μ0 F μ a w, Sat X K F0 H0 μ0 ts H F μ a w → wpAny X.P .any ops (Post X K F0 H0 μ0 k) ops.size (Array.replicate ops.size false) a { w with drawn := w.drawn + 1 } := by
 intro K F0 H0 μ0 F μ a w hs
 obtain ⟨sv, HH, hh0, hev, hend0⟩ := QkA (QaH Y 0 ops.toList) h
 generalize hL0 : ops.toList = L0 at *
 have hget : ∀ k, getL (QaH Y 0 L0) k = (getL L0 k).map (QbQ Y k) := fun k => by rw [QkN, QxX]
 have hlen : (QaH Y 0 L0).length = L0.length := Qk7 Y L0 0
 generalize hl : QaH Y 0 L0 = l at *
 unfold sideB at hY
 rw [QxA, QxA, QxA, QxA] at hY
 obtain ⟨y1, y2, y3, y4, y5⟩ := hY
 have all : ∀ p ∈ Y, ∃ oy oq d t i x, SideF X.nt X.Γ L0 l p oy oq d t i x := fun p hp => QsP (Qx2.1 y1 p hp)
 have ndP := QgR y2
 have ndQ := QgR y4
 have uniq : ∀ p' ∈ Y, ∀ p ∈ Y, p'.1 = p.1 → p' = p := fun p' hp' p hp e => QgQ ndP p' hp' p hp e
 have hqq : ∀ p' ∈ Y, ∀ p ∈ Y, p'.2 = p.2 → p' = p := fun p' hp' p hp e => QgQ ndQ p' hp' p hp e
 have sepQ : ∀ p ∈ Y, ∀ p' ∈ Y, p'.2 ≠ p.1 := fun p hp p' hp' e => by
  have := Qx2.1 y3 p hp
  rw [QxA] at this
  rw [show memQ Y p.1 = true from memQ_ok.2 ⟨p', hp', e⟩] at this
  exact absurd this.1 (by decide)
 have sepP : ∀ p ∈ Y, ∀ p' ∈ Y, p'.1 ≠ p.2 := fun p hp p' hp' e => sepQ p' hp' p hp e.symm
 have gdd : ∀ i o, getL L0 i = some o → ∀ j b, o.guard = some (j, b) → memP Y j = false ∧ memQ Y j = false := fun i o ho j b hb => by
  have := Qo2 (Qfw y5 i (Qt ho)) ho
  rw [hb] at this
  simpa using this
 obtain ⟨hfreeB, hend⟩ : S.all (fun p => QeF l (tsF X.nt l sv (fun _ => true) ts l.length) p.1 p.2) = true ∧ Qeg X.Γ L0 (tsF X.nt l sv (fun _ => true) ts l.length) Y (tsF X.nt l sv (fun _ => true) ts l.length) (HH l.length) (k .normal) := by
  split at hend0
  ·rename_i hq; exact ⟨hq, hend0⟩
  ·exact (Qc3 hend0).elim
 rw [Qeb, QxA] at hok
 obtain ⟨hok, hfr⟩ := hok
 have alias : ∀ i q, (i, q) ∈ S → ∃ x y, getL l i = some x ∧ getL l q = some y ∧ x.guard = none ∧ (Qcm x.op = true ∨ ∀ z ∈ x.op.operands, ∀ id, idS (opnd (tsF X.nt l sv (fun _ => true) ts i) z) = some id → ∀ o, getL (HH q) id = some o → getL (HH (q + 1)) id = some o) := by
  intro i q hm
  have hf := Qx2.1 hfreeB _ hm
  have hfr2 := Qx2.1 hfr _ hm
  simp only [QeF] at hf
  split at hf
  ·rename_i x hx
   split at hf
   ·rename_i y hy
    simp only [QxA, Option.isNone_iff_eq_none] at hf
    obtain ⟨hg, hf⟩ := hf
    refine ⟨x, y, hx, hy, hg, ?_⟩
    have hq := Qt hy
    have hi := Qt hx
    split at hf
    ·rename_i cf args at' hop
     rw [QyA] at hf
     rcases hf with hf | hf
     ·exact .inl hf
     ·right
      intro z hz id hid o ho
      have hz2 := Qx2.1 hf z (by simpa using hz)
      simp only [QxA] at hz2
      rw [Qdo om hz2.1, hid] at hz2
      have hall := hz2.2
      have hq2 := hev q y hy
      generalize HH (q + 1) = H1 at hq2 ⊢
      generalize sv q = s1 at hq2
      cases hq2 with
      | eff ns _ _ _ hc _ _ _ => rw [hop] at hc; cases hc
      | callE q' f la _ _ _ _ _ hv _ _ _ hch =>
       refine hch (by simpa [hy] using hfr2) id o (fun a ha e => ?_) ho
       rw [hop] at hv
       simp only [Qa6] at hv
       split at hv
       ·rename_i f' n get hcal
        have hn0 : n = 0 := by
         simp only [opnd, bare] at hcal
         cases hcal
         rfl
        subst hn0
        split at hv
        ·rename_i q'' l'' hak
         cases hv
         rcases Qyc.1 ha with ha | ha
         ·obtain ⟨b, b1, b2⟩ := Qkl _ _ _ hak a ha
          have hb := Qx2.1 hall b b1
          simp only [QxA] at hb
          rw [Qdo om hb.1, ← b2, e] at hb
          simp at hb
         ·simp [capS] at ha
        ·cases hv
       ·cases hv
      | _ => exact ho
    ·rename_i args tys hop
     rw [QyA] at hf
     rcases hf with hf | hf
     ·exact .inl hf
     ·right
      intro z hz id hid o ho
      have hz2 := Qx2.1 hf z (by simpa using hz)
      simp only [QxA] at hz2
      rw [Qdo om hz2.1, hid] at hz2
      have hall := hz2.2
      have hq2 := hev q y hy
      generalize HH (q + 1) = H1 at hq2 ⊢
      generalize sv q = s1 at hq2
      cases hq2 with
      | eff ns _ _ _ _ _ he _ =>
       rw [hop] at he
       have hgo : ∀ a ∈ args.toList, idS (opnd (tsF X.nt l sv (fun _ => true) ts q) a) ≠ some id := fun a ha e => ?_
       ·exact (Qec he).elim (fun he => Qqc he hgo ho) (fun ⟨_, he⟩ => Qpx he hgo ho)
       have hb := Qx2.1 hall a ha
       simp only [QxA] at hb
       rw [Qdo om hb.1, e] at hb
       simp at hb
      | callE _ _ _ _ _ _ hc => rw [hop] at hc; cases hc
      | _ => exact ho
    ·rename_i t a v hop
     simp only [QxA] at hf
     obtain ⟨hfix, hf⟩ := hf
     split at hf
     ·rename_i n hn
      rw [QyA] at hf
      rcases hf with hf | hf
      ·exact .inl hf
      ·right
       intro z hz id hid o ho
       have hz2 := Qx2.1 hf z (by simpa using hz)
       simp only [QxA] at hz2
       rw [Qdo om hz2.1, hid] at hz2
       rw [Qdo om hfix] at hn
       have hne : id ≠ n := by
        intro e
        subst e
        simp at hz2
       have hq2 := hev q y hy
       generalize HH (q + 1) = H1 at hq2 ⊢
       generalize sv q = s1 at hq2
       cases hq2 with
       | eff ns _ _ _ _ _ he _ =>
        rw [hop] at he
        rw [Qq6 ((Qec he).resolve_right (by simp [Qb8])) hn id hne]; exact ho
       | callE _ _ _ _ _ _ hc => rw [hop] at hc; cases hc
       | _ => exact ho
     ·simp at hf
    ·simp at hf
   ·simp at hf
  ·simp at hf
 have hsz : ops.size = l.length := by rw [hlen, ← hL0]; simp
 have gop : ∀ i, ops[i]? = getL L0 i := fun i => by rw [← hL0, Qc]; simp
 have stands : ∀ i (hi : i < l.length), ∃ o', ops[i]? = some o' ∧ l[i] = QbQ Y i o' := fun i hi => by
  have h1 : getL l i = some l[i] := by rw [Qc]; simp [hi]
  rw [hget i] at h1
  cases h2 : getL L0 i with
  | none => rw [h2] at h1; cases h1
  | some o' => rw [h2] at h1; exact ⟨o', (gop i).trans h2, (Qyv h1).symm⟩
 have noW : ∀ p ∈ Y, ∀ oy oq d t i x, SideF X.nt X.Γ L0 l p oy oq d t i x → ∀ D m, find d (tsF X.nt l sv D ts m) = .u := fun p hp oy oq d t i x f D m => by
  have hd : find d ts = .u := by
   have := Qx2.1 hts p hp
   rw [show Qa4 L0 p.1 = some d by simp [Qa4, f.gy, f.dy]] at this
   change isU (find d ts) = true at this
   revert this
   cases find d ts <;> intro this <;> first | rfl | cases this
  induction m with
  | zero => exact hd
  | succ m ihm =>
   simp only [tsF]
   split
   ·rw [Qaf, Qxu]
    ·exact ihm
    ·rintro ⟨h1, _⟩
     unfold Qa4 at h1
     rw [hget m] at h1
     cases h2 : getL L0 m with
     | none => rw [h2] at h1; cases h1
     | some o =>
      rw [h2] at h1
      simp only [Qyd, Option.bind_some] at h1
      by_cases e : m = p.1
      ·rw [show QbQ Y m o = { o with op := .move (.const (.bool true)), dst := none } by unfold QbQ; rw [show memP Y m = true from memP_ok.2 ⟨p, hp, e.symm⟩]] at h1
       cases h1
      ·have : o.dst = some d := by
        unfold QbQ at h1
        split at h1
        ·cases h1
        ·split at h1
         ·split at h1
          ·cases h1
          ·exact h1
         ·exact h1
       exact f.one m o h2 e this
   ·exact ihm
 generalize hE : tsF X.nt l sv (fun _ => true) ts l.length = tsE at hend
 let ys : Nat → List C := fun q => match getL L0 q with
  | some o => match o.op with
   | .store _ _ x => ((opnd tsE x).cells).getD []
   | _ => []
  | none => []
 have ysq : ∀ p ∈ Y, ∀ oy oq d t i x, SideF X.nt X.Γ L0 l p oy oq d t i x → ys p.2 = ((opnd tsE x).cells).getD [] := fun p hp oy oq d t i x f => by simp only [ys, f.gq, f.opq]
 have rows := Qma l 0 hok
 simp only [QxX] at rows
 have anc : ∀ j i, ((QiJ l []).getD j 0).testBit i = true → Anc l i j := Qih l l [] (fun k => by simp) (fun j i hj => by simp at hj)
 have back : ∀ j o, getL l j = some o → ∀ e ∈ o.after.toList, Region.binds .any e = true → e.on < j := fun j o ho => (rows j o ho).1
 have pair : ∀ i j x y, getL l i = some x → getL l j = some y → i < j → Anc l i j ∨
   (¬ (isE E x = true ∧ isE E y = true) ∧ ¬ (isE E x = true ∧ (QaR x.op = false ∨ y.guard.isSome = true) ∧ Q3 y.op = false ∧ (j, i) ∉ S) ∧ ¬ (isE E y = true ∧ (QaR y.op = false ∨ x.guard.isSome = true) ∧ Q3 x.op = false ∧ (i, j) ∉ S) ∧
    (∀ t, x.dst = some t → t ∉ QdJ l y ∧ y.dst ≠ some t) ∧ ∀ t, y.dst = some t → t ∉ QdJ l x) := by
  intro i j x y hx hy hij
  have := (rows j y hy).2 i x hx hij
  simp only [QlV, QyA] at this
  rcases this with h1 | h1
  ·exact .inl (anc j i h1)
  ·right
   simp only [QxA] at h1
   obtain ⟨⟨⟨⟨h1, h2⟩, h3⟩, h4⟩, h5⟩ := h1
   refine ⟨fun ⟨a, b⟩ => by simp [a, b] at h1, fun ⟨a, b, c, d⟩ => by rcases b with b | b <;> simp [a, b, c, d] at h2, fun ⟨a, b, c, d⟩ => by rcases b with b | b <;> simp [a, b, c, d] at h3, fun t ht => ?_, fun t ht => ?_⟩
   ·rw [ht] at h4
    simp only [QxA, Qyp, Qze] at h4
    exact ⟨by simpa using h4.1, h4.2⟩
   ·rw [ht] at h5
    simpa using h5
 have hsame : ∀ k o, getL l k = some o → isE E o = false → HH (k + 1) = HH k := by
  intro k o ho he
  have := hev k o ho
  generalize hq : HH (k + 1) = q at this
  generalize sv k = sk at this
  cases this with
  | eff _ _ _ _ _ h1 => rw [he] at h1; cases h1
  | callE _ _ _ _ _ _ _ h1 => rw [he] at h1; cases h1
  | _ => rfl
 have hnew : ∀ k o, getL l k = some o → QaR o.op = true → Pre (HH k) (HH (k + 1)) := by
  intro k o ho hn
  by_cases he : isE E o = true
  ·have := hev k o ho
   generalize hq : HH (k + 1) = q at this
   generalize sv k = sk at this
   cases this with
   | eff ns _ _ _ _ _ h1 =>
    obtain ⟨x, rfl⟩ := QpC ((Qec h1).resolve_right (fun ⟨_, e⟩ => by (unfold Qb8 at e; split at e; rename_i hop; rw [hop] at hn; cases hn; cases e))) hn
    exact ⟨[x], rfl⟩
   | callE _ _ _ _ _ _ hc =>
    exfalso
    generalize o.op = op at hn hc
    cases op <;> simp [Q3, QaR] at hn hc
   | _ => exact Pre.refl _
  ·rw [hsame k o ho (by simpa using he)]; exact Pre.refl _
 have stretch : ∀ id m i, i ≤ m → m ≤ l.length → (∀ k o, i ≤ k → k < m → getL l k = some o → isE E o = true → QaR o.op = true ∨ ∀ o', getL (HH k) id = some o' → getL (HH (k + 1)) id = some o') → ∀ o, getL (HH i) id = some o → getL (HH m) id = some o := by
  intro id m
  induction m with
  | zero =>
   intro i hi _ _ o h; have : i = 0 := by omega
   subst this; exact h
  | succ m ih =>
   intro i hi hml hk o h
   by_cases c : i = m + 1
   ·subst c; exact h
   ·have ho : getL l m = some (l[m]'om) := by rw [Qc]; simp
    have := ih i om om (fun k o h1 h2 => hk k o h1 om) o h
    by_cases he : isE E (l[m]'om) = true
    ·rcases hk m _ om om ho he with h1 | h1
     ·exact (hnew m _ ho h1).get this
     ·exact h1 _ this
    ·rw [hsame m _ ho (by simpa using he)]; exact this
 have main : ∀ fuel (listed : Array Bool) (D : Nat → Bool), listed.size = ops.size → (∀ i, D i = listed.getD i false) → Closed l D → Qbs D l.length = fuel → ∀ (K1 : Keep) (β : Nat → Nat) (F : Mem) (μ : Nat → Value) (a : Act) (w : World),
   Asd X.nt X.Γ L0 l K Y D ys β K1 F (hD E l HH D l.length) μ a → Sat X K1 F0 H0 μ0 (tsF X.nt l sv D ts l.length) (hD E l HH D l.length) F μ a w → wpAny X.P .any ops (Post X K F0 H0 μ0 k) fuel listed a w := by
  intro fuel
  induction fuel with
  | zero =>
   intro listed D hls hD' hcl hun K1 β F μ a w hasd hst
   have alld := QhY l.length hun
   refine ⟨?_, ?_⟩
   ·rw [Region.ready]
    rw [List.filter_eq_nil_iff]
    intro i hi
    have hi' : i < ops.size := by simpa using hi
    have hd := alld i om
    rw [hD' i] at hd
    have : listed.getD i true = true := by
     rw [QxQ] at hd ⊢
     rw [Qx9 om] at hd ⊢
     exact hd
    simp [this]
   ·have e1 : tsF X.nt l sv D ts l.length = tsF X.nt l sv (fun _ => true) ts l.length := by
     have : ∀ m, m ≤ l.length → tsF X.nt l sv D ts m = tsF X.nt l sv (fun _ => true) ts m := by
      intro m
      induction m with
      | zero => intro _; rfl
      | succ m ih => intro hm; simp only [tsF, alld m om, ih om, Qyo]
     exact this _ (QxB _)
    have e2 : hD E l HH D l.length = HH l.length := Qjb hsame l.length (QxB _) (QxB _) fun k o hk _ _ => by rw [alld k hk]; simp [hk]
    rw [e1, e2, hE] at hst
    rw [e2] at hasd
    have inY : ∀ p ∈ Y, D p.1 = true ∧ D p.2 = true := fun p hp => by
     obtain ⟨oy, oq, d, t, i, x, f⟩ := all p hp
     exact ⟨alld _ (by rw [hlen]; exact Qt f.gy), alld _ (by rw [hlen]; exact Qt f.gq)⟩
    obtain ⟨ts', H', μ', z1, z2⟩ := QwQ (nt := X.nt) rfl rfl Y ndP (fun p hp => by
     obtain ⟨oy, oq, d, t, i, x, f⟩ := all p hp
     obtain ⟨c, T, r1, r2, r3, r4, r5⟩ := hasd.made p hp _ _ _ _ _ _ f (inY p hp).1
     exact ⟨oy, oq, d, t, i, x, c, T, f, r1, r2, r3, by rw [← ysq p hp _ _ _ _ _ _ f]; exact r5 (inY p hp).2⟩) (fun p hp p' hp' e => hasd.inj p hp p' hp' (inY p hp).1 (inY p' hp').1 e) hst hasd.os hasd.tape hasd.output hasd.ds hasd.le hend
    exact ⟨_, _, F, μ', z2, z1⟩
  | succ fuel ih =>
   intro listed D hls hD' hcl hun K1 β F μ a w hasd hst
   have getD2 : ∀ i, i < ops.size → listed.getD i true = listed.getD i false := by
    intro i hi
    rw [QxQ, QxQ, Qx9 om]
    rfl
   refine ⟨fun hnil => ?_, fun i hi => ?_⟩
   ·
    exfalso
    have hex : ∃ k, k < l.length ∧ D k = false := by
     refine QyK fun hno => ?_
     have : ∀ m, m ≤ l.length → Qbs D m = 0 := by
      intro m
      induction m with
      | zero => intro _; rfl
      | succ m ihm =>
       intro hm
       simp only [Qbs, ihm om]
       cases hd : D m with
       | true => simp
       | false => exact absurd ⟨m, om, hd⟩ hno
     rw [this _ (QxB _)] at hun
     cases hun
    obtain ⟨i, ⟨h1, h2⟩, hmin⟩ := Qbe hex
    have ho : getL l i = some l[i] := by rw [Qc]; simp [h1]
    have hmem : i ∈ Region.ready .any ops listed := by
     rw [Region.ready, List.mem_filter]
     refine ⟨by simp; omega, ?_⟩
     obtain ⟨o', hopi, hso⟩ := stands i h1
     rw [hopi, getD2 i om, ← hD' i, h2]
     simp only [Bool.not_false, Qyd, Option.getD_some, Bool.true_and]
     rw [← (QhV Y i o').1, ← hso, ← Array.all_toList, Qx2]
     intro e he
     cases hb : Region.binds .any e with
     | false => rfl
     | true =>
      have hlt := back i _ ho e he hb
      rw [← hD' e.on]
      cases hd : D e.on with
      | true => rfl
      | false => have := hmin e.on ⟨om, hd⟩; omega
    rw [hnil] at hmem
    cases hmem
   ·
    rw [Region.ready, List.mem_filter] at hi
    obtain ⟨hi1, hi2⟩ := hi
    have hilt : i < l.length := by rw [← hsz]; simpa using hi1
    have ho : getL l i = some l[i] := by rw [Qc]; simp [hilt]
    obtain ⟨o', hopi, hso⟩ := stands i hilt
    rw [hopi, getD2 i om, ← hD' i] at hi2
    simp only [Qyd, Option.getD_some, QxA, Qyp] at hi2
    obtain ⟨hDi, hdeps⟩ := hi2
    rw [← (QhV Y i o').1, ← hso] at hdeps
    have deps : ∀ o, getL l i = some o → ∀ e ∈ o.after.toList, Region.binds .any e = true → D e.on = true := by
     intro o ho' e he hb
     rw [ho] at ho'
     cases ho'
     rw [← Array.all_toList, Qx2] at hdeps
     have := hdeps e he
     rw [hb, ← hD' e.on] at this
     simpa using this
    have before : ∀ k, Anc l k i → D k = true := fun k hk => hcl.anc hk deps
    have behind : ∀ k, Anc l i k → D k = true → False := by
     intro k hk hd
     have := hcl.anc hk (fun o ho' e he hb => hcl k o ho' hd e he hb)
     rw [hDi] at this
     cases this
    have writers : ∀ t, (t ∈ QdJ l l[i] ∨ l[i].dst = some t) → ∀ q, q < l.length → Qa4 l q = some t → q ≠ i → D q = decide (q < i) := by
     intro t ht q hq hd hne
     have hoq : getL l q = some l[q] := by rw [Qc]; simp [hq]
     have hdq : l[q].dst = some t := by simpa [Qa4, hoq] using hd
     rcases Nat.lt_or_gt_of_ne hne with c | c
     ·rw [Qxz c]
      rcases pair q i _ _ hoq ho c with h1 | ⟨_, _, _, h4, _⟩
      ·exact before q h1
      ·exfalso
       rcases ht with ht | ht
       ·exact (h4 t hdq).1 ht
       ·exact (h4 t hdq).2 ht
     ·rw [QxE om]
      cases hdd : D q with
      | false => rfl
      | true =>
       exfalso
       rcases pair i q _ _ ho hoq c with h1 | ⟨_, _, _, h4, h5⟩
       ·exact behind q h1 hdd
       ·rcases ht with ht | ht
        ·exact h5 t hdq ht
        ·exact (h4 t ht).2 hdq
    have hlook : ∀ t ∈ QdJ l l[i], find t (tsF X.nt l sv D ts l.length) = find t (tsF X.nt l sv (fun _ => true) ts i) := by
     intro t ht
     refine Qic l.length om fun q hq hd => ?_
     by_cases c : q = i
     ·subst c; rw [hDi]; simp
     ·rw [writers t (.inl ht) q hq hd c]; simp
    obtain ⟨c, c1, c2, c3⟩ := QlW E l D
    have effD : ∀ q o, getL l q = some o → isE E o = true → D q = decide (q < c) := by
     intro q o hq he
     by_cases hqc : q < c
     ·rw [Qxz hqc]; exact c2 q o hqc hq he
     ·rw [QxE hqc]
      rcases c3 with c3 | ⟨oc, d1, d2, d3⟩
      ·have := Qt hq; omega
      ·by_cases e : q = c
       ·rw [e]; exact d3
       ·cases hd : D q with
        | false => rfl
        | true =>
         exfalso
         rcases pair c q oc o d1 hq om with h1 | ⟨h1, _⟩
         ·have := hcl.anc h1 (fun o' ho' e' he' hb => hcl q o' ho' hd e' he' hb)
          rw [d3] at this
          cases this
         ·exact h1 ⟨d2, he⟩
    have hHc : hD E l HH D l.length = HH c := Qjb hsame l.length c1 (QxB _) fun q o _ hq he => effD q o hq he
    have hevi := hev i _ ho
    rw [hHc] at hst hasd
    have hH : HH c = HH i ∨ (Q3 l[i].op = true ∧ isE E l[i] = false) ∨ (isE E l[i] = false ∧ l[i].guard = none ∧ (Qcm l[i].op = true ∨ ∀ x ∈ l[i].op.operands, Sees (HH i) (HH c) (idS (opnd (tsF X.nt l sv (fun _ => true) ts i) x)))) := by
     cases hei : isE E l[i] with
     | true =>
      left
      have : ∀ q o, q < l.length → getL l q = some o → isE E o = true → D q = decide (q < i) := by
       intro q o _ hq he
       by_cases e : q = i
       ·subst e; rw [hDi]; simp
       ·rcases Nat.lt_or_gt_of_ne e with cc | cc
        ·rw [Qxz cc]
         rcases pair q i o _ hq ho cc with h1 | ⟨h1, _⟩
         ·exact before q h1
         ·exact absurd ⟨he, hei⟩ h1
        ·rw [QxE om]
         cases hd : D q with
         | false => rfl
         | true =>
          rcases pair i q _ o ho hq cc with h1 | ⟨h1, _⟩
          ·exact (behind q h1 hd).elim
          ·exact absurd ⟨hei, he⟩ h1
      rw [← hHc]
      exact Qjb hsame l.length om (QxB _) this
     | false =>
      cases hci : Q3 l[i].op with
      | true => exact .inr (.inl ⟨rfl, rfl⟩)
      | false =>
      have free : ∀ q o, getL l q = some o → isE E o = true → (i ≤ q ∧ q < c) ∨ (c ≤ q ∧ q < i) → l[i].guard = none ∧ (QaR o.op = true ∨ Qcm l[i].op = true ∨ ∀ z ∈ l[i].op.operands, ∀ id, idS (opnd (tsF X.nt l sv (fun _ => true) ts i) z) = some id → ∀ o', getL (HH q) id = some o' → getL (HH (q + 1)) id = some o') := by
       intro q o hq he hr
       have key : ((i, q) ∈ S ∨ (QaR o.op = true ∧ l[i].guard = none)) → l[i].guard = none ∧ (QaR o.op = true ∨ Qcm l[i].op = true ∨ ∀ z ∈ l[i].op.operands, ∀ id, idS (opnd (tsF X.nt l sv (fun _ => true) ts i) z) = some id → ∀ o', getL (HH q) id = some o' → getL (HH (q + 1)) id = some o') := by
        rintro (hS | ⟨h1, h2⟩)
        ·obtain ⟨x, y, hx, hy, hg, h⟩ := alias i q hS
         rw [ho] at hx
         cases hx
         exact ⟨hg, .inr h⟩
        ·exact ⟨h2, .inl h1⟩
       have nonS : (i, q) ∉ S → ¬ (isE E o = true ∧ (QaR o.op = false ∨ l[i].guard.isSome = true) ∧ Q3 l[i].op = false ∧ (i, q) ∉ S) → QaR o.op = true ∧ l[i].guard = none := by
        intro hS h3
        refine ⟨?_, ?_⟩
        ·cases hn : QaR o.op with
         | true => rfl
         | false => exact absurd ⟨he, .inl hn, hci, hS⟩ h3
        ·cases hg : l[i].guard with
         | none => rfl
         | some g => exact absurd ⟨he, .inr (by rw [hg]; rfl), hci, hS⟩ h3
       refine key ?_
       by_cases hS : (i, q) ∈ S
       ·exact .inl hS
       ·right
        rcases hr with ⟨r1, r2⟩ | ⟨r1, r2⟩
        ·have hne : q ≠ i := fun e => by subst e; rw [ho] at hq; cases hq; rw [hei] at he; cases he
         have hd : D q = true := c2 q o r2 hq he
         rcases pair i q _ o ho hq om with h1 | ⟨_, _, h3, _⟩
         ·exact (behind q h1 hd).elim
         ·exact nonS hS h3
        ·have hd : D q = false := by rw [effD q o hq he]; simp; omega
         rcases pair q i o _ hq ho r2 with h1 | ⟨_, h2, _⟩
         ·rw [before q h1] at hd; cases hd
         ·exact nonS hS h2
      by_cases hany : ∃ q o, getL l q = some o ∧ isE E o = true ∧ ((i ≤ q ∧ q < c) ∨ (c ≤ q ∧ q < i))
      ·obtain ⟨q, o, hq, he, hr⟩ := hany
       have hg := (free q o hq he hr).1
       right; right
       cases hmv : Qcm l[i].op with
       | true => exact ⟨rfl, hg, .inl rfl⟩
       | false =>
       refine ⟨rfl, hg, .inr fun x hx id hid o' ho' => ?_⟩
       have sees : ∀ q o, getL l q = some o → isE E o = true → (i ≤ q ∧ q < c) ∨ (c ≤ q ∧ q < i) → QaR o.op = true ∨ ∀ o', getL (HH q) id = some o' → getL (HH (q + 1)) id = some o' := by
        intro q o hq he hr
        rcases (free q o hq he hr).2 with h1 | h1 | h1
        ·exact .inl h1
        ·rw [hmv] at h1; cases h1
        ·exact .inr (h1 x hx id hid)
       rcases Nat.le_total i c with hic | hic
       ·exact stretch id c i hic c1 (fun k o h1 h2 hk he' => sees k o hk he' (.inl ⟨h1, h2⟩)) o' ho'
       ·have hpre := stretch id i c hic om (fun k o h1 h2 hk he' => sees k o hk he' (.inr ⟨h1, h2⟩))
        have hx2 : opnd (tsF X.nt l sv D ts l.length) x = opnd (tsF X.nt l sv (fun _ => true) ts i) x := QfH hlook x hx
        have hrep := Q9 hst.tp x
        rw [hx2] at hrep
        have hnlz : ∀ g t, opnd (tsF X.nt l sv (fun _ => true) ts i) x ≠ .lz g t := by
         intro g t e
         have hevi' := hevi
         generalize sv i = s1 at hevi'
         generalize HH (i + 1) = q1 at hevi'
         cases hevi' with
         | val ns _ _ _ _ hlz _ _ =>
          have := Qh8 hlz x (by simpa using hx) g t e
          rw [e] at hid
          simp only [idS] at hid
          rw [this] at hid
          cases hid
         | lit _ _ _ _ _ hlz _ _ =>
          have := Qh8 hlz x (by simpa using hx) g t e
          rw [e] at hid
          simp only [idS] at hid
          rw [this] at hid
          cases hid
         | eff _ _ _ _ _ h1 => rw [hei] at h1; cases h1
         | call _ _ _ _ _ _ h1 => rw [hci] at h1; cases h1
         | callE _ _ _ _ _ _ h1 => rw [hci] at h1; cases h1
         | gval _ _ _ _ _ _ _ h1 => rw [hg] at h1; cases h1
         | glit _ _ _ _ _ _ _ h1 => rw [hg] at h1; cases h1
         | gcall _ _ _ _ _ _ _ _ _ _ h1 => rw [hg] at h1; cases h1
        obtain ⟨o2, ho2⟩ := Qts hrep hid hnlz
        have := hpre o2 ho2
        rw [ho'] at this
        cases this
        exact ho2
      ·left
       have e : ∀ a b, a ≤ b → b ≤ l.length → (∀ q o, a ≤ q → q < b → getL l q = some o → isE E o = false) → HH a = HH b := by
        intro a b hab
        induction b with
        | zero =>
         intro _ _; have : a = 0 := by omega
         subst this; rfl
        | succ b ihb =>
         intro hbl hq
         by_cases cc : a = b + 1
         ·subst cc; rfl
         ·have hob : getL l b = some (l[b]'om) := by rw [Qc]; simp
          rw [ihb om om fun q o h1 h2 => hq q o h1 om]
          exact (hsame b _ hob (hq b _ om om hob)).symm
       rcases Nat.le_total i c with hic | hic
       ·exact (e i c hic c1 fun q o h1 h2 hq => by
         cases he : isE E o with
         | false => rfl
         | true => exact absurd ⟨q, o, hq, he, .inl ⟨h1, h2⟩⟩ hany).symm
       ·exact e c i hic om fun q o h1 h2 hq => by
         cases he : isE E o with
         | false => rfl
         | true => exact absurd ⟨q, o, hq, he, .inr ⟨h1, h2⟩⟩ hany
    obtain ⟨H2', hev2, hef1, hef2⟩ := hevi.move hlook hH
    let D' : Nat → Bool := fun q => if q = i then true else D q
    have hD'i : D' i = true := by simp [D']
    have hD'o : ∀ q, q ≠ i → D' q = D q := fun q hq => by simp [D', hq]
    have hcl' : Closed l D' := by
     intro j o hj hd e he hb
     by_cases c : e.on = i
     ·rw [c]; exact hD'i
     ·rw [hD'o _ c]
      by_cases cj : j = i
      ·subst cj; exact deps o hj e he hb
      ·rw [hD'o j cj] at hd; exact hcl j o hj hd e he hb
    have hH2 : hD E l HH D' l.length = H2' := by
     cases hei : isE E l[i] with
     | true =>
      rw [hef1 hei]
      refine Qjb hsame l.length om (QxB _) fun q o _ hq he => ?_
      by_cases e : q = i
      ·subst e; rw [hD'i]; simp
      ·rw [hD'o q e]
       rcases Nat.lt_or_gt_of_ne e with cc | cc
       ·rw [Qxz om]
        rcases pair q i o _ hq ho cc with h1 | ⟨h1, _⟩
        ·exact before q h1
        ·exact absurd ⟨he, hei⟩ h1
       ·rw [QxE om]
        cases hd : D q with
        | false => rfl
        | true =>
         rcases pair i q _ o ho hq cc with h1 | ⟨h1, _⟩
         ·exact (behind q h1 hd).elim
         ·exact absurd ⟨hei, he⟩ h1
     | false =>
      rw [hef2 hei]
      refine Qjb hsame l.length c1 (QxB _) fun q o _ hq he => ?_
      have hne : q ≠ i := fun e => by subst e; rw [ho] at hq; cases hq; rw [hei] at he; cases he
      rw [hD'o q hne]
      exact effD q o hq he
    have cont : ∀ (K1' : Keep) (β' : Nat → Nat) (F' : Mem) (μ' : Nat → Value) (a' : Act) (w' : World), F.le F' → Ext (HH c) μ H2' μ' → HSat K1' F' H2' μ' w' → TSat F' H2' μ' (tsF X.nt l sv D' ts l.length) a'.tmps → a'.tmps.size = X.nt → a'.defers = K1'.ds → Asd X.nt X.Γ L0 l K Y D' ys β' K1' F' H2' μ' a' → wpAny X.P .any ops (Post X K F0 H0 μ0 k) fuel (listed.setIfInBounds i true) a' w' := by
     intro K1' β' F' μ' a' w' g1 g2 g3 g4 g5 g6 g7
     refine ih (listed.setIfInBounds i true) D' (by simp [hls]) ?_ hcl' ?_ K1' β' F' μ' a' w' (by rw [hH2]; exact g7) (by rw [hH2]; exact ⟨hst.le.le_trans' g1, hst.ext.trans g2, g3, g4, g5, g6, hst.n0⟩)
     ·intro q
      by_cases e : q = i
      ·subst e
       rw [hD'i]
       simp [QxQ, hls, hsz, hilt]
      ·rw [hD'o q e, hD' q, QxQ, QxQ, Qya (fun h => e h.symm)]
     ·have := Qiy hDi hD'i hD'o l.length hilt
      omega
    have tput : ∀ (F' : Mem) (μ' : Nat → Value) (v : Value), F.le F' → Ext (HH c) μ H2' μ' → RepS F' H2' μ' (sv i) v → TSat F' H2' μ' (tsF X.nt l sv D' ts l.length) (a.put l[i].dst v).tmps := by
     intro F' μ' v g1 g2 g4
     intro t
     have hold := RepS.mono g1 g2 _ _ (hst.tp t)
     by_cases cd : l[i].dst = some t
     ·by_cases clt : t < X.nt
      ·have hf : find t (tsF X.nt l sv D' ts l.length) = sv i := by
        have h1 : find t (tsF X.nt l sv D' ts l.length) = find t (tsF X.nt l sv D' ts (i + 1)) := by
         refine Qic l.length om fun q hq hd => ?_
         by_cases e : q = i
         ·subst e; rw [hD'i]; simp
         ·rw [hD'o q e, writers t (.inr cd) q hq hd e]
          by_cases cc : q < i
          ·rw [Qxz cc, Qxz om]; rfl
          ·rw [QxE cc, QxE om]; rfl
        rw [h1]
        simp only [tsF, hD'i, Qyo]
        rw [Qaf, Qxt ⟨by simp [Qa4, ho, cd], clt⟩]
       rw [hf]
       have : (a.put l[i].dst v).tmps.getD t undef = v := by
        have hlt : t < a.tmps.size := by rw [hst.sz]; exact clt
        rw [cd]
        simp [Act.put, Array.getD, hlt]
       rw [this]
       exact g4
      ·have hf : find t (tsF X.nt l sv D' ts l.length) = find t (tsF X.nt l sv D ts l.length) := by
        have : ∀ DD m, find t (tsF X.nt l sv DD ts m) = find t ts := by
         intro DD m
         induction m with
         | zero => rfl
         | succ m ihm =>
          simp only [tsF]
          split
          ·rw [Qaf, Qxu (fun h => clt h.2)]; exact ihm
          ·exact ihm
        rw [this, this]
       rw [hf]
       have : (a.put l[i].dst v).tmps = a.tmps := by
        rw [cd]
        simp only [Act.put]
        exact Array.setIfInBounds_eq_of_size_le (by rw [hst.sz]; omega)
       rw [this]
       exact hold
     ·have hf : find t (tsF X.nt l sv D' ts l.length) = find t (tsF X.nt l sv D ts l.length) := by
       have : ∀ m, find t (tsF X.nt l sv D' ts m) = find t (tsF X.nt l sv D ts m) := by
        intro m
        induction m with
        | zero => rfl
        | succ m ihm =>
         simp only [tsF]
         by_cases e : m = i
         ·subst e
          rw [hD'i, Qxt rfl, hDi, Qxu (by simp), Qaf, Qxu (by simp [Qa4, ho, cd])]
          exact ihm
         ·rw [hD'o m e]
          split
          ·rw [Qaf, Qaf, ihm]
          ·exact ihm
       exact this _
      rw [hf]
      have : (a.put l[i].dst v).tmps.getD t undef = a.tmps.getD t undef := by
       cases hdd : l[i].dst with
       | none => rfl
       | some d =>
        have hne : d ≠ t := fun e => cd (by rw [hdd, e])
        simp only [Act.put, QxQ]
        rw [Qya hne]
      rw [this]
      exact hold
    have hl0 : getL L0 i = some o' := (gop i).symm.trans hopi
    by_cases hP : memP Y i = true
    ·
     obtain ⟨p, hp, e⟩ := memP_ok.1 hP
     obtain ⟨oy, oq, d, t, ii, x, f⟩ := all p hp
     have eo : o' = oy := Qyv (hl0.symm.trans (e ▸ f.gy))
     subst eo
     have hli : l[i] = { o' with op := .move (.const (.bool true)), dst := none } := by rw [hso]; unfold QbQ; rw [hP]
     have hei : isE E l[i] = false := by rw [hli]; rfl
     have hHH : H2' = HH c := hef2 hei
     obtain ⟨c', T, r1, r2, r3, r4⟩ := QnY (P := X.P) hst.hs hΓ f.ty a o' f.opy
     show wpOp X.P ops (Post X K F0 H0 μ0 k) i (wpAny X.P .any ops (Post X K F0 H0 μ0 k) fuel (listed.setIfInBounds i true)) a w
     unfold wpOp
     rw [hopi]
     simp only
     rw [Qxt (by simp [Region.wanted, f.gny])]
     left
     unfold Oper.wp
     rw [r1, Oper.upon_value, f.dy]
     have hdlt : d < a.tmps.size := by rw [hst.sz]; exact f.lt
     subst hHH
     refine cont _ (fun n => if n = p.1 then w.heap.size else β n) F μ _ _ (Mem.le_refl F) (Ext.refl _ μ) r3 (fun t' => ?_) (by simp [Act.put, hst.sz]) (by simp [Act.put]; exact hst.df) ?_
     ·by_cases q : t' = d
      ·subst q; rw [noW p hp _ _ _ _ _ _ f]; trivial
      ·have h0 : find t' (tsF X.nt l sv D' ts l.length) = find t' (tsF X.nt l sv D ts l.length) := by
        have : ∀ m, find t' (tsF X.nt l sv D' ts m) = find t' (tsF X.nt l sv D ts m) := by
         intro m
         induction m with
         | zero => rfl
         | succ m ihm =>
          simp only [tsF]
          by_cases e2 : m = i
          ·subst e2
           rw [hD'i, Qxt rfl, hDi, Qxu (by simp), Qaf, Qxu (by simp [Qa4, ho, hli])]
           exact ihm
          ·rw [hD'o m e2]
           split
           ·rw [Qaf, Qaf, ihm]
           ·exact ihm
        exact this _
       rw [h0]
       have := hst.tp t'
       simp only [Act.put, QxQ] at this ⊢
       rw [Qya (QyL q)]
       exact this
     ·refine hasd.make all f (K1 := K1) (b := w.heap.size) r4 (r2.1.trans f.zs) ?_ (fun q hq => hD'o q (by rw [← e]; exact hq)) (by simp [Act.put, Array.getD, hdlt]) (fun p' hp' => sepQ p hp p' hp') (fun p' hp' q => by rw [uniq p' hp' p hp q]) (fun p' hp' hne oy' oq' d' t' i' x' f' => ?_)
      ·rw [hD'o _ (by rw [← e]; exact sepQ p hp p hp)]
       cases hq : D p.2 with
       | false => rfl
       | true =>
        have := hcl.anc f.anc (fun o ho' e' he' hb => hcl p.2 o ho' hq e' he' hb)
        rw [e, hDi] at this; cases this
      ·have hdd : d' ≠ d := fun q => by
        subst q
        exact f.one p'.1 oy' f'.gy hne f'.dy
       simp only [Act.put, QxQ]
       rw [Qya (QyL hdd)]
    ·by_cases hQ : memQ Y i = true
     ·
      obtain ⟨p, hp, e⟩ := memQ_ok.1 hQ
      obtain ⟨oy, oq, d, t, ii, x, f⟩ := all p hp
      have eo : o' = oq := Qyv (hl0.symm.trans (e ▸ f.gq))
      subst eo
      have hPf : memP Y i = false := by simpa using hP
      have hli : l[i] = { o' with op := .move x, dst := none } := by rw [hso]; unfold QbQ; rw [hPf, hQ]; simp only [f.opq]
      have hei : isE E l[i] = false := by rw [hli]; rfl
      have hHH : H2' = HH c := hef2 hei
      subst hHH
      have hdy : D p.1 = true := before p.1 (e ▸ f.anc)
      obtain ⟨c0, T0, s1, s2, s3, s4, s5⟩ := hasd.made p hp _ _ _ _ _ _ f hdy
      obtain ⟨ysv, v1, v2⟩ := Qkh hend all p hp _ _ _ _ _ _ f
      have hx1 : opnd (tsF X.nt l sv D ts l.length) x = opnd (tsF X.nt l sv (fun _ => true) ts i) x := QfH hlook x (by rw [hli]; simp [Op.operands])
      have hx2 : opnd tsE x = opnd (tsF X.nt l sv (fun _ => true) ts i) x := by rw [← hE]; exact Qdo om (e ▸ f.fix)
      have hrep := Q9 hst.tp x
      rw [hx1, ← hx2] at hrep
      have hcel := Qdi hrep v1
      have hone : ∀ u ∈ (a.eval x).cells.toList, u.oneCell' = true := by
       intro u hu
       obtain ⟨j, hj, hjx⟩ := List.mem_iff_getElem.1 hu
       have hj' : j < ysv.length := by rw [← hcel.1]; simpa using hj
       obtain ⟨u', u1, u2⟩ := hcel.2 j ysv[j] (by rw [Qc]; simp [hj'])
       have : u' = u := by
        rw [← Qyt] at u1
        rw [Qyl hj] at u1
        cases u1
        exact hjx
       subst this
       exact RepC.one _ _ u2
      have hcs : (a.eval x).cells.size = ii.size := by rw [hcel.1, v2]
      have hblk := hst.hs.kp _ _ s1
      have hrun := Qe1 (P := X.P) (hΓ t ii f.ty) hcs hone hblk (o := 0) (by rw [hcs, s4]; omega)
      have hrow : (c0.toList.take 0 ++ (a.eval x).cells.toList ++ c0.toList.drop (0 + (a.eval x).cells.size)).toArray = (a.eval x).cells := by
       rw [List.take_zero, List.nil_append, List.drop_of_length_le (by simp; omega), Qy1]
      rw [hrow] at hrun
      show wpOp X.P ops (Post X K F0 H0 μ0 k) i (wpAny X.P .any ops (Post X K F0 H0 μ0 k) fuel (listed.setIfInBounds i true)) a w
      unfold wpOp
      rw [hopi]
      simp only
      rw [Qxt (by simp [Region.wanted, f.gnq])]
      left
      unfold Oper.wp
      have hrun2 : (execOp a.eval o').run X.P w = .ok .skip (w.setRow (β p.1) (a.eval x).cells) := by
       unfold execOp
       rw [f.opq]
       show (do Instr.storeAt t (a.tmps.getD d undef) (a.eval x); pure Next.skip : Sem Next).run X.P w = _
       rw [s3, Qg hrun]
       rfl
      rw [hrun2, Oper.upon_skip, f.dq]
      have hset : ∀ y, y ≠ β p.1 → (w.setRow (β p.1) (a.eval x).cells).heap[y]? = w.heap[y]? := fun y hy => setRow_other w _ y _ hy
      have hnew : (w.setRow (β p.1) (a.eval x).cells).heap[β p.1]? = some (.cells (a.eval x).cells T0 (0, 0)) := setRow_heap w _ _ _ _ _ hblk
      have hh := hst.hs.refill (w' := w.setRow (β p.1) (a.eval x).cells) s1 rfl rfl rfl hnew hset
      refine cont _ β F μ _ _ (Mem.le_refl F) (Ext.refl _ μ) hh ?_ hst.sz hst.df ?_
      ·have := tput F μ undef (Mem.le_refl F) (Ext.refl _ μ)
       intro t'
       have h0 : find t' (tsF X.nt l sv D' ts l.length) = find t' (tsF X.nt l sv D ts l.length) := by
        have : ∀ m, find t' (tsF X.nt l sv D' ts m) = find t' (tsF X.nt l sv D ts m) := by
         intro m
         induction m with
         | zero => rfl
         | succ m ihm =>
          simp only [tsF]
          by_cases e2 : m = i
          ·subst e2
           rw [hD'i, Qxt rfl, hDi, Qxu (by simp), Qaf, Qxu (by simp [Qa4, ho, hli])]
           exact ihm
          ·rw [hD'o m e2]
           split
           ·rw [Qaf, Qaf, ihm]
           ·exact ihm
        exact this _
       rw [h0]
       exact hst.tp t'
      ·refine hasd.fill hp f hdy hcs ?_ (fun q hq => hD'o q (by rw [← e]; exact hq)) (fun p' hp' => sepP p hp p' hp') uniq (fun p' hp' q => by rw [hqq p' hp' p hp q]) (fun _ _ _ _ _ _ _ _ _ => rfl)
       rw [ysq p hp _ _ _ _ _ _ f, v1, Option.getD_some]
       exact hcel
     ·have hPf : memP Y i = false := by simpa using hP
      have hQf : memQ Y i = false := by simpa using hQ
      have hli : l[i] = o' := by rw [hso]; unfold QbQ; rw [hPf, hQf]
      have hrun := hev2.run hΓ ho hst (k := wpAny X.P .any ops (Post X K F0 H0 μ0 k) fuel (listed.setIfInBounds i true)) (Q := Post X K F0 H0 μ0 k)
      refine Qrc (l := l) hopi (by rw [← hli]; simp [hilt]) (fun j b hb => ?_) (hrun fun F' μ' v w' g1 g2 g3 g4 => cont K1 β F' μ' _ w' g1 g2 g3 (tput F' μ' v g1 g2 g4) (by cases hdd : l[i].dst <;> simp [Act.put, hst.sz]) (by cases hdd : l[i].dst <;> simp [Act.put, hst.df]) (hasd.keep g1 g2 (fun p hp => ⟨hD'o _ fun q => ?_, hD'o _ fun q => ?_⟩) fun p hp oy oq d t ii x f => ?_))
      ·obtain ⟨n1, n2⟩ := gdd i o' hl0 j b hb
       rw [gop j]
       have : l.toArray[j]? = getL l j := by rw [Qc]; simp
       rw [this, hget j]
       cases getL L0 j with
       | none => rfl
       | some oj =>
        show oj.dst = (QbQ Y j oj).dst
        unfold QbQ
        rw [n1, n2]
      ·rw [← q] at hPf
       rw [show memP Y p.1 = true from memP_ok.2 ⟨p, hp, rfl⟩] at hPf; cases hPf
      ·rw [← q] at hQf
       rw [show memQ Y p.2 = true from memQ_ok.2 ⟨p, hp, rfl⟩] at hQf; cases hQf
      ·have hne : i ≠ p.1 := fun q => by
        rw [q] at hPf
        rw [show memP Y p.1 = true from memP_ok.2 ⟨p, hp, rfl⟩] at hPf; cases hPf
       have hd : l[i].dst ≠ some d := by rw [hli]; exact f.one i o' hl0 hne
       cases hdd : l[i].dst with
       | none => rfl
       | some d' =>
        have : d' ≠ d := fun q => hd (by rw [hdd, q])
        simp only [Act.put, QxQ]
        rw [Qya this]
 have hsat0 : Sat X K F0 H0 μ0 ts H F μ a { w with drawn := w.drawn + 1 } := by
  refine ⟨hs.le, hs.ext, ?_, hs.tp, hs.sz, hs.df, hs.n0⟩
  refine ⟨hs.hs.os, hs.hs.tape, hs.hs.output, hs.hs.fr, hs.hs.kp, fun i o hi => ?_, hs.hs.sp, hs.hs.ij, hs.hs.dj⟩
  have := hs.hs.ob i o hi
  cases o with
  | vr cs => exact this
  | arr e es n g => exact this
  | dead => trivial
  | mp sh z va ks val => exact this
 refine main ops.size (Array.replicate ops.size false) (fun _ => false) (by simp) (fun i => by simp [QxQ, Array.getElem?_replicate]; split <;> rfl) (fun j o _ hd => by cases hd) ?_ K (fun _ => 0) F μ a _ ⟨rfl, rfl, rfl, rfl, fun _ _ h => h, fun p _ _ _ _ _ _ _ _ hd => (by cases hd), fun p _ p' _ hd => (by cases hd)⟩ ?_
 ·rw [hsz]
  have : ∀ m, Qbs (fun _ => false) m = m := by
   intro m
   induction m with
   | zero => rfl
   | succ m ih => simp [Qbs, ih]
  exact this _
 ·have e1 : ∀ m, tsF X.nt l sv (fun _ => false) ts m = ts := by
   intro m
   induction m with
   | zero => rfl
   | succ m ih => simp [tsF, ih]
  have e2 : ∀ m, hD E l HH (fun _ => false) m = HH 0 := by
   intro m
   induction m with
   | zero => rfl
   | succ m ih =>
    simp only [hD]
    split
    ·simp [ih]
    ·exact ih
  rw [e1, e2, hh0]
  exact hsat0
theorem QgL : ∀ (l : List Oper) (i : Nat), QaH [] i l = l
 | [], _ => rfl
 | o :: r, i => by simp only [QaH, QgL r (i + 1)]; rfl
theorem QoZ {p : Nat → Bool} (h : ∀ i, p i = true) : ∀ n, allI n p = true
 | 0 => rfl
 | n + 1 => by simp only [allI, h n, QoZ h n, Bool.and_self]
theorem QiM (hΓ : Qw X.P X.Γ) (hm : X.P.follows .mixedOrders = true) {H : List O} (E : List Nat) (S : List (Nat × Nat)) (hok : Qeb E S ops.toList = true) (h : Qb7 X E ops.toList ops.toList ts H fun ts' H' => match S.all (fun p => QeF ops.toList ts' p.1 p.2) with
   | true => k .normal ts' H'
   | false => StuckC .skip ts' H') :
  ∀ K F0 H0 μ0 F μ a w, Sat X K F0 H0 μ0 ts H F μ a w → wpAny X.P .any ops (Post X K F0 H0 μ0 k) ops.size (Array.replicate ops.size false) a { w with drawn := w.drawn + 1 } := by
 refine Qjk hΓ hm E S [] ?_ rfl (by rw [QgL]; exact hok) (by rw [QgL]; exact h)
 unfold sideB
 simp only [List.all_nil, List.map_nil, sideB.nodupB, Bool.true_and]
 refine QoZ (fun i => ?_) _
 unfold getB
 split
 ·dsimp only
  split <;> rfl
 ·rfl
theorem QjT (hΓ : Qw X.P X.Γ) (hm : X.P.follows .mixedOrders = true) {H : List O} (E : List Nat) (S : List (Nat × Nat)) (hok : Qeb E S ops.toList = true) (h : Qb7 X E ops.toList ops.toList ts H fun ts' H' => match S.all (fun p => QeF ops.toList ts' p.1 p.2) with
   | true => k .normal ts' H'
   | false => StuckC .skip ts' H') :
  AW X (.region id ops true) ts H k := fun K F0 H0 μ0 F μ a w hs => wp_region_any hm (QiM hΓ hm E S hok h K F0 H0 μ0 F μ a w hs)
theorem Qvd (hΓ : Qw X.P X.Γ) (hm : X.P.follows .mixedOrders = true) {H : List O} (E : List Nat) (S : List (Nat × Nat)) (hok : Qeb E S ops.toList = true) (h : Qb7 X E ops.toList ops.toList ts H fun ts' H' => match S.all (fun p => QeF ops.toList ts' p.1 p.2) with
   | true => k .normal ts' H'
   | false => StuckC .skip ts' H') : Dr X id ops ts H k := by
 refine ⟨?_⟩
 exact QjT hΓ hm E S hok h
theorem Dr.mk (hΓ : Qw X.P X.Γ) (hm : X.P.follows .mixedOrders = true) {H : List O} (hok : Qeb [] [] ops.toList = true) (h : Qb7 X [] ops.toList ops.toList ts H (k .normal)) : Dr X id ops ts H k := by
 refine ⟨?_⟩
 exact QjT hΓ hm [] [] hok h
theorem Qwt (hΓ : Qw X.P X.Γ) (hm : X.P.follows .mixedOrders = true) {H : List O} (S : List (Nat × Nat)) (hok : Qeb [] S ops.toList = true) (h : Qb7 X [] ops.toList ops.toList ts H fun ts' H' => match S.all (fun p => QeF ops.toList ts' p.1 p.2) with
   | true => k .normal ts' H'
   | false => StuckC .skip ts' H') : Dr X id ops ts H k := by
 refine ⟨?_⟩
 exact QjT hΓ hm [] S hok h
theorem Qxn (hΓ : Qw X.P X.Γ) (hm : X.P.follows .mixedOrders = true) {H : List O} (E : List Nat) (S : List (Nat × Nat)) (Y : List (Nat × Nat)) (hY : sideB Y X.nt X.Γ ops.toList (QaH Y 0 ops.toList) = true)
  (hok : Qeb E S (QaH Y 0 ops.toList) = true) (h : Qb7 X E (QaH Y 0 ops.toList) (QaH Y 0 ops.toList) ts H fun ts' H' => match S.all (fun p => QeF (QaH Y 0 ops.toList) ts' p.1 p.2) with
   | true => Qeg X.Γ ops.toList ts' Y ts' H' (k .normal)
   | false => StuckC .skip ts' H') (hts : Y.all (fun p => match Qa4 ops.toList p.1 with | some d => isU (find d ts) | none => false) = true := by rfl) : Dr X id ops ts H k :=
 ⟨fun K F0 H0 μ0 F μ a w hs => wp_region_any hm (Qjk hΓ hm E S Y hY hts hok h K F0 H0 μ0 F μ a w hs)⟩
end Go.Am
