/- Contracts, lemmas; no condition. -/
import Derived.Test.YtkelkepdcfogaaaGreatP13D
set_option linter.all false
namespace Go.Am
def Keep.also (K : Keep) (b : Nat) (o : Obj) : Keep := { K with mem := fun b' => if b' = b then some o else K.mem b' }
theorem Qo2 {P : Program} {Γ : Env} {K : Keep} {F : Mem} {H : List O} {μ : Nat → Value} {w : World} (hw : HSat K F H μ w) (hΓ : Qo P Γ) {t : Nat} {i : TI} (hi : Γ.at t = some i) (a : Act) (o : Oper) (ho : o.op = .alloc t) :
  ∃ c T, (execOp a.eval o).run P w = .ok (.value (.pointer (some ⟨w.heap.size, 0, none⟩))) (w.alloc (.cells c T (0, 0))) ∧ RepL F H μ (QE i) c ∧ HSat (K.also w.heap.size (.cells c T (0, 0))) F H μ (w.alloc (.cells c T (0, 0))) ∧ K.mem w.heap.size = none := by
 obtain ⟨z, z1, z2, _⟩ := Qc1 (P := P) (F := F) (H := H) (μ := μ) (hΓ t i hi) w
 have hnone : K.mem w.heap.size = none := by
  cases h : K.mem w.heap.size with
  | none => rfl
  | some o =>
   have := hw.kp _ _ h
   rw [Array.getElem?_eq_none (Nat.le_refl _)] at this
   cases this
 have hold : ∀ b o, w.heap[b]? = some o → (w.alloc (.cells z.cells t (0, 0))).heap[b]? = some o := fun b o hb => by
  rw [heap_alloc_old w _ (Array.getElem?_eq_some_iff.1 hb).1]; exact hb
 have hlt : ∀ b o, w.heap[b]? = some o → b ≠ w.heap.size := fun b o hb e => by
  have := (Array.getElem?_eq_some_iff.1 hb).1
  omega
 refine ⟨z.cells, t, ?_, z2, ⟨hw.os, hw.tape, hw.output, fun b o h => hold b o (hw.fr b o h), fun b o h => ?_, fun id o h => ?_, fun id b h => ?_, hw.ij, fun b o h => ?_⟩, hnone⟩
 ·unfold execOp
  rw [ho]
  apply val1
  show (do let zero ← zeroValue t; pure (Value.pointer (some (← newVar t zero))) : Sem Value).run P w = _
  rw [Qf z1]
  simp [newVar, newRow, newObj, Sem.run]
 ·simp only [Keep.also] at h
  split at h
  ·rename_i e; subst e; cases h; exact heap_alloc_new w _
  ·exact hold b o (hw.kp b o h)
 ·exact (hw.ob id o h).other (Ext.refl H μ) rfl fun b hb _ => heap_alloc_old w _ hb
 ·have h1 := hw.sp id b h
  refine ⟨h1.1, ?_⟩
  have hb : b ≠ w.heap.size := by
   obtain ⟨⟨o, o1, o2⟩, hb⟩ := h
   have := hw.ob id o o1
   cases o with
   | vr cs =>
    obtain ⟨b', c, T, q1, q2, _⟩ := this
    rw [q1] at hb; cases hb
    exact hlt _ _ q2
   | arr e es n g =>
    obtain ⟨xs, q1, _⟩ := this
    rcases q1.2 with ⟨q, _⟩ | ⟨b', cap, cur, q, _, q3, _⟩
    ·rw [q] at hb; cases hb
    ·rw [q] at hb; cases hb
     exact hlt _ _ q3
   | dead => simp at o2
   | mp sh z va ks val =>
    obtain ⟨b', es, ck, q1, q2, _⟩ := this
    rw [q1] at hb; cases hb
    exact hlt _ _ q2
  simp only [Keep.also]
  rw [if_neg hb]
  exact h1.2
 ·have h1 := hw.fr b o h
  simp only [Keep.also]
  rw [if_neg (hlt b o h1)]
  exact hw.dj b o h
theorem Qql {K : Keep} {F : Mem} {H : List O} {μ : Nat → Value} {w : World} {b : Nat} {c : Array Value} {T : TypeId} {cs : List C} (hw : HSat (K.also b (.cells c T (0, 0))) F H μ w) (hn : K.mem b = none) (hl : RepL F H μ cs c) :
  HSat K F (H ++ [.vr cs]) (upd μ H.length (.pointer (some ⟨b, 0, none⟩))) w := by
 have hE := Ext.push H μ (.vr cs) (.pointer (some ⟨b, 0, none⟩))
 have kb : (K.also b (.cells c T (0, 0))).mem b = some (.cells c T (0, 0)) := by simp [Keep.also]
 have ko : ∀ b' o, K.mem b' = some o → (K.also b (.cells c T (0, 0))).mem b' = some o := fun b' o h => by
  simp only [Keep.also]
  rw [if_neg (fun e => by subst e; rw [hn] at h; cases h)]; exact h
 have own : ∀ id b', QD (H ++ [.vr cs]) (upd μ H.length (.pointer (some ⟨b, 0, none⟩))) id b' → (id < H.length ∧ QD H μ id b') ∨ (id = H.length ∧ b' = b) := by
  rintro id b' ⟨⟨o, o1, o2⟩, hb⟩
  have hlt := Qk o1
  rw [List.length_append] at hlt
  simp only [List.length_cons, List.length_nil] at hlt
  by_cases e : id = H.length
  ·subst e
   right
   simp only [upd, if_true, blk, Option.some.injEq] at hb
   exact ⟨rfl, hb.symm⟩
  ·left
   rw [Qap _ _ _ (by omega)] at o1
   refine ⟨by omega, ⟨o, o1, o2⟩, ?_⟩
   simpa [upd, e] using hb
 have notb : ∀ id, QD H μ id b → False := fun id h => by
  have := (hw.sp id b h).2
  rw [kb] at this; cases this
 have Fb : F b = none := by
  cases h : F b with
  | none => rfl
  | some o => have := hw.dj b o h; rw [kb] at this; cases this
 refine ⟨hw.os, hw.tape, hw.output, hw.fr, fun b' o h => hw.kp b' o (ko b' o h), fun id o h => ?_, fun id b' h => ?_, fun id id' b' h h' => ?_, fun b' o h => ?_⟩
 ·have hlt := Qk h
  rw [List.length_append] at hlt
  simp only [List.length_cons, List.length_nil] at hlt
  by_cases e : id = H.length
  ·subst e
   rw [QM] at h
   cases h
   exact ⟨b, c, T, by simp [upd], hw.kp b _ kb, hl.mono (Mem.le_refl F) hE⟩
  ·rw [Qap _ _ _ (by omega)] at h
   exact (hw.ob id o h).other hE (by simp [upd, e]) fun _ _ _ => rfl
 ·rcases own id b' h with ⟨_, h1⟩ | ⟨_, rfl⟩
  ·have := hw.sp id b' h1
   refine ⟨this.1, ?_⟩
   cases hk : K.mem b' with
   | none => rfl
   | some o => have h2 := ko b' o hk; rw [this.2] at h2; cases h2
  ·exact ⟨Fb, hn⟩
 ·rcases own id b' h with ⟨h0, h1⟩ | ⟨h0, h1⟩ <;> rcases own id' b' h' with ⟨h2, h3⟩ | ⟨h2, h3⟩
  ·exact hw.ij id id' b' h1 h3
  ·subst h3; exact (notb id h1).elim
  ·subst h1; exact (notb id' h3).elim
  ·omega
 ·have := hw.dj b' o h
  cases hk : K.mem b' with
  | none => rfl
  | some o' => have h2 := ko b' o' hk; rw [this] at h2; cases h2
theorem Qsy {l : List Oper} {y j : Nat} (h : Anc l y j) : ∃ q oq, getL l q = some oq ∧ ∃ e ∈ oq.after.toList, Region.binds .any e = true ∧ e.on = y ∧ (q = j ∨ Anc l q j) := by
 induction h with
 | here hj he hb hi => exact ⟨_, _, hj, _, he, hb, hi, .inl rfl⟩
 | far hj he hb _ ih =>
  obtain ⟨q, oq, h1, e', h2, h3, h4, h5⟩ := ih
  refine ⟨q, oq, h1, e', h2, h3, h4, .inr ?_⟩
  rcases h5 with h5 | h5
  ·exact .here hj he hb h5.symm
  ·exact .far hj he hb h5
theorem QtS {X : Cx} {E : List Nat} {all : List Oper} {o : Oper} {ts : Ts} {H H' : List O} {s : S} (h : Ev X E all o ts H s H') {t : Nat} (ho : o.op = .alloc t) (he : isE E o = true) : ∃ i, X.Γ.at t = some i ∧ s = .c (.ptr H.length 0) ∧ H' = H ++ [.vr (QE i)] := by
 cases h with
 | eff ns _ _ _ _ _ hv _ =>
  rcases QbO hv with hv | hv
  ·rw [ho] at hv
   simp only [eff] at hv
   split at hv
   ·rename_i i hi
    rw [Qdb] at hv
    cases hv
    exact ⟨i, hi, rfl, rfl⟩
   ·cases hv
  ·rw [ho] at hv
   simp [QbS] at hv
 | callE _ _ _ _ _ _ hc => rw [ho] at hc; cases hc
 | val _ _ _ _ h1 => rw [he] at h1; cases h1
 | lit _ _ _ _ h1 => rw [he] at h1; cases h1
 | call _ _ _ _ _ _ _ h1 => rw [he] at h1; cases h1
 | gval _ _ _ _ _ _ _ _ _ _ _ _ _ h1 => rw [he] at h1; cases h1
 | gcall _ _ _ _ _ _ _ _ _ _ _ _ _ _ _ _ h1 => rw [he] at h1; cases h1
def QuF (E : List Nat) (S : List (Nat × Nat)) (lx ly : Nat) (all : List Oper) (ms : List Nat) (i j : Nat) (x y : Oper) : Bool :=
 (ms.getD j 0).testBit i ||
 ((!(isE E x && isE E y) || (Nat.beq i lx && Nat.beq j ly)) && !(isE E x && (!QW x.op || y.guard.isSome) && !QF y.op && !S.contains (j, i)) && !(isE E y && (!QW y.op || x.guard.isSome) && !QF x.op && !S.contains (i, j)) &&
  (match x.dst with
   | some t => !(Qbp all y).contains t && !(y.dst == some t)
   | none => true) &&
  (match y.dst with
   | some t => !(Qbp all x).contains t
   | none => true))
def getB (l : List Oper) (k : Nat) (p : Oper → Bool) : Bool :=
 match getL l k with
 | some o => p o
 | none => true
theorem QhN {l : List Oper} {k : Nat} {p : Oper → Bool} (h : getB l k p = true) {o : Oper} (ho : getL l k = some o) : p o = true := by
 unfold getB at h
 rw [ho] at h
 exact h
def QuK (E : List Nat) (S : List (Nat × Nat)) (lx ly : Nat) (l : List Oper) (ms : List Nat) : Bool :=
 allI l.length fun j => getB l j fun y => (y.after.toList.all fun e => !Region.binds .any e || Nat.blt e.on j) && allI j fun i => getB l i fun x => QuF E S lx ly l ms i j x y
def QqH (E : List Nat) (lx ly nt : Nat) (l : List Oper) : Bool :=
 match getL l lx, getL l ly with
 | some ox, some oy => Nat.blt lx ly && (isE E ox && (oy.guard.isNone && ((match oy.op, oy.dst with
   | .alloc _, some d => Nat.blt d nt
   | _, _ => false) && ((allI l.length fun k => !(Nat.blt lx k && Nat.blt k ly) || getB l k fun o => !isE E o) &&
   allI l.length fun q => getB l q fun o => isE E o || ((Qd9 l []).getD q 0).testBit lx || o.after.toList.all fun e => !(Region.binds .any e && Nat.beq e.on ly)))))
 | _, _ => false
def Qq1 (E : List Nat) (S : List (Nat × Nat)) (lx ly nt : Nat) (l : List Oper) : Bool := (QuK E S lx ly l (Qd9 l []) && S.all fun p => match getL l p.2 with
 | some y => !QlR E y.op
 | none => true) && QqH E lx ly nt l
theorem Quf {E : List Nat} {S : List (Nat × Nat)} {lx ly : Nat} {l : List Oper} (h : QuK E S lx ly l (Qd9 l []) = true) : ∀ j y, getL l j = some y →
  (∀ e ∈ y.after.toList, Region.binds .any e = true → e.on < j) ∧ ∀ i x, getL l i = some x → i < j → Anc l i j ∨
   ((¬ (isE E x = true ∧ isE E y = true) ∨ (i = lx ∧ j = ly)) ∧ ¬ (isE E x = true ∧ (QW x.op = false ∨ y.guard.isSome = true) ∧ QF y.op = false ∧ (j, i) ∉ S) ∧ ¬ (isE E y = true ∧ (QW y.op = false ∨ x.guard.isSome = true) ∧ QF x.op = false ∧ (i, j) ∉ S) ∧
    (∀ t, x.dst = some t → t ∉ Qbp l y ∧ y.dst ≠ some t) ∧ ∀ t, y.dst = some t → t ∉ Qbp l x) := by
 intro j y hy
 have hj := QhN (QdB h j (Qk hy)) hy
 rw [Bool.and_eq_true] at hj
 refine ⟨fun e he hb => ?_, fun i x hx hij => ?_⟩
 ·have := List.all_eq_true.1 hj.1 e he
  rw [hb] at this
  simp only [Bool.not_true, Bool.false_or] at this
  exact Nat.le_of_ble_eq_true this
 ·have anc : ∀ j i, ((Qd9 l []).getD j 0).testBit i = true → Anc l i j := Qgy l l [] (fun k => by simp) (fun j i hj => by simp at hj)
  have := QhN (QdB hj.2 i hij) hx
  simp only [QuF, Bool.or_eq_true] at this
  rcases this with h1 | h1
  ·exact .inl (anc j i h1)
  ·right
   rw [Bool.and_eq_true, Bool.and_eq_true, Bool.and_eq_true, Bool.and_eq_true] at h1
   obtain ⟨⟨⟨⟨h1, h2⟩, h3⟩, h4⟩, h5⟩ := h1
   refine ⟨?_, fun ⟨a, b, c, d⟩ => by rcases b with b | b <;> simp [a, b, c, d] at h2, fun ⟨a, b, c, d⟩ => by rcases b with b | b <;> simp [a, b, c, d] at h3, fun t ht => ?_, fun t ht => ?_⟩
   ·rw [Bool.or_eq_true] at h1
    rcases h1 with h1 | h1
    ·exact .inl fun ⟨a, b⟩ => by simp [a, b] at h1
    ·rw [Bool.and_eq_true] at h1
     exact .inr ⟨Nat.eq_of_beq_eq_true h1.1, Nat.eq_of_beq_eq_true h1.2⟩
   ·rw [ht] at h4
    simp only [Bool.and_eq_true, Bool.not_eq_true', beq_eq_false_iff_ne] at h4
    exact ⟨by simpa using h4.1, h4.2⟩
   ·rw [ht] at h5
    simpa using h5
theorem Qt9 {E : List Nat} {lx ly nt : Nat} {l : List Oper} (h : QqH E lx ly nt l = true) : ∃ ox oy dy ty, getL l lx = some ox ∧ getL l ly = some oy ∧ lx < ly ∧ isE E ox = true ∧ oy.guard = none ∧ oy.op = .alloc ty ∧ oy.dst = some dy ∧ dy < nt ∧
  (∀ k o, lx < k → k < ly → getL l k = some o → isE E o = false) ∧ ∀ q o, getL l q = some o → ∀ e ∈ o.after.toList, Region.binds .any e = true → e.on = ly → isE E o = true ∨ ((Qd9 l []).getD q 0).testBit lx = true := by
 unfold QqH at h
 split at h
 ·rename_i ox oy h1 h2
  rw [Bool.and_eq_true, Bool.and_eq_true, Bool.and_eq_true, Bool.and_eq_true, Bool.and_eq_true] at h
  obtain ⟨a1, a2, a3, a4, a5, a6⟩ := h
  split at a4
  ·rename_i t d ho hd
   refine ⟨ox, oy, d, t, h1, h2, Nat.le_of_ble_eq_true a1, a2, by simpa using a3, ho, hd, Nat.le_of_ble_eq_true a4, fun k o hk1 hk2 hk => ?_, fun q o hq e he hb hy => ?_⟩
   ·have := QdB a5 k (Qk hk)
    rw [Bool.or_eq_true] at this
    rcases this with z | z
    ·rw [show Nat.blt lx k = true from Nat.ble_eq_true_of_le hk1, show Nat.blt k ly = true from Nat.ble_eq_true_of_le hk2] at z
     cases z
    ·simpa using QhN z hk
   ·have := QhN (QdB a6 q (Qk hq)) hq
    rw [Bool.or_eq_true, Bool.or_eq_true] at this
    rcases this with (z | z) | z
    ·exact .inl z
    ·exact .inr z
    ·have := List.all_eq_true.1 z e he
     rw [hb, hy] at this
     simp at this
  ·cases a4
 ·cases h
def LateM (X : Cx) (l : List Oper) (sv : Nat → S) (ts : Ts) (K : Keep) (Hd : List O) (lx ly dy : Nat) (iy : TI) (L D : Nat → Bool) (K1 : Keep) (tsD : Ts) (F : Mem) (μ : Nat → Value) (a : Act) : Prop :=
 (D = L ∧ K1 = K ∧ tsD = tsF X.nt l sv D ts l.length ∧ (L ly = true → L lx = true)) ∨
 ∃ b c T, L ly = true ∧ L lx = false ∧ (∀ q, D q = (L q && !decide (q = ly))) ∧ K1 = K.also b (.cells c T (0, 0)) ∧ K.mem b = none ∧ RepL F Hd μ (QE iy) c ∧ a.tmps.getD dy undef = .pointer (some ⟨b, 0, none⟩) ∧ tsD = (dy, .u) :: tsF X.nt l sv D ts l.length
theorem LateM.ds {X : Cx} {l : List Oper} {sv : Nat → S} {ts : Ts} {K : Keep} {Hd : List O} {lx ly dy : Nat} {iy : TI} {L D : Nat → Bool} {K1 : Keep} {tsD : Ts} {F : Mem} {μ : Nat → Value} {a : Act} (h : LateM X l sv ts K Hd lx ly dy iy L D K1 tsD F μ a) : K1.ds = K.ds := by
 rcases h with ⟨_, rfl, _⟩ | ⟨b, c, T, _, _, _, rfl, _⟩ <;> rfl
theorem Qui {X : Cx} (hΓ : Qo X.P X.Γ) (hm : X.P.follows .mixedOrders = true) {id : Nat} {ops : Array Oper} {ts : Ts} {H : List O} {k : Kp} (E : List Nat) (S : List (Nat × Nat)) (lx ly : Nat) (hok : Qq1 E S lx ly X.nt ops.toList = true) (h : Qcw X E ops.toList ops.toList ts H fun ts' H' => match S.all (fun p => Qdm ops.toList ts' p.1 p.2) with
   | true => k .normal ts' H'
   | false => StuckC .skip ts' H') :
  AW X (.region id ops true) ts H k := by
 intro K F0 H0 μ0 F μ a w hs
 obtain ⟨sv, HH, hh0, hev, hend0⟩ := Qhy ops.toList h
 generalize hl : ops.toList = l at *
 obtain ⟨hfreeB, hend⟩ : S.all (fun p => Qdm l (tsF X.nt l sv (fun _ => true) ts l.length) p.1 p.2) = true ∧ k .normal (tsF X.nt l sv (fun _ => true) ts l.length) (HH l.length) := by
  split at hend0
  ·rename_i hq; exact ⟨hq, hend0⟩
  ·exact (QcM hend0).elim
 rw [Qq1, Bool.and_eq_true, Bool.and_eq_true] at hok
 obtain ⟨⟨hok, hfr⟩, hlate⟩ := hok
 obtain ⟨ox, oy, dy, ty, lo1, lo2, lxy, lex, lgy, lopy, ldy, lnt, lbet, lpend⟩ := Qt9 hlate
 have alias : ∀ i q, (i, q) ∈ S → ∃ x y, getL l i = some x ∧ getL l q = some y ∧ x.guard = none ∧ (Qbn x.op = true ∨ ∀ z ∈ x.op.operands, ∀ id, idS (opnd (tsF X.nt l sv (fun _ => true) ts i) z) = some id → ∀ o, getL (HH q) id = some o → getL (HH (q + 1)) id = some o) := by
  intro i q hm
  have hf := List.all_eq_true.1 hfreeB _ hm
  have hfr2 := List.all_eq_true.1 hfr _ hm
  simp only [Qdm] at hf
  split at hf
  ·rename_i x hx
   split at hf
   ·rename_i y hy
    simp only [Bool.and_eq_true, Option.isNone_iff_eq_none] at hf
    obtain ⟨hg, hf⟩ := hf
    refine ⟨x, y, hx, hy, hg, ?_⟩
    have hq := Qk hy
    have hi := Qk hx
    split at hf
    ·rename_i cf args at' hop
     rw [Bool.or_eq_true] at hf
     rcases hf with hf | hf
     ·exact .inl hf
     ·right
      intro z hz id hid o ho
      have hz2 := List.all_eq_true.1 hf z (by simpa using hz)
      simp only [Bool.and_eq_true] at hz2
      rw [QbJ (by omega) hz2.1, hid] at hz2
      have hall := hz2.2
      have hq2 := hev q y hy
      generalize HH (q + 1) = H1 at hq2 ⊢
      generalize sv q = s1 at hq2
      cases hq2 with
      | eff ns _ _ _ hc _ _ _ => rw [hop] at hc; cases hc
      | callE q' f la _ _ _ _ _ hv _ _ _ hch =>
       refine hch (by simpa [hy] using hfr2) id o (fun a ha e => ?_) ho
       rw [hop] at hv
       simp only [Qbd] at hv
       split at hv
       ·rename_i f' n get hcal
        have hn0 : n = 0 := by
         simp only [opnd, bare] at hcal
         cases hcal
         rfl
        subst hn0
        split at hv
        ·rename_i q'' l'' hak
         cases hv
         rcases List.mem_append.1 ha with ha | ha
         ·obtain ⟨b, b1, b2⟩ := Qho _ _ _ hak a ha
          have hb := List.all_eq_true.1 hall b b1
          simp only [Bool.and_eq_true] at hb
          rw [QbJ (by omega) hb.1, ← b2, e] at hb
          simp at hb
         ·simp [capS] at ha
        ·cases hv
       ·cases hv
      | _ => exact ho
    ·rename_i args tys hop
     rw [Bool.or_eq_true] at hf
     rcases hf with hf | hf
     ·exact .inl hf
     ·right
      intro z hz id hid o ho
      have hz2 := List.all_eq_true.1 hf z (by simpa using hz)
      simp only [Bool.and_eq_true] at hz2
      rw [QbJ (by omega) hz2.1, hid] at hz2
      have hall := hz2.2
      have hq2 := hev q y hy
      generalize HH (q + 1) = H1 at hq2 ⊢
      generalize sv q = s1 at hq2
      cases hq2 with
      | eff ns _ _ _ _ _ he _ =>
       rw [hop] at he
       have hgo : ∀ a ∈ args.toList, idS (opnd (tsF X.nt l sv (fun _ => true) ts q) a) ≠ some id := fun a ha e => ?_
       ·exact (QbO he).elim (fun he => QiE he hgo ho) (fun ⟨_, he⟩ => QiM he hgo ho)
       have hb := List.all_eq_true.1 hall a ha
       simp only [Bool.and_eq_true] at hb
       rw [QbJ (by omega) hb.1, e] at hb
       simp at hb
      | callE _ _ _ _ _ _ hc => rw [hop] at hc; cases hc
      | _ => exact ho
    ·rename_i t a v hop
     simp only [Bool.and_eq_true] at hf
     obtain ⟨hfix, hf⟩ := hf
     split at hf
     ·rename_i n hn
      rw [Bool.or_eq_true] at hf
      rcases hf with hf | hf
      ·exact .inl hf
      ·right
       intro z hz id hid o ho
       have hz2 := List.all_eq_true.1 hf z (by simpa using hz)
       simp only [Bool.and_eq_true] at hz2
       rw [QbJ (by omega) hz2.1, hid] at hz2
       rw [QbJ (by omega) hfix] at hn
       have hne : id ≠ n := by
        intro e
        subst e
        simp at hz2
       have hq2 := hev q y hy
       generalize HH (q + 1) = H1 at hq2 ⊢
       generalize sv q = s1 at hq2
       cases hq2 with
       | eff ns _ _ _ _ _ he _ =>
        rw [hop] at he
        rw [Qkt ((QbO he).resolve_right (by simp [QbS])) hn id hne]; exact ho
       | callE _ _ _ _ _ _ hc => rw [hop] at hc; cases hc
       | _ => exact ho
     ·simp at hf
    ·simp at hf
   ·simp at hf
  ·simp at hf
 have hsz : ops.size = l.length := by rw [← hl]; simp
 have harr : l.toArray = ops := by rw [← hl]
 have rows := Quf hok
 have back : ∀ j o, getL l j = some o → ∀ e ∈ o.after.toList, Region.binds .any e = true → e.on < j := fun j o ho => (rows j o ho).1
 have pair : ∀ i j x y, getL l i = some x → getL l j = some y → i < j → Anc l i j ∨
   ((¬ (isE E x = true ∧ isE E y = true) ∨ (i = lx ∧ j = ly)) ∧ ¬ (isE E x = true ∧ (QW x.op = false ∨ y.guard.isSome = true) ∧ QF y.op = false ∧ (j, i) ∉ S) ∧ ¬ (isE E y = true ∧ (QW y.op = false ∨ x.guard.isSome = true) ∧ QF x.op = false ∧ (i, j) ∉ S) ∧
    (∀ t, x.dst = some t → t ∉ Qbp l y ∧ y.dst ≠ some t) ∧ ∀ t, y.dst = some t → t ∉ Qbp l x) := fun i j x y hx hy hij => (rows j y hy).2 i x hx hij
 have hsame : ∀ k o, getL l k = some o → isE E o = false → HH (k + 1) = HH k := by
  intro k o ho he
  have := hev k o ho
  generalize hq : HH (k + 1) = q at this
  generalize sv k = sk at this
  cases this with
  | eff _ _ _ _ _ h1 => rw [he] at h1; cases h1
  | callE _ _ _ _ _ _ _ h1 => rw [he] at h1; cases h1
  | _ => rfl
 have hnew : ∀ k o, getL l k = some o → QW o.op = true → Pre (HH k) (HH (k + 1)) := by
  intro k o ho hn
  by_cases he : isE E o = true
  ·have := hev k o ho
   generalize hq : HH (k + 1) = q at this
   generalize sv k = sk at this
   cases this with
   | eff ns _ _ _ _ _ h1 =>
    obtain ⟨x, rfl⟩ := QiQ ((QbO h1).resolve_right (fun ⟨_, e⟩ => by (unfold QbS at e; split at e; rename_i hop; rw [hop] at hn; cases hn; cases e))) hn
    exact ⟨[x], rfl⟩
   | callE _ _ _ _ _ _ hc =>
    exfalso
    generalize o.op = op at hn hc
    cases op <;> simp [QF, QW] at hn hc
   | _ => exact Pre.refl _
  ·rw [hsame k o ho (by simpa using he)]; exact Pre.refl _
 have stretch : ∀ id m i, i ≤ m → m ≤ l.length → (∀ k o, i ≤ k → k < m → getL l k = some o → isE E o = true → QW o.op = true ∨ ∀ o', getL (HH k) id = some o' → getL (HH (k + 1)) id = some o') → ∀ o, getL (HH i) id = some o → getL (HH m) id = some o := by
  intro id m
  induction m with
  | zero =>
   intro i hi _ _ o h; have : i = 0 := by omega
   subst this; exact h
  | succ m ih =>
   intro i hi hml hk o h
   by_cases c : i = m + 1
   ·subst c; exact h
   ·have ho : getL l m = some (l[m]'(by omega)) := by rw [Qd]; simp
    have := ih i (by omega) (by omega) (fun k o h1 h2 => hk k o h1 (by omega)) o h
    by_cases he : isE E (l[m]'(by omega)) = true
    ·rcases hk m _ (by omega) (by omega) ho he with h1 | h1
     ·exact (hnew m _ ho h1).get this
     ·exact h1 _ this
    ·rw [hsame m _ ho (by simpa using he)]; exact this
 refine wp_region_any hm ?_
 have effy : isE E oy = true := by unfold isE; rw [lopy]; rfl
 have hvy := hev ly _ lo2
 obtain ⟨iy, hiy, hsy, hHy⟩ : ∃ iy, X.Γ.at ty = some iy ∧ sv ly = .c (.ptr (HH ly).length 0) ∧ HH (ly + 1) = HH ly ++ [.vr (QE iy)] := QtS hvy lopy effy
 have hHxy : HH ly = HH (lx + 1) := by
  have e : ∀ m, lx + 1 ≤ m → m ≤ ly → HH m = HH (lx + 1) := by
   intro m hm
   induction m with
   | zero => omega
   | succ m ihm =>
    intro hly
    by_cases cc : m = lx
    ·subst cc; rfl
    ·have hlt := Qk lo2
     have hom : getL l m = some (l[m]'(by omega)) := by rw [Qd]; simp
     rw [hsame m _ hom (lbet m _ (by omega) (by omega) hom)]
     exact ihm (by omega) (by omega)
  exact e ly (by omega) (Nat.le_refl _)
 have main : ∀ fuel (listed : Array Bool) (L : Nat → Bool), listed.size = ops.size → (∀ i, L i = listed.getD i false) → Closed l L → QaF L l.length = fuel → ∀ (D : Nat → Bool) (K1 : Keep) (tsD : Ts) (F : Mem) (μ : Nat → Value) (a : Act) (w : World),
   LateM X l sv ts K (hD E l HH D l.length) lx ly dy iy L D K1 tsD F μ a →
   Sat X K1 F0 H0 μ0 tsD (hD E l HH D l.length) F μ a w → wpAny X.P .any ops (Post X K F0 H0 μ0 k) fuel listed a w := by
  intro fuel
  induction fuel with
  | zero =>
   intro listed L hls hD' hcl hun D K1 tsD F μ a w hmode hst
   have hds : K1.ds = K.ds := LateM.ds hmode
   have all := Qfw l.length hun
   obtain ⟨m1, m2, m3, _⟩ := hmode.resolve_right (fun ⟨_, _, _, _, hn, _⟩ => by rw [all lx (by have := Qk lo1; omega)] at hn; cases hn)
   rw [m2, m3] at hst
   rw [← m1] at all
   refine ⟨?_, ?_⟩
   ·rw [Region.ready]
    rw [List.filter_eq_nil_iff]
    intro i hi
    have hi' : i < ops.size := by simpa using hi
    have hd := all i (by omega)
    rw [m1, hD' i] at hd
    have : listed.getD i true = true := by
     rw [Array.getD_eq_getD_getElem?] at hd ⊢
     rw [Array.getElem?_eq_getElem (by omega)] at hd ⊢
     exact hd
    simp [this]
   ·have e1 : tsF X.nt l sv D ts l.length = tsF X.nt l sv (fun _ => true) ts l.length := by
     have : ∀ m, m ≤ l.length → tsF X.nt l sv D ts m = tsF X.nt l sv (fun _ => true) ts m := by
      intro m
      induction m with
      | zero => intro _; rfl
      | succ m ih => intro hm; simp only [tsF, all m (by omega), ih (by omega), if_true]
     exact this _ (Nat.le_refl _)
    have e2 : hD E l HH D l.length = HH l.length := Qdu hsame l.length (Nat.le_refl _) (Nat.le_refl _) fun k o hk _ _ => by rw [all k hk]; simp [hk]
    rw [e1, e2] at hst
    exact ⟨_, _, F, μ, hst, hend⟩
  | succ fuel ih =>
   intro listed L hls hD' hcl hun D K1 tsD F μ a w hmode hst
   have hds : K1.ds = K.ds := LateM.ds hmode
   have getD2 : ∀ i, i < ops.size → listed.getD i true = listed.getD i false := by
    intro i hi
    rw [Array.getD_eq_getD_getElem?, Array.getD_eq_getD_getElem?, Array.getElem?_eq_getElem (by omega)]
    rfl
   refine ⟨fun hnil => ?_, fun i hi => ?_⟩
   ·
    exfalso
    have hex : ∃ k, k < l.length ∧ L k = false := by
     refine Classical.byContradiction fun hno => ?_
     have : ∀ m, m ≤ l.length → QaF L m = 0 := by
      intro m
      induction m with
      | zero => intro _; rfl
      | succ m ihm =>
       intro hm
       simp only [QaF, ihm (by omega)]
       cases hd : L m with
       | true => simp
       | false => exact absurd ⟨m, by omega, hd⟩ hno
     rw [this _ (Nat.le_refl _)] at hun
     cases hun
    obtain ⟨i, ⟨h1, h2⟩, hmin⟩ := QG hex
    have ho : getL l i = some l[i] := by rw [Qd]; simp [h1]
    have hmem : i ∈ Region.ready .any ops listed := by
     rw [Region.ready, List.mem_filter]
     refine ⟨by simp; omega, ?_⟩
     have hopi : ops[i]? = some l[i] := by rw [← harr]; simp [h1]
     rw [hopi, getD2 i (by omega), ← hD' i, h2]
     simp only [Bool.not_false, Option.map_some, Option.getD_some, Bool.true_and]
     rw [← Array.all_toList, List.all_eq_true]
     intro e he
     cases hb : Region.binds .any e with
     | false => rfl
     | true =>
      have hlt := back i _ ho e he hb
      rw [← hD' e.on]
      cases hd : L e.on with
      | true => rfl
      | false => have := hmin e.on ⟨by omega, hd⟩; omega
    rw [hnil] at hmem
    cases hmem
   ·
    rw [Region.ready, List.mem_filter] at hi
    obtain ⟨hi1, hi2⟩ := hi
    have hilt : i < l.length := by rw [← hsz]; simpa using hi1
    have ho : getL l i = some l[i] := by rw [Qd]; simp [hilt]
    have hopi : ops[i]? = some l[i] := by rw [← harr]; simp [hilt]
    rw [hopi, getD2 i (by omega), ← hD' i] at hi2
    simp only [Option.map_some, Option.getD_some, Bool.and_eq_true, Bool.not_eq_true'] at hi2
    obtain ⟨hLi, hdeps⟩ := hi2
    have deps : ∀ o, getL l i = some o → ∀ e ∈ o.after.toList, Region.binds .any e = true → L e.on = true := by
     intro o ho' e he hb
     rw [ho] at ho'
     cases ho'
     rw [← Array.all_toList, List.all_eq_true] at hdeps
     have := hdeps e he
     rw [hb, ← hD' e.on] at this
     simpa using this
    have noY : L ly = true → L lx = false → ∀ j, Anc l ly j → (∀ o, getL l j = some o → ∀ e ∈ o.after.toList, Region.binds .any e = true → L e.on = true) → False := by
     intro hy hx j hj hd
     obtain ⟨q, oq, q1, e, q2, q3, q4, q5⟩ := Qsy hj
     have he := lpend q oq q1 e q2 q3 q4
     have hlt := back q oq q1 e q2 q3
     have hxq : Anc l lx q := by
      rcases he with he | he
      ·rcases pair lx q ox oq lo1 q1 (by omega) with h1 | ⟨h1 | h1, _⟩
       ·exact h1
       ·exact absurd ⟨lex, he⟩ h1
       ·omega
      ·exact Qgy l l [] (fun k => by simp) (fun j i hj => by simp at hj) q lx he
     have : L lx = true := by
      rcases q5 with rfl | q5
      ·exact hcl.anc hxq hd
      ·have hq := hcl.anc q5 hd
       exact hcl.anc hxq fun o ho e he hb => hcl q o ho hq e he hb
     rw [hx] at this; cases this
    have modeD : (∀ q, q ≠ ly → D q = L q) ∧ (D ly = true → L ly = true) ∧ (D ly = true → D lx = true) ∧ (D ly = false → L ly = true → L lx = false) := by
     rcases hmode with ⟨rfl, _, _, h⟩ | ⟨_, _, _, h1, h2, h3, _⟩
     ·exact ⟨fun _ _ => rfl, fun h => h, h, fun h1 h2 => by rw [h1] at h2; cases h2⟩
     ·refine ⟨fun q hq => by rw [h3, decide_eq_false hq]; simp, fun h => h1, fun h => ?_, fun _ _ => h2⟩
      rw [h3] at h; simp at h
    have hanc : ∀ k j, Anc l k j → (∀ o, getL l j = some o → ∀ e ∈ o.after.toList, Region.binds .any e = true → L e.on = true) → D k = true := by
     intro k j hk hd
     have h1 := hcl.anc hk hd
     by_cases e : k = ly
     ·subst e
      cases hd' : D k with
      | true => rfl
      | false => exact (noY h1 (modeD.2.2.2 hd' h1) j hk hd).elim
     ·rw [modeD.1 k e]; exact h1
    have hDL : ∀ q, D q = true → L q = true := fun q hq => by
     by_cases e : q = ly
     ·subst e; exact modeD.2.1 hq
     ·rw [← modeD.1 q e]; exact hq
    have hDi : D i = false := by
     cases h : D i with
     | false => rfl
     | true => rw [hDL i h] at hLi; cases hLi
    have before : ∀ k, Anc l k i → D k = true := fun k hk => hanc k i hk deps
    have behind : ∀ k, Anc l i k → D k = true → False := by
     intro k hk hd
     have := hcl.anc hk (fun o ho' e he hb => hcl k o ho' (hDL k hd) e he hb)
     rw [hLi] at this
     cases this
    have writers : ∀ t, (t ∈ Qbp l l[i] ∨ l[i].dst = some t) → ∀ q, q < l.length → Qbj l q = some t → q ≠ i → D q = decide (q < i) := by
     intro t ht q hq hd hne
     have hoq : getL l q = some l[q] := by rw [Qd]; simp [hq]
     have hdq : l[q].dst = some t := by simpa [Qbj, hoq] using hd
     rcases Nat.lt_or_gt_of_ne hne with c | c
     ·rw [decide_eq_true c]
      rcases pair q i _ _ hoq ho c with h1 | ⟨_, _, _, h4, _⟩
      ·exact before q h1
      ·exfalso
       rcases ht with ht | ht
       ·exact (h4 t hdq).1 ht
       ·exact (h4 t hdq).2 ht
     ·rw [decide_eq_false (by omega)]
      cases hdd : D q with
      | false => rfl
      | true =>
       exfalso
       rcases pair i q _ _ ho hoq c with h1 | ⟨_, _, _, h4, h5⟩
       ·exact behind q h1 hdd
       ·rcases ht with ht | ht
        ·exact h5 t hdq ht
        ·exact (h4 t ht).2 hdq
    have notY : i ≠ ly → (D ly = false → L ly = true → dy ∉ Qbp l l[i] ∧ l[i].dst ≠ some dy) := by
     intro hne h1 h2
     rcases Nat.lt_or_gt_of_ne hne with c | c
     ·rcases pair i ly _ _ ho lo2 c with h3 | ⟨_, _, _, h4, h5⟩
      ·have := hcl.anc h3 (fun o ho' e he hb => hcl ly o ho' h2 e he hb)
       rw [hLi] at this; cases this
      ·exact ⟨h5 dy ldy, fun e => (h4 dy e).2 ldy⟩
     ·rcases pair ly i _ _ lo2 ho c with h3 | ⟨_, _, _, h4, _⟩
      ·exact (noY h2 (modeD.2.2.2 h1 h2) i h3 deps).elim
      ·exact ⟨(h4 dy ldy).1, (h4 dy ldy).2⟩
    have findD : ∀ t, ((D ly = false ∧ L ly = true) → t ≠ dy) → find t tsD = find t (tsF X.nt l sv D ts l.length) := by
     intro t ht
     rcases hmode with ⟨_, _, rfl, _⟩ | ⟨_, _, _, h1, h2, h3, _, _, _, _, rfl⟩
     ·rfl
     ·have hdl : D ly = false := by rw [h3]; simp
      have := ht ⟨hdl, h1⟩
      simp only [find]
      cases hb : Nat.beq dy t with
      | true => exact absurd (Nat.eq_of_beq_eq_true hb).symm this
      | false => rfl
    by_cases hswap : i = ly ∧ D lx = false
    ·
     obtain ⟨ely, hDx⟩ := hswap
     have hoy : l[i] = oy := Option.some.inj (ho.symm.trans (ely ▸ lo2))
     have hny : L ly = false := by rw [← ely]; exact hLi
     obtain ⟨m1, m2, m3, m4⟩ := hmode.resolve_right (fun ⟨_, _, _, z1, _⟩ => by rw [hny] at z1; cases z1)
     obtain ⟨c', T, r1, r2, r3, r4⟩ := Qo2 (P := X.P) hst.hs hΓ hiy a oy lopy
     let L' : Nat → Bool := fun q => if q = i then true else L q
     have hL'i : L' i = true := by simp [L']
     have hL'o : ∀ q, q ≠ i → L' q = L q := fun q hq => by simp [L', hq]
     have hcl' : Closed l L' := by
      intro j o hj hd e he hb
      by_cases c : e.on = i
      ·rw [c]; exact hL'i
      ·rw [hL'o _ c]
       by_cases cj : j = i
       ·subst cj; exact deps o hj e he hb
       ·rw [hL'o j cj] at hd; exact hcl j o hj hd e he hb
     have hnext : ∀ q, L' q = (listed.setIfInBounds i true).getD q false := by
      intro q
      by_cases e : q = i
      ·subst e
       rw [hL'i]
       simp [Array.getD_eq_getD_getElem?, hls, hsz, hilt]
      ·rw [hL'o q e, hD' q, Array.getD_eq_getD_getElem?, Array.getD_eq_getD_getElem?, Array.getElem?_setIfInBounds_ne (fun h => e h.symm)]
     have hfuel : QaF L' l.length = fuel := by
      have := Qed hLi hL'i hL'o l.length hilt
      omega
     have hne : lx ≠ i := by omega
     show wpOp X.P ops (Post X K F0 H0 μ0 k) i (wpAny X.P .any ops (Post X K F0 H0 μ0 k) fuel (listed.setIfInBounds i true)) a w
     unfold wpOp
     rw [hopi]
     simp only [hoy]
     rw [if_pos (by simp [Region.wanted, lgy])]
     left
     unfold Oper.wp
     rw [r1]
     have hput : (a.put (some dy) (.pointer (some ⟨w.heap.size, 0, none⟩))).tmps.getD dy undef = .pointer (some ⟨w.heap.size, 0, none⟩) := by
      have hlt : dy < a.tmps.size := by rw [hst.sz]; exact lnt
      simp [Act.put, Array.getD, hlt]
     simp only [Oper.upon, ldy]
     refine ih (listed.setIfInBounds i true) L' (by simp [hls]) hnext hcl' hfuel D (K.also w.heap.size (.cells c' T (0, 0))) ((dy, .u) :: tsF X.nt l sv D ts l.length) F μ _ _ (.inr ⟨w.heap.size, c', T, by rw [← ely]; exact hL'i, ?_, fun q => ?_, rfl, by rw [← m2]; exact r4, r2, hput, rfl⟩) ⟨hst.le, hst.ext, by rw [← m2]; exact r3, fun t => ?_, by simp [Act.put, hst.sz], hst.df.trans hds, hst.n0⟩
     ·rw [hL'o lx hne, ← m1]; exact hDx
     ·by_cases e2 : q = ly
      ·rw [decide_eq_true e2, e2]
       rw [m1, hny]; simp
      ·rw [hL'o q (fun z => e2 (z.trans ely)), decide_eq_false e2, m1]; simp
     ·simp only [find]
      cases hb : Nat.beq dy t with
      | true => trivial
      | false =>
       have hne : dy ≠ t := fun e => by subst e; simp at hb
       have := hst.tp t
       rw [m3] at this
       simp only [Act.put, Array.getD_eq_getD_getElem?]
       rw [Array.getElem?_setIfInBounds_ne hne, ← Array.getD_eq_getD_getElem?]
       exact this
    have hlook : ∀ t ∈ Qbp l l[i], find t tsD = find t (tsF X.nt l sv (fun _ => true) ts i) := by
     intro t ht
     have h0 : find t tsD = find t (tsF X.nt l sv D ts l.length) := by
      refine findD t fun ⟨h1, h2⟩ e => ?_
      subst e
      exact (notY (fun q => by subst q; rw [hLi] at h2; cases h2) h1 h2).1 ht
     rw [h0]
     refine Qdz l.length (by omega) fun q hq hd => ?_
     by_cases c : q = i
     ·subst c; rw [hDi]; simp
     ·rw [writers t (.inl ht) q hq hd c]; simp
    obtain ⟨c, c1, c2, c3⟩ := QgS E l D
    have effD : ∀ q o, getL l q = some o → isE E o = true → D q = decide (q < c) := by
     intro q o hq he
     by_cases hqc : q < c
     ·rw [decide_eq_true hqc]; exact c2 q o hqc hq he
     ·rw [decide_eq_false hqc]
      rcases c3 with c3 | ⟨oc, d1, d2, d3⟩
      ·have := Qk hq; omega
      ·by_cases e : q = c
       ·rw [e]; exact d3
       ·cases hd : D q with
        | false => rfl
        | true =>
         exfalso
         rcases pair c q oc o d1 hq (by omega) with h1 | ⟨h1 | ⟨h1, h2⟩, _⟩
         ·have := hanc c q h1 (fun o' ho' e' he' hb => hcl q o' ho' (hDL q hd) e' he' hb)
          rw [d3] at this
          cases this
         ·exact h1 ⟨d2, he⟩
         ·subst h1; subst h2
          rw [modeD.2.2.1 hd] at d3; cases d3
    have hHc : hD E l HH D l.length = HH c := Qdu hsame l.length c1 (Nat.le_refl _) fun q o _ hq he => effD q o hq he
    have hevi := hev i _ ho
    rw [hHc] at hst
    have hH : HH c = HH i ∨ (QF l[i].op = true ∧ isE E l[i] = false) ∨ (isE E l[i] = false ∧ l[i].guard = none ∧ (Qbn l[i].op = true ∨ ∀ x ∈ l[i].op.operands, Sees (HH i) (HH c) (idS (opnd (tsF X.nt l sv (fun _ => true) ts i) x)))) := by
     cases hei : isE E l[i] with
     | true =>
      left
      have : ∀ q o, q < l.length → getL l q = some o → isE E o = true → D q = decide (q < i) := by
       intro q o _ hq he
       by_cases e : q = i
       ·subst e; rw [hDi]; simp
       ·rcases Nat.lt_or_gt_of_ne e with cc | cc
        ·rw [decide_eq_true cc]
         rcases pair q i o _ hq ho cc with h1 | ⟨h1 | ⟨h1, h2⟩, _⟩
         ·exact before q h1
         ·exact absurd ⟨he, hei⟩ h1
         ·subst h1
          cases hd : D q with
          | true => rfl
          | false => exact absurd ⟨h2, hd⟩ hswap
        ·rw [decide_eq_false (by omega)]
         cases hd : D q with
         | false => rfl
         | true =>
          rcases pair i q _ o ho hq cc with h1 | ⟨h1 | ⟨h1, h2⟩, _⟩
          ·exact (behind q h1 hd).elim
          ·exact absurd ⟨hei, he⟩ h1
          ·subst h1; subst h2
           rw [modeD.2.2.1 hd] at hDi; cases hDi
      rw [← hHc]
      exact Qdu hsame l.length (by omega) (Nat.le_refl _) this
     | false =>
      cases hci : QF l[i].op with
      | true => exact .inr (.inl ⟨rfl, rfl⟩)
      | false =>
      have free : ∀ q o, getL l q = some o → isE E o = true → (i ≤ q ∧ q < c) ∨ (c ≤ q ∧ q < i) → l[i].guard = none ∧ (QW o.op = true ∨ Qbn l[i].op = true ∨ ∀ z ∈ l[i].op.operands, ∀ id, idS (opnd (tsF X.nt l sv (fun _ => true) ts i) z) = some id → ∀ o', getL (HH q) id = some o' → getL (HH (q + 1)) id = some o') := by
       intro q o hq he hr
       have key : ((i, q) ∈ S ∨ (QW o.op = true ∧ l[i].guard = none)) → l[i].guard = none ∧ (QW o.op = true ∨ Qbn l[i].op = true ∨ ∀ z ∈ l[i].op.operands, ∀ id, idS (opnd (tsF X.nt l sv (fun _ => true) ts i) z) = some id → ∀ o', getL (HH q) id = some o' → getL (HH (q + 1)) id = some o') := by
        rintro (hS | ⟨h1, h2⟩)
        ·obtain ⟨x, y, hx, hy, hg, h⟩ := alias i q hS
         rw [ho] at hx
         cases hx
         exact ⟨hg, .inr h⟩
        ·exact ⟨h2, .inl h1⟩
       have nonS : (i, q) ∉ S → ¬ (isE E o = true ∧ (QW o.op = false ∨ l[i].guard.isSome = true) ∧ QF l[i].op = false ∧ (i, q) ∉ S) → QW o.op = true ∧ l[i].guard = none := by
        intro hS h3
        refine ⟨?_, ?_⟩
        ·cases hn : QW o.op with
         | true => rfl
         | false => exact absurd ⟨he, .inl hn, hci, hS⟩ h3
        ·cases hg : l[i].guard with
         | none => rfl
         | some g => exact absurd ⟨he, .inr (by rw [hg]; rfl), hci, hS⟩ h3
       refine key ?_
       by_cases hS : (i, q) ∈ S
       ·exact .inl hS
       ·right
        rcases hr with ⟨r1, r2⟩ | ⟨r1, r2⟩
        ·have hne : q ≠ i := fun e => by subst e; rw [ho] at hq; cases hq; rw [hei] at he; cases he
         have hd : D q = true := c2 q o r2 hq he
         rcases pair i q _ o ho hq (by omega) with h1 | ⟨_, _, h3, _⟩
         ·exact (behind q h1 hd).elim
         ·exact nonS hS h3
        ·have hd : D q = false := by rw [effD q o hq he]; simp; omega
         rcases pair q i o _ hq ho r2 with h1 | ⟨_, h2, _⟩
         ·rw [before q h1] at hd; cases hd
         ·exact nonS hS h2
      by_cases hany : ∃ q o, getL l q = some o ∧ isE E o = true ∧ ((i ≤ q ∧ q < c) ∨ (c ≤ q ∧ q < i))
      ·obtain ⟨q, o, hq, he, hr⟩ := hany
       have hg := (free q o hq he hr).1
       right; right
       cases hmv : Qbn l[i].op with
       | true => exact ⟨rfl, hg, .inl rfl⟩
       | false =>
       refine ⟨rfl, hg, .inr fun x hx id hid o' ho' => ?_⟩
       have sees : ∀ q o, getL l q = some o → isE E o = true → (i ≤ q ∧ q < c) ∨ (c ≤ q ∧ q < i) → QW o.op = true ∨ ∀ o', getL (HH q) id = some o' → getL (HH (q + 1)) id = some o' := by
        intro q o hq he hr
        rcases (free q o hq he hr).2 with h1 | h1 | h1
        ·exact .inl h1
        ·rw [hmv] at h1; cases h1
        ·exact .inr (h1 x hx id hid)
       rcases Nat.le_total i c with hic | hic
       ·exact stretch id c i hic c1 (fun k o h1 h2 hk he' => sees k o hk he' (.inl ⟨h1, h2⟩)) o' ho'
       ·have hpre := stretch id i c hic (by omega) (fun k o h1 h2 hk he' => sees k o hk he' (.inr ⟨h1, h2⟩))
        have hx2 : opnd tsD x = opnd (tsF X.nt l sv (fun _ => true) ts i) x := QgB hlook x hx
        have hrep := Qab hst.tp x
        rw [hx2] at hrep
        have hnlz : ∀ g t, opnd (tsF X.nt l sv (fun _ => true) ts i) x ≠ .lz g t := by
         intro g t e
         have hevi' := hevi
         generalize sv i = s1 at hevi'
         generalize HH (i + 1) = q1 at hevi'
         cases hevi' with
         | val ns _ _ _ _ hlz _ _ =>
          have := Qew hlz x (by simpa using hx) g t e
          rw [e] at hid
          simp only [idS] at hid
          rw [this] at hid
          cases hid
         | lit _ _ _ _ _ hlz _ _ =>
          have := Qew hlz x (by simpa using hx) g t e
          rw [e] at hid
          simp only [idS] at hid
          rw [this] at hid
          cases hid
         | eff _ _ _ _ _ h1 => rw [hei] at h1; cases h1
         | call _ _ _ _ _ _ h1 => rw [hci] at h1; cases h1
         | callE _ _ _ _ _ _ h1 => rw [hci] at h1; cases h1
         | gval _ _ _ _ _ _ _ h1 => rw [hg] at h1; cases h1
         | gcall _ _ _ _ _ _ _ _ _ _ h1 => rw [hg] at h1; cases h1
        obtain ⟨o2, ho2⟩ := Qmc hrep hid hnlz
        have := hpre o2 ho2
        rw [ho'] at this
        cases this
        exact ho2
      ·left
       have e : ∀ a b, a ≤ b → b ≤ l.length → (∀ q o, a ≤ q → q < b → getL l q = some o → isE E o = false) → HH a = HH b := by
        intro a b hab
        induction b with
        | zero =>
         intro _ _; have : a = 0 := by omega
         subst this; rfl
        | succ b ihb =>
         intro hbl hq
         by_cases cc : a = b + 1
         ·subst cc; rfl
         ·have hob : getL l b = some (l[b]'(by omega)) := by rw [Qd]; simp
          rw [ihb (by omega) (by omega) fun q o h1 h2 => hq q o h1 (by omega)]
          exact (hsame b _ hob (hq b _ (by omega) (by omega) hob)).symm
       rcases Nat.le_total i c with hic | hic
       ·exact (e i c hic c1 fun q o h1 h2 hq => by
         cases he : isE E o with
         | false => rfl
         | true => exact absurd ⟨q, o, hq, he, .inl ⟨h1, h2⟩⟩ hany).symm
       ·exact e c i hic (by omega) fun q o h1 h2 hq => by
         cases he : isE E o with
         | false => rfl
         | true => exact absurd ⟨q, o, hq, he, .inr ⟨h1, h2⟩⟩ hany
    obtain ⟨H2', hev2, hef1, hef2⟩ := hevi.move hlook hH
    have hrun := hev2.run hΓ ho hst (k := wpAny X.P .any ops (Post X K F0 H0 μ0 k) fuel (listed.setIfInBounds i true)) (Q := Post X K F0 H0 μ0 k)
    rw [harr] at hrun
    refine hrun fun F' μ' v w' g1 g2 g3 g4 => ?_
    let D' : Nat → Bool := fun q => if q = i then true else D q
    have hD'i : D' i = true := by simp [D']
    have hD'o : ∀ q, q ≠ i → D' q = D q := fun q hq => by simp [D', hq]
    let L' : Nat → Bool := fun q => if q = i then true else L q
    have hL'i : L' i = true := by simp [L']
    have hL'o : ∀ q, q ≠ i → L' q = L q := fun q hq => by simp [L', hq]
    have hcl' : Closed l L' := by
     intro j o hj hd e he hb
     by_cases c : e.on = i
     ·rw [c]; exact hL'i
     ·rw [hL'o _ c]
      by_cases cj : j = i
      ·subst cj; exact deps o hj e he hb
      ·rw [hL'o j cj] at hd; exact hcl j o hj hd e he hb
    have hH2 : hD E l HH D' l.length = H2' := by
     cases hei : isE E l[i] with
     | true =>
      rw [hef1 hei]
      refine Qdu hsame l.length (by omega) (Nat.le_refl _) fun q o _ hq he => ?_
      by_cases e : q = i
      ·subst e; rw [hD'i]; simp
      ·rw [hD'o q e]
       rcases Nat.lt_or_gt_of_ne e with cc | cc
       ·rw [decide_eq_true (by omega)]
        rcases pair q i o _ hq ho cc with h1 | ⟨h1 | ⟨h1, h2⟩, _⟩
        ·exact before q h1
        ·exact absurd ⟨he, hei⟩ h1
        ·subst h1
         cases hd : D q with
         | true => rfl
         | false => exact absurd ⟨h2, hd⟩ hswap
       ·rw [decide_eq_false (by omega)]
        cases hd : D q with
        | false => rfl
        | true =>
         rcases pair i q _ o ho hq cc with h1 | ⟨h1 | ⟨h1, h2⟩, _⟩
         ·exact (behind q h1 hd).elim
         ·exact absurd ⟨hei, he⟩ h1
         ·subst h1; subst h2
          rw [modeD.2.2.1 hd] at hDi; cases hDi
     | false =>
      rw [hef2 hei]
      refine Qdu hsame l.length c1 (Nat.le_refl _) fun q o _ hq he => ?_
      have hne : q ≠ i := fun e => by subst e; rw [ho] at hq; cases hq; rw [hei] at he; cases he
      rw [hD'o q hne]
      exact effD q o hq he
    have hnext : ∀ q, L' q = (listed.setIfInBounds i true).getD q false := by
     intro q
     by_cases e : q = i
     ·subst e
      rw [hL'i]
      simp [Array.getD_eq_getD_getElem?, hls, hsz, hilt]
     ·rw [hL'o q e, hD' q, Array.getD_eq_getD_getElem?, Array.getD_eq_getD_getElem?, Array.getElem?_setIfInBounds_ne (fun h => e h.symm)]
    have hfuel : QaF L' l.length = fuel := by
     have := Qed hLi hL'i hL'o l.length hilt
     omega
    have hsz' : (a.put l[i].dst v).tmps.size = X.nt := by cases hdd : l[i].dst <;> simp [Act.put, hst.sz]
    have hdf' : (a.put l[i].dst v).defers = K.ds := by cases hdd : l[i].dst <;> simp [Act.put, hst.df, hds]
    have tpD : ∀ t, ((D ly = false ∧ L ly = true) → t ≠ dy) → RepS F' H2' μ' (find t (tsF X.nt l sv D' ts l.length)) ((a.put l[i].dst v).tmps.getD t undef) := by
      intro t ht
      have hold := RepS.mono g1 g2 _ _ (hst.tp t)
      rw [findD t ht] at hold
      by_cases cd : l[i].dst = some t
      ·by_cases clt : t < X.nt
       ·have hf : find t (tsF X.nt l sv D' ts l.length) = sv i := by
         have h1 : find t (tsF X.nt l sv D' ts l.length) = find t (tsF X.nt l sv D' ts (i + 1)) := by
          refine Qdz l.length (by omega) fun q hq hd => ?_
          by_cases e : q = i
          ·subst e; rw [hD'i]; simp
          ·rw [hD'o q e, writers t (.inr cd) q hq hd e]
           by_cases cc : q < i
           ·rw [decide_eq_true cc, decide_eq_true (by omega)]; rfl
           ·rw [decide_eq_false cc, decide_eq_false (by omega)]; rfl
         rw [h1]
         simp only [tsF, hD'i, if_true]
         rw [Qak, if_pos ⟨by simp [Qbj, ho, cd], clt⟩]
        rw [hf]
        have : (a.put l[i].dst v).tmps.getD t undef = v := by
         have hlt : t < a.tmps.size := by rw [hst.sz]; exact clt
         rw [cd]
         simp [Act.put, Array.getD, hlt]
        rw [this]
        exact g4
       ·have hf : find t (tsF X.nt l sv D' ts l.length) = find t (tsF X.nt l sv D ts l.length) := by
         have : ∀ DD m, find t (tsF X.nt l sv DD ts m) = find t ts := by
          intro DD m
          induction m with
          | zero => rfl
          | succ m ihm =>
           simp only [tsF]
           split
           ·rw [Qak, if_neg (fun h => clt h.2)]; exact ihm
           ·exact ihm
         rw [this, this]
        rw [hf]
        have : (a.put l[i].dst v).tmps = a.tmps := by
         rw [cd]
         simp only [Act.put]
         exact Array.setIfInBounds_eq_of_size_le (by rw [hst.sz]; exact Nat.le_of_not_lt clt)
        rw [this]
        exact hold
      ·have hf : find t (tsF X.nt l sv D' ts l.length) = find t (tsF X.nt l sv D ts l.length) := by
        have : ∀ m, find t (tsF X.nt l sv D' ts m) = find t (tsF X.nt l sv D ts m) := by
         intro m
         induction m with
         | zero => rfl
         | succ m ihm =>
          simp only [tsF]
          by_cases e : m = i
          ·subst e
           rw [hD'i, if_pos rfl, hDi, if_neg (by simp), Qak, if_neg (by simp [Qbj, ho, cd])]
           exact ihm
          ·rw [hD'o m e]
           split
           ·rw [Qak, Qak, ihm]
           ·exact ihm
        exact this _
       rw [hf]
       have : (a.put l[i].dst v).tmps.getD t undef = a.tmps.getD t undef := by
        cases hdd : l[i].dst with
        | none => rfl
        | some d =>
         have hne : d ≠ t := fun e => cd (by rw [hdd, e])
         simp only [Act.put, Array.getD_eq_getD_getElem?]
         rw [Array.getElem?_setIfInBounds_ne hne]
       rw [this]
       exact hold
    by_cases hm : D ly = false ∧ L ly = true
    ·obtain ⟨b, c', T, m1, m2, m3, m4, m5, m6, m7, m8⟩ := hmode.resolve_left (fun z => by rw [z.1] at hm; rw [hm.1] at hm; cases hm.2)
     have hne : i ≠ ly := fun q => by rw [← q, hLi] at hm; cases hm.2
     obtain ⟨n1, n2⟩ := notY hne hm.1 hm.2
     have hkeep : (a.put l[i].dst v).tmps.getD dy undef = .pointer (some ⟨b, 0, none⟩) := by
      rw [← m7]
      cases hdd : l[i].dst with
      | none => rfl
      | some d =>
       have hne : d ≠ dy := fun e => n2 (by rw [hdd, e])
       simp only [Act.put, Array.getD_eq_getD_getElem?]
       rw [Array.getElem?_setIfInBounds_ne hne]
     rw [hHc] at m6
     have hrl : RepL F' H2' μ' (QE iy) c' := m6.mono g1 g2
     by_cases hix : i = lx
     ·
      have hoi : l[i] = ox := Option.some.inj (ho.symm.trans (hix ▸ lo1))
      have hH3 : H2' = HH ly := by rw [hHxy, ← hix]; exact hef1 (by rw [hoi]; exact lex)
      have hL'y : L' ly = true := by rw [hL'o ly (Ne.symm hne)]; exact hm.2
      have hall : ∀ q, L' q = true ↔ D' q = true ∨ q = ly := by
       intro q
       by_cases e : q = ly
       ·subst e; simp [hL'y]
       ·by_cases e2 : q = i
        ·subst e2; simp [hL'i, hD'i]
        ·rw [hL'o q e2, hD'o q e2, modeD.1 q e]; simp [e]
      have hHn : hD E l HH L' l.length = HH (ly + 1) := by
       have hylt := Qk lo2
       refine Qdu hsame l.length (by omega) (Nat.le_refl _) fun q o _ hq he => ?_
       by_cases e : q = ly
       ·subst e; rw [hL'y]; simp
       ·have hLq : L' q = D' q := by
         cases hd : D' q with
         | true => exact (hall q).2 (.inl hd)
         | false =>
          cases hl' : L' q with
          | false => rfl
          | true =>
           rcases (hall q).1 hl' with z | z
           ·rw [hd] at z; cases z
           ·exact absurd z e
        rw [hLq]
        by_cases e2 : q = i
        ·subst e2; rw [hD'i, decide_eq_true (by omega)]
        ·rw [hD'o q e2]
         rcases Nat.lt_or_gt_of_ne e2 with cc | cc
         ·rw [decide_eq_true (by omega)]
          rcases pair q i o _ hq ho cc with h1 | ⟨h1 | ⟨h1, h2⟩, _⟩
          ·exact before q h1
          ·exact absurd ⟨he, by rw [hoi]; exact lex⟩ h1
          ·omega
         ·have hgt : ly < q := by
           rcases Nat.lt_or_gt_of_ne e with z | z
           ·have := lbet q o (by omega) z hq
            rw [this] at he; cases he
           ·exact z
          rw [decide_eq_false (by omega)]
          cases hd : D q with
          | false => rfl
          | true =>
           rcases pair i q _ o ho hq cc with h1 | ⟨h1 | ⟨h1, h2⟩, _⟩
           ·exact (behind q h1 hd).elim
           ·exact absurd ⟨by rw [hoi]; exact lex, he⟩ h1
           ·omega
      subst m4
      have hb := Qql g3 m5 hrl
      rw [hH3] at hb hrl
      have hpush := Ext.push (HH ly) μ' (.vr (QE iy)) (.pointer (some ⟨b, 0, none⟩))
      refine ih (listed.setIfInBounds i true) L' (by simp [hls]) hnext hcl' hfuel L' K (tsF X.nt l sv L' ts l.length) F' (upd μ' (HH ly).length (.pointer (some ⟨b, 0, none⟩))) (a.put l[i].dst v) w' (.inl ⟨rfl, rfl, rfl, fun _ => by rw [← hix]; exact hL'i⟩) ⟨hst.le.le_trans' g1, ?_, ?_, fun t => ?_, hsz', hdf', hst.n0⟩
      ·rw [hHn, hHy, ← hH3]
       rw [hH3]
       exact (hst.ext.trans (by rw [← hH3]; exact g2)).trans hpush
      ·rw [hHn, hHy]; exact hb
      ·rw [hHn, hHy]
       by_cases e : t = dy
       ·subst e
        have hf : find t (tsF X.nt l sv L' ts l.length) = sv ly := by
         have hylt := Qk lo2
         have h1 : find t (tsF X.nt l sv L' ts l.length) = find t (tsF X.nt l sv L' ts (ly + 1)) := by
          refine Qdz l.length (by omega) fun q hq hd => ?_
          by_cases e : q = ly
          ·subst e; rw [hL'y]; simp
          ·have hoq : getL l q = some l[q] := by rw [Qd]; simp [hq]
           have hdq : l[q].dst = some t := by simpa [Qbj, hoq] using hd
           rcases Nat.lt_or_gt_of_ne e with cc | cc
           ·rw [decide_eq_true (by omega)]
            simp
           ·rw [decide_eq_false (by omega)]
            cases hl' : L' q with
            | false => rfl
            | true =>
             exfalso
             rcases pair ly q _ _ lo2 hoq cc with h3 | ⟨_, _, _, h4, _⟩
             ·refine noY m1 m2 q h3 fun o ho' e' he' hb' => ?_
              by_cases e3 : q = i
              ·subst e3; exact deps o ho' e' he' hb'
              ·rw [hL'o q e3] at hl'; exact hcl q o ho' hl' e' he' hb'
             ·exact (h4 t ldy).2 hdq
         rw [h1]
         simp only [tsF, hL'y, if_true]
         rw [Qak, if_pos ⟨by simp [Qbj, lo2, ldy], lnt⟩]
        rw [hf, hsy, hkeep]
        exact ⟨⟨_, QM _ _⟩, b, by simp [upd], rfl⟩
       ·have hf : find t (tsF X.nt l sv L' ts l.length) = find t (tsF X.nt l sv D' ts l.length) := by
         have : ∀ m, find t (tsF X.nt l sv L' ts m) = find t (tsF X.nt l sv D' ts m) := by
          intro m
          induction m with
          | zero => rfl
          | succ m ihm =>
           simp only [tsF]
           by_cases e2 : m = ly
           ·subst e2
            have hd0 : D' m = false := by rw [hD'o m (Ne.symm hne)]; exact hm.1
            rw [hL'y, if_pos rfl, hd0, if_neg (by simp), Qak, if_neg (by simp [Qbj, lo2, ldy]; intro z; exact absurd z.symm e)]
            exact ihm
           ·have hLq : L' m = D' m := by
             cases hd : D' m with
             | true => exact (hall m).2 (.inl hd)
             | false =>
              cases hl' : L' m with
              | false => rfl
              | true =>
               rcases (hall m).1 hl' with z | z
               ·rw [hd] at z; cases z
               ·exact absurd z e2
            rw [hLq]
            split
            ·rw [Qak, Qak, ihm]
            ·exact ihm
         exact this _
        rw [hf]
        have := tpD t (fun _ => e)
        rw [hH3] at this
        exact RepS.mono (Mem.le_refl F') hpush _ _ this
     ·refine ih (listed.setIfInBounds i true) L' (by simp [hls]) hnext hcl' hfuel D' K1 ((dy, .u) :: tsF X.nt l sv D' ts l.length) F' μ' (a.put l[i].dst v) w' (.inr ⟨b, c', T, ?_, ?_, fun q => ?_, m4, m5, ?_, hkeep, rfl⟩) ⟨hst.le.le_trans' g1, by rw [hH2]; exact hst.ext.trans g2, by rw [hH2]; exact g3, fun t => ?_, hsz', hdf'.trans hds.symm, hst.n0⟩
      ·rw [hL'o ly (Ne.symm hne)]; exact m1
      ·rw [hL'o lx (Ne.symm hix)]; exact m2
      ·by_cases e : q = i
       ·subst e; rw [hD'i, hL'i, decide_eq_false hne]; rfl
       ·rw [hD'o q e, hL'o q e]; exact m3 q
      ·rw [hH2]; exact hrl
      ·rw [hH2]
       simp only [find]
       cases hb : Nat.beq dy t with
       | true => trivial
       | false => exact tpD t (fun _ e => by subst e; simp at hb)
    ·obtain ⟨m1, m2, m3, m4⟩ := hmode.resolve_right (fun ⟨_, _, _, z1, _, z3, _⟩ => hm ⟨by rw [z3]; simp, z1⟩)
     have hDL' : D' = L' := by funext q; simp only [D', L', m1]
     rw [← hDL'] at hnext hcl' hfuel
     refine ih (listed.setIfInBounds i true) D' (by simp [hls]) hnext hcl' hfuel D' K1 (tsF X.nt l sv D' ts l.length) F' μ' (a.put l[i].dst v) w' (.inl ⟨rfl, m2, rfl, fun hy => ?_⟩) ⟨hst.le.le_trans' g1, by rw [hH2]; exact hst.ext.trans g2, by rw [hH2]; exact g3, fun t => ?_, hsz', hdf'.trans hds.symm, hst.n0⟩
     ·by_cases e2 : lx = i
      ·rw [e2]; exact hD'i
      ·rw [hD'o lx e2]
       by_cases e : ly = i
       ·cases hd : D lx with
        | true => rfl
        | false => exact absurd ⟨e.symm, hd⟩ hswap
       ·rw [hD'o ly e] at hy; exact modeD.2.2.1 hy
     ·rw [hH2]; exact tpD t (fun z => absurd z hm)
 have hsat0 : Sat X K F0 H0 μ0 ts H F μ a { w with drawn := w.drawn + 1 } := by
  refine ⟨hs.le, hs.ext, ?_, hs.tp, hs.sz, hs.df, hs.n0⟩
  refine ⟨hs.hs.os, hs.hs.tape, hs.hs.output, hs.hs.fr, hs.hs.kp, fun i o hi => ?_, hs.hs.sp, hs.hs.ij, hs.hs.dj⟩
  have := hs.hs.ob i o hi
  cases o with
  | vr cs => exact this
  | arr e es n g => exact this
  | dead => trivial
  | mp sh z va ks val => exact this
 refine main ops.size (Array.replicate ops.size false) (fun _ => false) (by simp) (fun i => by simp [Array.getD_eq_getD_getElem?, Array.getElem?_replicate]; split <;> rfl) (fun j o _ hd => by cases hd) ?_ (fun _ => false) K _ F μ a _ (.inl ⟨rfl, rfl, rfl, fun z => by cases z⟩) ?_
 ·rw [hsz]
  have : ∀ m, QaF (fun _ => false) m = m := by
   intro m
   induction m with
   | zero => rfl
   | succ m ih => simp [QaF, ih]
  exact this _
 ·have e1 : ∀ m, tsF X.nt l sv (fun _ => false) ts m = ts := by
   intro m
   induction m with
   | zero => rfl
   | succ m ih => simp [tsF, ih]
  have e2 : ∀ m, hD E l HH (fun _ => false) m = HH 0 := by
   intro m
   induction m with
   | zero => rfl
   | succ m ih =>
    simp only [hD]
    split
    ·simp [ih]
    ·exact ih
  rw [e1, e2, hh0]
  exact hsat0
theorem Dr.mkL {X : Cx} (hΓ : Qo X.P X.Γ) (hm : X.P.follows .mixedOrders = true) {id : Nat} {ops : Array Oper} {ts : Ts} {H : List O} {k : Kp} (E : List Nat) (S : List (Nat × Nat)) (lx ly : Nat) (hok : Qq1 E S lx ly X.nt ops.toList = true) (h : Qcw X E ops.toList ops.toList ts H fun ts' H' => match S.all (fun p => Qdm ops.toList ts' p.1 p.2) with
   | true => k .normal ts' H'
   | false => StuckC .skip ts' H') : Dr X id ops ts H k := by
 refine ⟨?_⟩
 exact Qui hΓ hm E S lx ly hok h
end Go.Am
