/- Part of the proofs of laws of this seat: contracts and plain lemmas; no condition is added to a statement. -/
import Derived.Test.YtmpoogflpmaijaaGreatAmA
import Derived.Laws.AppendOwnNone
import Derived.Scope
set_option linter.unusedSimpArgs false
set_option linter.unusedVariables false
section
/- THE ABSTRACT MACHINE, PART 8: what is tracked, when it changes. -/
namespace Go.Am

def upd (μ : Nat → Value) (id : Nat) (v : Value) : Nat → Value := fun i => if i = id then v else μ i

theorem OSat.other {F : Mem} {H H' : List O} {μ μ' : Nat → Value} {w w' : World} {i : Nat} {o : O} (h : OSat F H μ w i o) (hE : Ext H μ H' μ') (hμ : μ' i = μ i)
    (hk : ∀ b, b < w.heap.size → blk (μ i) = some b → w'.heap[b]? = w.heap[b]?) : OSat F H' μ' w' i o := by
  cases o with
  | vr cs =>
    obtain ⟨b, c, T, h1, h2, h3⟩ := h
    have hb : b < w.heap.size := (Array.getElem?_eq_some_iff.1 h2).1
    exact ⟨b, c, T, hμ.trans h1, by rw [hk b hb (by rw [h1]; rfl)]; exact h2, h3.mono (Mem.le_refl F) hE⟩
  | arr e es n g =>
    obtain ⟨xs, h1, h2, h3, h4⟩ := h
    refine ⟨xs, ?_, h2, fun k hk' j hj => ?_, by rw [hμ]; exact h4.row h1 hk⟩
    · rw [hμ]
      refine ⟨h1.1, ?_⟩
      rcases h1.2 with h | ⟨b, cap, cur, q1, q2, q3, rest⟩
      · exact .inl h
      · have hb : b < w.heap.size := (Array.getElem?_eq_some_iff.1 q3).1
        exact .inr ⟨b, cap, cur, q1, q2, by rw [hk b hb (by rw [q1]; rfl)]; exact q3, rest⟩
    · obtain ⟨v, v1, v2⟩ := h3 k hk' j hj
      exact ⟨v, v1, RepC.mono (Mem.le_refl F) hE _ _ v2⟩
  | dead => trivial
  | mp sh z va ks val =>
    obtain ⟨b, es, ck, h1, h2, h3⟩ := h
    have hb : b < w.heap.size := (Array.getElem?_eq_some_iff.1 h2).1
    exact ⟨b, es, ck, hμ.trans h1, by rw [hk b hb (by rw [h1]; rfl)]; exact h2, h3⟩

/-- One object is new, or has changed. -/
theorem HSat.step {K : Keep} {F : Mem} {H H' : List O} {μ : Nat → Value} {w w' : World} (hw : HSat K F H μ w) (id : Nat) (o' : O) (v' : Value) (hid : getL H' id = some o')
    (hoth : ∀ i, i ≠ id → getL H' i = getL H i) (hE : Ext H μ H' (upd μ id v')) {row : Option Nat} (hg : w.grownBy w' row) (hrow : ∀ k, row = some k → owned H μ id k)
    (hv : ∀ b, blk v' = some b → owned H μ id b ∨ w.heap.size ≤ b) (ho : OSat F H' (upd μ id v') w' id o') : HSat K F H' (upd μ id v') w' := by
  have keep : ∀ b o, w.heap[b]? = some o → row ≠ some b → w'.heap[b]? = some o := by
    intro b o hb hr
    rw [hg.block b (Array.getElem?_eq_some_iff.1 hb).1 (fun e => hr e.symm)]
    exact hb
  have own : ∀ i b, owned H' (upd μ id v') i b → (i = id ∧ (owned H μ id b ∨ w.heap.size ≤ b)) ∨ (i ≠ id ∧ owned H μ i b) := by
    intro i b ⟨⟨o, o1, o2⟩, hb⟩
    by_cases e : i = id
    · subst e
      left
      refine ⟨rfl, hv b ?_⟩
      simpa [upd] using hb
    · right
      rw [hoth i e] at o1
      refine ⟨e, ⟨o, o1, o2⟩, ?_⟩
      simpa [upd, e] using hb
  have lt : ∀ i b, owned H μ i b → b < w.heap.size := by
    intro i b ⟨⟨o, o1, o2⟩, hb⟩
    have := hw.ob i o o1
    cases o with
    | vr cs =>
      obtain ⟨b', c, T, h1, h2, _⟩ := this
      rw [h1] at hb
      cases hb
      exact (Array.getElem?_eq_some_iff.1 h2).1
    | arr e es n g =>
      obtain ⟨xs, h1, _, _⟩ := this
      rcases h1.2 with ⟨q, _⟩ | ⟨g', cap, cur, q, _, q3, _⟩
      · rw [q] at hb; cases hb
      · rw [q] at hb; cases hb
        exact (Array.getElem?_eq_some_iff.1 q3).1
    | dead => exact absurd rfl o2
    | mp sh z va ks val =>
      obtain ⟨b', es, ck, h1, h2, _⟩ := this
      rw [h1] at hb
      cases hb
      exact (Array.getElem?_eq_some_iff.1 h2).1
  refine ⟨hg.os.trans hw.os, hg.tape.trans hw.tape, hg.output.trans hw.output, fun b o hb => ?_, fun b o hb => ?_, fun i o hi => ?_, fun i b hb => ?_, fun i j b hi hj => ?_, hw.dj⟩
  · refine keep b o (hw.fr b o hb) (fun e => ?_)
    have := (hw.sp id b (hrow b e)).1
    rw [this] at hb; cases hb
  · refine keep b o (hw.kp b o hb) (fun e => ?_)
    have := (hw.sp id b (hrow b e)).2
    rw [this] at hb; cases hb
  · by_cases e : i = id
    · subst e
      rw [hid] at hi
      cases hi
      exact ho
    · have hi' := hi
      rw [hoth i e] at hi'
      by_cases hd : o = .dead
      · subst hd; trivial
      · refine (hw.ob i o hi').other hE (by simp [upd, e]) (fun b hb hblk => hg.block b hb (fun q => ?_))
        exact e (hw.ij i id b ⟨⟨o, hi', hd⟩, hblk⟩ (hrow b q.symm))
  · rcases own i b hb with ⟨_, h | h⟩ | ⟨_, h⟩
    · exact hw.sp id b h
    · refine ⟨?_, ?_⟩
      · cases hf : F b with
        | none => rfl
        | some o => have := (Array.getElem?_eq_some_iff.1 (hw.fr b o hf)).1; omega
      · cases hf : K.mem b with
        | none => rfl
        | some o => have := (Array.getElem?_eq_some_iff.1 (hw.kp b o hf)).1; omega
    · exact hw.sp i b h
  · rcases own i b hi with ⟨ei, h | h⟩ | ⟨ei, h⟩ <;> rcases own j b hj with ⟨ej, k | k⟩ | ⟨ej, k⟩
    · rw [ei, ej]
    · rw [ei, ej]
    · rw [ei]; exact (hw.ij id j b h k)
    · rw [ei, ej]
    · rw [ei, ej]
    · have := lt j b k; omega
    · rw [ej]; exact (hw.ij i id b h k)
    · have := lt i b h; omega
    · exact hw.ij i j b h k

theorem getL_append_lt {α : Type} (l : List α) (x : α) (i : Nat) (h : i ≠ l.length) : getL (l ++ [x]) i = getL l i := by
  rw [getL_eq, getL_eq]
  by_cases hi : i < l.length
  · rw [List.getElem?_append_left hi]
  · rw [List.getElem?_append_right (by omega), List.getElem?_eq_none (by omega : l.length ≤ i)]
    exact List.getElem?_eq_none (by simp; omega)

theorem getL_append_eq {α : Type} (l : List α) (x : α) : getL (l ++ [x]) l.length = some x := by
  rw [getL_eq]; simp

theorem getL_lt {α : Type} {l : List α} {i : Nat} {x : α} (h : getL l i = some x) : i < l.length := by
  rw [getL_eq] at h; exact (List.getElem?_eq_some_iff.1 h).1

theorem Ext.push (H : List O) (μ : Nat → Value) (o : O) (v : Value) : Ext H μ (H ++ [o]) (upd μ H.length v) := by
  refine ⟨fun id cs h => ?_, fun id e es n g h => ?_, fun id sh z va ks val h => ?_⟩
  · have := getL_lt h
    exact ⟨⟨cs, by rw [getL_append_lt _ _ _ (by omega)]; exact h⟩, by simp [upd]; omega⟩
  · have := getL_lt h
    exact ⟨n, g, by rw [getL_append_lt _ _ _ (by omega)]; exact h, Nat.le_refl _, fun _ => by simp [upd]; omega⟩
  · have := getL_lt h
    exact ⟨⟨ks, val, by rw [getL_append_lt _ _ _ (by omega)]; exact h⟩, by simp [upd]; omega⟩

/-- A new object. -/
theorem HSat.push {K : Keep} {F : Mem} {H : List O} {μ : Nat → Value} {w w' : World} (hw : HSat K F H μ w) (o : O) (v : Value) (hg : w.grownBy w' none)
    (hv : ∀ b, blk v = some b → w.heap.size ≤ b) (ho : OSat F (H ++ [o]) (upd μ H.length v) w' H.length o) : HSat K F (H ++ [o]) (upd μ H.length v) w' :=
  hw.step H.length o v (getL_append_eq H o) (fun i hi => getL_append_lt H o i hi) (Ext.push H μ o v) hg (fun k e => by cases e) (fun b hb => .inr (hv b hb)) ho

theorem getL_set {H H' : List O} {id : Nat} {o' : O} (h : setL H id o' = some H') : getL H' id = some o' ∧ ∀ i, i ≠ id → getL H' i = getL H i := by
  obtain ⟨h1, h2⟩ := setL_eq _ _ _ _ h
  subst h2
  refine ⟨by rw [getL_eq]; simp [h1], fun i hi => ?_⟩
  rw [getL_eq, getL_eq, List.getElem?_set_ne (Ne.symm hi)]

theorem upd_self (μ : Nat → Value) (id : Nat) : upd μ id (μ id) = μ := by
  funext i; by_cases e : i = id <;> simp [upd, e]

/-- A variable of zeros, or of given cells. -/
theorem newVar_ok {P : Program} {K : Keep} {F : Mem} {H : List O} {μ : Nat → Value} {w : World} (hw : HSat K F H μ w) (t : TypeId) (v : Value) {cs : List C} (hl : RepL F H μ cs v.cells) :
    ∃ r w' v', (do pure (Value.pointer (some (← newVar t v))) : Sem Value).run P w = .ok r w' ∧ HSat K F (H ++ [.vr cs]) (upd μ H.length v') w' ∧ Ext H μ (H ++ [.vr cs]) (upd μ H.length v') ∧
      RepC F (H ++ [.vr cs]) (upd μ H.length v') (.ptr H.length 0) r := by
  refine ⟨.pointer (some ⟨w.heap.size, 0, none⟩), w.alloc (.cells v.cells t), .pointer (some ⟨w.heap.size, 0, none⟩), ?_, ?_, Ext.push _ _ _ _, ?_⟩
  · simp [newVar, newRow, newObj, Sem.run]
  · refine hw.push _ _ (World.grownBy_alloc w _ none) (fun b hb => by cases hb; exact Nat.le_refl _) ?_
    exact ⟨w.heap.size, v.cells, t, by simp [upd], heap_alloc_new w _, hl.mono (Mem.le_refl F) (Ext.push _ _ _ _)⟩
  · exact ⟨⟨cs, getL_append_eq _ _⟩, w.heap.size, by simp [upd], rfl⟩

/-- What an operation yields that changes what is tracked. -/
def updG (g : Nat → Nat → C) (k j : Nat) (ys : List C) : Nat → Nat → C := fun i l =>
  if i = k ∧ j ≤ l ∧ l < j + ys.length then lget ys (l - j) else g i l

def appG (g : Nat → Nat → C) (n : Nat) (g' : Nat → Nat → C) : Nat → Nat → C := fun i j => if i < n then g i j else g' (i - n) j

def copyG (g : Nat → Nat → C) (m : Nat) (g' : Nat → Nat → C) : Nat → Nat → C := fun i j => if i < m then g' i j else g i j

def zeroG (xs : List C) : Nat → Nat → C := fun _ j => lget xs j

def flatG (es : Nat) (xs : List C) : Nat → Nat → C := fun i j => lget xs (i * es + j)

def storeK (H : List O) (p : C) (ys : List C) : Option (List Prop × List O) :=
  match p with
  | .ptr id off => match getL H id with
    | some (.vr cs) => match splice cs off ys with
      | some cs' => match setL H id (.vr cs') with
        | some H' => some ([], H')
        | none => none
      | none => none
    | _ => none
  | .ep id k j tot => match getL H id with
    | some (.arr e es n g) => match setL H id (.arr e es n (updG g k j ys)) with
      | some H' => some ([tot = n, j + ys.length ≤ es], H')
      | none => none
    | _ => none
  | _ => none

theorem ext_same {H H' : List O} {μ : Nat → Value} (h : ∀ id o, getL H id = some o → match o with
    | .vr _ => ∃ cs', getL H' id = some (.vr cs')
    | .arr e es n _ => ∃ g', getL H' id = some (.arr e es n g')
    | .dead => True
    | .mp sh z va _ _ => ∃ ks' val', getL H' id = some (.mp sh z va ks' val')) : Ext H μ H' μ :=
  ⟨fun id _ hc => ⟨h id _ hc, rfl⟩, fun id _ _ n _ hc => let ⟨g', hg⟩ := h id _ hc; ⟨n, g', hg, Nat.le_refl _, fun _ => rfl⟩, fun id _ _ _ _ _ hc => ⟨h id _ hc, rfl⟩⟩

theorem setRow_grown (w : World) (g : Nat) (cs : Array Value) : w.grownBy (w.setRow g cs) (some g) :=
  ⟨rfl, rfl, rfl, by simp, fun k _ hk => setRow_other w g k _ (fun e => hk (by rw [e]))⟩

theorem list_mid {α : Type} (l vs : List α) (o : Nat) (h : o + vs.length ≤ l.length) (j : Nat) :
    (l.take o ++ vs ++ l.drop (o + vs.length))[j]? = if o ≤ j ∧ j < o + vs.length then vs[j - o]? else l[j]? := by
  simp only [List.append_assoc, List.getElem?_append, List.length_take, List.getElem?_take, List.getElem?_drop]
  have hm : min o l.length = o := by omega
  rw [hm]
  by_cases c1 : j < o
  · rw [if_pos c1, if_pos c1, if_neg (by omega)]
  · rw [if_neg c1]
    by_cases c2 : j - o < vs.length
    · rw [if_pos c2, if_pos (by omega)]
    · rw [if_neg c2, if_neg (by omega)]
      congr 1; omega

theorem storeVar_ok {P : Program} {t : Nat} {i : TI} (ht : TIok P t i) {v : Value} (hsz : v.cells.size = i.size) (h1 : ∀ x ∈ v.cells.toList, x.oneCell' = true) {g o : Nat} {cur : Array Value} {T : TypeId} {w : World}
    (hg : w.heap[g]? = some (.cells cur T (0, 0))) (hfit : o + v.cells.size ≤ cur.size) :
    (Instr.storeAt t (.pointer (some ⟨g, o, none⟩)) v).run P w = .ok () (w.setRow g (cur.toList.take o ++ v.cells.toList ++ cur.toList.drop (o + v.cells.size)).toArray) := by
  have hs := sizeOf_ok ht w
  have := run_storeCells_at P g o T v.cells.toList 0 cur w hg (by simpa using hfit) h1
  simp only [Instr.storeAt, Instr.sureAddr]
  show (do let a ← (pure (⟨g, o, none⟩ : Addr) : Sem Addr); storeVar t a v : Sem Unit).run P w = _
  rw [bind_ok (show (pure (⟨g, o, none⟩ : Addr) : Sem Addr).run P w = .ok _ w from rfl)]
  unfold storeVar
  rw [bind_ok hs]
  simp only [hsz, ne_eq, not_true, if_false]
  simpa [hsz] using this

theorem storeK_ok {P : Program} {K : Keep} {F : Mem} {H H' : List O} {μ : Nat → Value} {w : World} (hw : HSat K F H μ w) {t : Nat} {i : TI} (ht : TIok P t i) {p : C} {pv v : Value} {ys : List C} {ns : List Prop}
    (hp : RepC F H μ p pv) (hy : RepL F H μ ys v.cells) (hl : ys.length = i.size) (h : storeK H p ys = some (ns, H')) (hn : ∀ q ∈ ns, q) :
    ∃ w', (Instr.storeAt t pv v).run P w = .ok () w' ∧ HSat K F H' μ w' ∧ Ext H μ H' μ := by
  have hsz : v.cells.size = i.size := by rw [hy.1]; exact hl
  have h1 : ∀ x ∈ v.cells.toList, x.oneCell' = true := by
    intro x hx
    obtain ⟨j, hj, hjx⟩ := List.mem_iff_getElem.1 hx
    have hj' : j < ys.length := by rw [← hy.1]; simpa using hj
    obtain ⟨u, u1, u2⟩ := hy.2 j ys[j] (by rw [getL_eq]; simp [hj'])
    have : u = x := by
      rw [← Array.getElem?_toList] at u1
      rw [List.getElem?_eq_getElem hj] at u1
      cases u1
      exact hjx
    subst this
    exact RepC.one _ _ u2
  cases p with
  | ptr id off =>
    obtain ⟨⟨cs, g1⟩, b, g2, rfl⟩ := hp
    simp only [storeK, g1] at h
    cases hs : splice cs off ys with
    | none => simp [hs] at h
    | some cs' =>
      cases hset : setL H id (.vr cs') with
      | none => simp [hs, hset] at h
      | some H'' =>
        simp only [hs, hset, Option.some.injEq, Prod.mk.injEq] at h
        obtain ⟨_, rfl⟩ := h
        obtain ⟨s1, s2, s3⟩ := splice_ok _ _ _ _ hs
        obtain ⟨e1, e2⟩ := getL_set hset
        obtain ⟨b', c, T, k1, k2, k3⟩ := hw.ob id _ g1
        rw [g2] at k1
        cases k1
        have hfit : off + v.cells.size ≤ c.size := by rw [hsz, ← hl, k3.1]; exact s2
        have hE : Ext H μ H'' μ := ext_same (fun id' o ho => by
          by_cases e : id' = id
          · subst e
            rw [g1] at ho
            cases ho
            exact ⟨cs', e1⟩
          · rw [← e2 id' e] at ho
            cases o with
            | vr c' => exact ⟨c', ho⟩
            | arr e es n g => exact ⟨g, ho⟩
            | dead => trivial
            | mp sh z va ks val => exact ⟨ks, val, ho⟩)
        refine ⟨_, storeVar_ok (P := P) ht hsz h1 k2 hfit, ?_, hE⟩
        have hE' := hE
        rw [← upd_self μ id] at hE' ⊢
        have := hw.step id (.vr cs') (μ id) (w' := w.setRow b (c.toList.take off ++ v.cells.toList ++ c.toList.drop (off + v.cells.size)).toArray) e1 e2 (by rw [upd_self]; exact hE) (setRow_grown w b _)
          (fun k e => by cases e; exact ⟨⟨_, g1, by simp⟩, by rw [g2]; rfl⟩) (fun k e => .inl ⟨⟨_, g1, by simp⟩, e⟩) ?_
        · simpa [upd_self] using this
        · refine ⟨b, _, T, by simp [upd, g2], setRow_heap w b c _ T (0, 0) k2, ?_, fun j x hx => ?_⟩
          · have := k3.1
            simp only [List.size_toArray, List.length_append, List.length_take, List.length_drop, Array.length_toList]
            omega
          · rw [s3 j] at hx
            have hm := list_mid c.toList v.cells.toList off (by simpa using hfit) j
            simp only [Array.length_toList] at hm
            simp only [List.getElem?_toArray, hm]
            rw [upd_self]
            by_cases cc : off ≤ j ∧ j < off + ys.length
            · rw [if_pos cc] at hx
              rw [if_pos (by omega)]
              obtain ⟨u, u1, u2⟩ := hy.2 _ x hx
              exact ⟨u, by simpa using u1, RepC.mono (Mem.le_refl F) hE _ _ u2⟩
            · rw [if_neg cc] at hx
              rw [if_neg (by omega)]
              obtain ⟨u, u1, u2⟩ := k3.2 _ x hx
              exact ⟨u, by simpa using u1, RepC.mono (Mem.le_refl F) hE _ _ u2⟩
  | ep id k j tot =>
    obtain ⟨_, e, es, n, g, g1, g2, g3⟩ := hp
    simp only [storeK, g1] at h
    cases hset : setL H id (.arr e es n (updG g k j ys)) with
    | none => simp [hset] at h
    | some H'' =>
      simp only [hset, Option.some.injEq, Prod.mk.injEq] at h
      obtain ⟨rfl, rfl⟩ := h
      obtain ⟨e1, e2⟩ := getL_set hset
      have hq : tot = n := hn _ (by simp)
      have hes : j + ys.length ≤ es := hn _ (by simp)
      obtain ⟨b, cap, m1, m2, rfl⟩ := g3 hq
      obtain ⟨xs, o1, o2, o3, o4⟩ := hw.ob id _ g1
      rcases o1.2 with ⟨q1, _⟩ | ⟨b', cap', cur, q1, q2, q3, q4, q5, q6, q7⟩
      · rw [m1] at q1; simp at q1
      · rw [m1] at q1
        simp only [Value.slice.injEq, Option.some.injEq, Addr.mk.injEq, and_true, true_and] at q1
        obtain ⟨rfl, rfl⟩ := q1
        have hE : Ext H μ H'' μ := ext_same (fun id' o ho => by
          by_cases ee : id' = id
          · subst ee
            rw [g1] at ho
            cases ho
            exact ⟨_, e1⟩
          · rw [← e2 id' ee] at ho
            cases o with
            | vr c' => exact ⟨c', ho⟩
            | arr e es n g => exact ⟨g, ho⟩
            | dead => trivial
            | mp sh z va ks val => exact ⟨ks, val, ho⟩)
        have hkn : k * es + es ≤ n * es := by rw [← Nat.succ_mul]; exact Nat.mul_le_mul_right es m2
        have hnc : n * es ≤ cap * es := Nat.mul_le_mul_right es q4
        have hfit : (k * es + j) + v.cells.size ≤ cur.size := by rw [hsz, ← hl, q6]; omega
        refine ⟨_, storeVar_ok (P := P) ht hsz h1 q3 hfit, ?_, hE⟩
        have := hw.step id (.arr e es n (updG g k j ys)) (μ id) (w' := w.setRow b (cur.toList.take (k * es + j) ++ v.cells.toList ++ cur.toList.drop (k * es + j + v.cells.size)).toArray) e1 e2 (by rw [upd_self]; exact hE) (setRow_grown w b _)
          (fun k' ee => by cases ee; exact ⟨⟨_, g1, by simp⟩, by rw [m1]; rfl⟩) (fun k' ee => .inl ⟨⟨_, g1, by simp⟩, ee⟩) ?_
        · simpa [upd_self] using this
        · have hm := fun q => list_mid cur.toList v.cells.toList (k * es + j) (by simpa using hfit) q
          simp only [Array.length_toList] at hm
          refine ⟨((cur.toList.take (k * es + j) ++ v.cells.toList ++ cur.toList.drop (k * es + j + v.cells.size))).take (n * es), ⟨?_, .inr ⟨b, cap, _, by simp [upd, m1], Nat.zero_le _, setRow_heap w b cur _ e (0, 0) q3, q4, q5, ?_, by simp⟩⟩, o2, fun i' hi' l hl' => ?_, by rw [upd_self]; exact Sp.of (b := b) (by rw [m1]; rfl) (setRow_heap w b cur _ e (0, 0) q3) (by simpa using one_mid (o := k * es + j) (k := k * es + j + v.cells.size) (o4 b cur e (0, 0) (by rw [m1]; rfl) q3) h1)⟩
          · have h0 : (cur.toList.take (k * es + j) ++ v.cells.toList ++ cur.toList.drop (k * es + j + v.cells.size)).length = cur.size := by
              simp only [List.length_append, List.length_take, List.length_drop, Array.length_toList]; omega
            rw [List.length_take, h0, q6]; omega
          · simp only [List.size_toArray, List.length_append, List.length_take, List.length_drop, Array.length_toList]
            omega
          · rw [upd_self]
            have hi2 : i' * es + es ≤ n * es := by rw [← Nat.succ_mul]; exact Nat.mul_le_mul_right es hi'
            rw [List.getElem?_take, if_pos (by omega), hm]
            simp only [updG]
            have hys := hy.1
            by_cases cc : i' = k ∧ j ≤ l ∧ l < j + ys.length
            · obtain ⟨rfl, c2, c3⟩ := cc
              rw [if_pos (by omega), if_pos ⟨rfl, c2, c3⟩]
              have hlt : l - j < ys.length := by omega
              obtain ⟨u, u1, u2⟩ := hy.2 (l - j) ys[l - j] (by rw [getL_eq]; simp [hlt])
              refine ⟨u, ?_, ?_⟩
              · rw [show i' * es + l - (i' * es + j) = l - j by omega]; simpa using u1
              · simp only [lget, getL_eq]
                rw [List.getElem?_eq_getElem hlt]
                exact RepC.mono (Mem.le_refl F) hE _ _ u2
            · rw [if_neg cc]
              have hne : ¬ (k * es + j ≤ i' * es + l ∧ i' * es + l < k * es + j + v.cells.size) := by
                intro ⟨a1, a2⟩
                rw [hsz, ← hl] at a2
                rcases Nat.lt_trichotomy i' k with c | c | c
                · have : i' * es + es ≤ k * es := by rw [← Nat.succ_mul]; exact Nat.mul_le_mul_right es c
                  omega
                · subst c; exact cc ⟨rfl, by omega, by omega⟩
                · have : k * es + es ≤ i' * es := by rw [← Nat.succ_mul]; exact Nat.mul_le_mul_right es c
                  omega
              rw [if_neg hne]
              obtain ⟨u, u1, u2⟩ := o3 i' hi' l hl'
              refine ⟨u, ?_, RepC.mono (Mem.le_refl F) hE _ _ u2⟩
              rw [← q7, List.getElem?_take, if_pos (by omega)] at u1
              exact u1
  | _ => simp [storeK] at h

end Go.Am
end

section
/- THE ABSTRACT MACHINE, PART 8, beside: maps, changed. -/
namespace Go.Am
def updK (ks : List Key) (key : Key) : List Key :=
  match memK ks key with
  | true => ks
  | false => ks ++ [key]

def updV (val : Key → Nat → C) (key : Key) (f : Nat → C) : Key → Nat → C := fun k j => if k = key then f j else val k j

/-- The cells of a map's element. -/
def elV (va : Bool) (s : S) : Option (List C) :=
  match va, s with
  | true, .a ys => some ys
  | false, .c y => some [y]
  | _, _ => none

theorem elV_ok {F : Mem} {H : List O} {μ : Nat → Value} {va : Bool} {s : S} {ys : List C} (h : elV va s = some ys) (hi : ys.all C.imm = true) {v : Value} (hv : RepS F H μ s v) : RepV F va ys.length (lget ys) v := by
  unfold elV at h
  split at h
  · cases h
    obtain ⟨cs, rfl, h1, h2⟩ := hv
    refine ⟨fun _ => ⟨cs, rfl⟩, fun e => (by cases e), h1, fun j hj => ?_⟩
    have hg : getL ys j = some ys[j] := by rw [getL_eq]; simp [hj]
    obtain ⟨x, x1, x2⟩ := h2 j _ hg
    refine ⟨x, x1, ?_⟩
    have := imm_rep (all_get hi hg) x2
    simpa [lget, hg] using this
  · cases h
    rename_i y
    have ho := RepC.one y v hv
    refine ⟨fun e => (by cases e), fun _ => ho, ?_, fun j hj => ?_⟩
    · cases v <;> simp_all [Value.cells, Value.oneCell']
    · have : j = 0 := by simp at hj; omega
      subst this
      refine ⟨v, by cases v <;> simp_all [Value.cells, Value.oneCell'], ?_⟩
      have hi' : y.imm = true := by simpa using hi
      simpa [lget, getL] using imm_rep hi' hv
  · cases h

theorem MRep.put {F : Mem} {sh : KS} {z : List Z} {va : Bool} {ks : List Key} {val : Key → Nat → C} {es : List MapEntry} (hr : MRep F sh z va ks val es) {x : Key} (hx : x.sh = sh) {f : Nat → C} {v : Value} (hv : RepV F va z.length f v) :
    (memK ks x = false → ∀ c, MRep F sh z va (updK ks x) (updV val x f) (es ++ [⟨x.toV, v, c⟩])) ∧ (∀ j e, ks[j]? = some x → es[j]? = some e → MRep F sh z va (updK ks x) (updV val x f) (es.set j { e with key := x.toV, val := v })) := by
  have hlen : es.length = ks.length := by
    have := congrArg List.length hr.keys
    simpa using this
  constructor
  · intro hm c
    have hnot : x ∉ ks := fun h => by rw [memK_iff.2 h] at hm; cases hm
    simp only [updK, hm]
    refine ⟨?_, ?_, ?_, ?_, ?_⟩
    · rw [List.nodup_append]
      exact ⟨hr.nd, by simp, fun a ha b hb => by simp at hb; subst hb; exact fun e => hnot (e ▸ ha)⟩
    · intro k hk
      rcases List.mem_append.1 hk with hk | hk
      · exact hr.shp k hk
      · simp at hk; subst hk; exact hx
    · rw [List.map_append, List.map_append, hr.keys]; rfl
    · intro i e k h1 h2
      by_cases c : i < ks.length
      · rw [List.getElem?_append_left (by omega)] at h1
        rw [List.getElem?_append_left c] at h2
        have := hr.vals i e k h1 h2
        have hne : k ≠ x := fun q => hnot (q ▸ List.mem_of_getElem? h2)
        have e1 : updV val x f k = val k := by funext j; simp [updV, hne]
        rw [e1]; exact this
      · rw [List.getElem?_append_right (by omega)] at h1
        rw [List.getElem?_append_right (by omega)] at h2
        have hi : i - ks.length = 0 := by
          rcases Nat.eq_zero_or_pos (i - ks.length) with h | h
          · exact h
          · rw [List.getElem?_eq_none (by simp; omega)] at h2; cases h2
        rw [hi] at h2
        rw [show i - es.length = 0 by omega] at h1
        simp only [List.getElem?_cons_zero, Option.some.injEq] at h1 h2
        subst h1 h2
        have e1 : updV val x f x = f := by funext j; simp [updV]
        rw [e1]; exact hv
    · intro k hs hk j hj
      have : k ∉ ks ∧ k ≠ x := ⟨fun h => hk (by simp [h]), fun h => hk (by simp [h])⟩
      simpa [updV, this.2] using hr.none k hs this.1 j hj
  · intro j e hj he
    have hin : x ∈ ks := List.mem_of_getElem? hj
    simp only [updK, memK_iff.2 hin]
    refine ⟨hr.nd, hr.shp, ?_, ?_, ?_⟩
    · rw [List.map_set, hr.keys]
      refine List.ext_getElem? fun i => ?_
      by_cases c : i = j
      · subst c
        have hlt := (List.getElem?_eq_some_iff.1 hj).1
        rw [List.getElem?_set_self (by simpa using hlt), List.getElem?_map, hj]; rfl
      · rw [List.getElem?_set_ne (Ne.symm c)]
    · intro i e' k h1 h2
      by_cases c : i = j
      · subst c
        rw [hj] at h2
        cases h2
        rw [List.getElem?_set_self (by have := (List.getElem?_eq_some_iff.1 he).1; exact this)] at h1
        cases h1
        have e1 : updV val x f x = f := by funext j; simp [updV]
        rw [e1]; exact hv
      · rw [List.getElem?_set_ne (Ne.symm c)] at h1
        have hne : k ≠ x := by
          intro q
          subst q
          exact c ((List.getElem?_inj (by have := (List.getElem?_eq_some_iff.1 h2).1; exact this) hr.nd).1 (by rw [h2, hj]))
        have e1 : updV val x f k = val k := by funext j; simp [updV, hne]
        rw [e1]; exact hr.vals i e' k h1 h2
    · intro k hs hk i hi
      have hne : k ≠ x := fun q => hk (q ▸ hin)
      simpa [updV, hne] using hr.none k hs hk i hi

theorem Stp.push {es : List MapEntry} {ck : Nat} (h : Stp es ck) {k v : Value} : Stp (es ++ [⟨k, v, ck⟩]) (ck + 1) := by
  refine ⟨fun x hx => ?_, ?_⟩
  · rcases List.mem_append.1 hx with hx | hx
    · exact Nat.lt_succ_of_lt (h.1 x hx)
    · simp at hx; subst hx; exact Nat.lt_succ_self _
  · rw [List.map_append, List.nodup_append]
    refine ⟨h.2, by simp, fun a ha b hb => ?_⟩
    obtain ⟨x, hx, rfl⟩ := List.mem_map.1 ha
    simp at hb; subst hb
    exact Nat.ne_of_lt (h.1 x hx)
theorem Stp.set {es : List MapEntry} {ck j : Nat} (h : Stp es ck) {e : MapEntry} (he : es[j]? = some e) {k v : Value} : Stp (es.set j { e with key := k, val := v }) ck := by
  have hm : (es.set j { e with key := k, val := v }).map (·.born) = es.map (·.born) := by
    rw [List.map_set]
    refine List.ext_getElem? fun i => ?_
    by_cases c : i = j
    · subst c
      have hlt := (List.getElem?_eq_some_iff.1 he).1
      rw [List.getElem?_set_self (by simpa using hlt), List.getElem?_map, he]; rfl
    · rw [List.getElem?_set_ne (Ne.symm c)]
  refine ⟨fun x hx => ?_, by rw [hm]; exact h.2⟩
  have : x.born ∈ es.map (·.born) := by rw [← hm]; exact List.mem_map_of_mem hx
  obtain ⟨y, hy, e⟩ := List.mem_map.1 this
  rw [← e]; exact h.1 y hy
theorem Stp.erase {es : List MapEntry} {ck j : Nat} (h : Stp es ck) : Stp (es.eraseIdx j) ck := by
  refine ⟨fun x hx => h.1 x (List.mem_of_mem_eraseIdx hx), ?_⟩
  exact (((List.eraseIdx_sublist es j).map (·.born)).nodup h.2)

theorem modify_set {es : Array MapEntry} {j : Nat} {f : MapEntry → MapEntry} {e : MapEntry} (h : es.toList[j]? = some e) : (es.modify j f).toList = es.toList.set j (f e) := by
  have hlt := (List.getElem?_eq_some_iff.1 h).1
  refine List.ext_getElem? fun i => ?_
  by_cases c : i = j
  · subst c
    rw [List.getElem?_set_self hlt]
    simp only [Array.toList_modify, List.getElem?_modify, h]
    simp
  · rw [List.getElem?_set_ne (Ne.symm c)]
    simp only [Array.toList_modify, List.getElem?_modify]
    simp [Ne.symm c]

section
variable {P : Program} {Γ : Env} (hΓ : EnvOk P Γ) {K : Keep} {F : Mem} {H H' : List O} {μ : Nat → Value} {w : World} {t k e : Nat} {sh : KS} {te : TI} {id : Nat} {ks : List Key} {val : Key → Nat → C} {key : Key}

theorem map_step (hw : HSat K F H μ w) {z : List Z} {va : Bool} (hg : getL H id = some (.mp sh z va ks val)) {b : Nat} (hb : μ id = .map (some b)) {es : Array MapEntry} {ck : Nat} (hbl : w.heap[b]? = some (.map es ck)) {ks' : List Key} {val' : Key → Nat → C} {es' : Array MapEntry} {ck' : Nat}
    (hr : MRep F sh z va ks' val' es'.toList) (hst : Stp es'.toList ck') (hset : setL H id (.mp sh z va ks' val') = some H') : HSat K F H' μ { w with heap := w.heap.setIfInBounds b (.map es' ck') } ∧ Ext H μ H' μ := by
  obtain ⟨e1, e2⟩ := getL_set hset
  have hE : Ext H μ H' μ := ext_same (fun id' o ho => by
    by_cases ee : id' = id
    · subst ee
      rw [hg] at ho
      cases ho
      exact ⟨_, _, e1⟩
    · rw [← e2 id' ee] at ho
      cases o with
      | vr c' => exact ⟨c', ho⟩
      | arr e es n g => exact ⟨g, ho⟩
      | dead => trivial
      | mp sh z va ks val => exact ⟨ks, val, ho⟩)
  have hlt : b < w.heap.size := (Array.getElem?_eq_some_iff.1 hbl).1
  have hgr : w.grownBy { w with heap := w.heap.setIfInBounds b (.map es' ck') } (some b) :=
    ⟨rfl, rfl, rfl, by simp, fun k _ hk => by simp [show b ≠ k from fun q => hk (by rw [q])]⟩
  have := hw.step id _ (μ id) (row := some b) e1 e2 (by rw [upd_self]; exact hE) hgr (fun k hk => by cases hk; exact ⟨⟨_, hg, by simp⟩, by rw [hb]; rfl⟩) (fun k hk => .inl ⟨⟨_, hg, by simp⟩, hk⟩) (by
    rw [upd_self]
    exact ⟨b, es', ck', hb, by simp [hlt], hr, hst⟩)
  rw [upd_self] at this
  exact ⟨this, hE⟩

include hΓ
theorem put_ok (hw : HSat K F H μ w) (hm : mapOf Γ t = some (sh, k, e, te)) (hg : getL H id = some (.mp sh te.zero te.agg ks val)) {x : Value} (hx : RepC F H μ (.mpr id) x) (hk : key.sh = sh) {f : Nat → C} {v : Value} (hv : RepV F te.agg te.zero.length f v)
    (hset : setL H id (.mp sh te.zero te.agg (updK ks key) (updV val key f)) = some H') :
    ∃ w', (Instr.mapUpdate t x key.toV v).run P w = .ok () w' ∧ HSat K F H' μ w' ∧ Ext H μ H' μ := by
  obtain ⟨hu, hkl, hte⟩ := mapOf_ok hΓ hm
  obtain ⟨_, b, m1, rfl⟩ := hx
  obtain ⟨b', es, ck, m2, m3, m4, m5⟩ := hw.ob id _ hg
  rw [m1] at m2
  cases m2
  obtain ⟨p1, p2⟩ := m4.put hk hv
  rcases m4.find hkl w hk with ⟨q1, q2⟩ | ⟨j, en, q1, q2, q3, q4, q5, q6⟩
  · obtain ⟨s1, s2⟩ := map_step (es' := es.push ⟨key.toV, v, ck⟩) (ck' := ck + 1) hw hg m1 m3 (by rw [Array.toList_push]; exact p1 q1 ck) (by rw [Array.toList_push]; exact m5.push) hset
    refine ⟨_, ?_, s1, s2⟩
    unfold Instr.mapUpdate
    rw [bind_ok (run_underlying hu w)]
    simp only
    rw [bind_ok (MapKept.run_getObj_map m3)]
    simp only
    rw [bind_ok (hkl.check w _ key hk), bind_ok q2]
    simp only
    exact MapKept.run_setObj_map _ m3
  · have hmod : (es.modify j fun e => { e with key := key.toV, val := v }).toList = es.toList.set j { en with key := key.toV, val := v } := modify_set q3
    obtain ⟨s1, s2⟩ := map_step (es' := es.modify j fun e => { e with key := key.toV, val := v }) (ck' := ck) hw hg m1 m3 (by rw [hmod]; exact p2 j en q4 q3) (by rw [hmod]; exact m5.set q3) hset
    refine ⟨_, ?_, s1, s2⟩
    unfold Instr.mapUpdate
    rw [bind_ok (run_underlying hu w)]
    simp only
    rw [bind_ok (MapKept.run_getObj_map m3)]
    simp only
    rw [bind_ok (hkl.check w _ key hk), bind_ok q2]
    simp only
    have hkey : ((es[j]?).map (·.key)).getD key.toV = key.toV := by
      rw [← Array.getElem?_toList, q3]; exact q5
    rw [hkey, bind_ok (hkl.stays w key hk)]
    exact MapKept.run_setObj_map _ m3
end

/-! ### an entry falls away -/
def delV (te : TI) (val : Key → Nat → C) (key : Key) : Key → Nat → C := fun k j => if k = key then lget (zeroL te) j else val k j
def delK (ks : List Key) (key : Key) : List Key := ks.filter fun k => decide (k ≠ key)

theorem Z.toC_rep (F : Mem) (z : Z) : RepF F z.toC z.toV := by
  cases z <;> first | rfl | exact ⟨rfl, by unfold maxLen; decide⟩

theorem zeroZ {te : TI} {j : Nat} (h : j < te.zero.length) : ∃ x, te.zero[j]? = some x ∧ lget (zeroL te) j = x.toC := by
  refine ⟨te.zero[j], by simp [h], ?_⟩
  simp [lget, zeroL, getL_eq, h]

theorem filter_out {ks : List Key} {key : Key} (h : key ∉ ks) : delK ks key = ks := by
  unfold delK
  exact List.filter_eq_self.2 fun a ha => by simp; exact fun q => h (q ▸ ha)

theorem eraseIdx_filter : ∀ {ks : List Key} {j : Nat} {key : Key}, ks.Nodup → ks[j]? = some key → ks.eraseIdx j = delK ks key
  | [], j, key, _, h => by simp at h
  | x :: r, 0, key, hn, h => by
    simp only [List.getElem?_cons_zero, Option.some.injEq] at h
    subst h
    have := (List.nodup_cons.1 hn).1
    simp only [List.eraseIdx_cons_zero]
    unfold delK
    rw [List.filter_cons_of_neg (by simp)]
    exact (filter_out this).symm
  | x :: r, j + 1, key, hn, h => by
    have h' : r[j]? = some key := by simpa using h
    have hne : x ≠ key := fun q => (List.nodup_cons.1 hn).1 (q ▸ List.mem_of_getElem? h')
    simp only [List.eraseIdx_cons_succ]
    rw [eraseIdx_filter (List.nodup_cons.1 hn).2 h']
    unfold delK
    rw [List.filter_cons_of_pos (by simp [hne])]

theorem MRep.del {F : Mem} {sh : KS} {te : TI} {va : Bool} {ks : List Key} {val : Key → Nat → C} {es : List MapEntry} (hr : MRep F sh te.zero va ks val es) {x : Key} :
    (memK ks x = false → MRep F sh te.zero va (delK ks x) (delV te val x) es) ∧ (∀ j, ks[j]? = some x → MRep F sh te.zero va (delK ks x) (delV te val x) (es.eraseIdx j)) := by
  have hnone : ∀ k, k.sh = sh → k ∉ delK ks x → ∀ j, j < te.zero.length → ∃ q, te.zero[j]? = some q ∧ RepF F (delV te val x k j) q.toV := by
    intro k hs hk j hj
    by_cases c : k = x
    · subst c
      obtain ⟨q, q1, q2⟩ := zeroZ hj
      refine ⟨q, q1, ?_⟩
      simp only [delV, if_pos, q2]
      exact Z.toC_rep F q
    · have : k ∉ ks := fun h => hk (by simp [delK, h, c])
      simpa [delV, c] using hr.none k hs this j hj
  constructor
  · intro hm
    have hnot : x ∉ ks := fun h => by rw [memK_iff.2 h] at hm; cases hm
    have e := filter_out hnot
    refine ⟨by rw [e]; exact hr.nd, by rw [e]; exact hr.shp, by rw [e]; exact hr.keys, fun i en k h1 h2 => ?_, hnone⟩
    rw [e] at h2
    have hne : k ≠ x := fun q => hnot (q ▸ List.mem_of_getElem? h2)
    have e1 : delV te val x k = val k := by funext j; simp [delV, hne]
    rw [e1]; exact hr.vals i en k h1 h2
  · intro j hj
    have e := eraseIdx_filter hr.nd hj
    refine ⟨by rw [← e]; exact hr.nd.eraseIdx j, fun k hk => hr.shp k (List.mem_filter.1 hk).1, ?_, fun i en k h1 h2 => ?_, hnone⟩
    · rw [← e]
      have e2 : ∀ {α β : Type} (f : α → β) (l : List α), (l.eraseIdx j).map f = (l.map f).eraseIdx j := fun f l => by
        refine List.ext_getElem? fun i => ?_
        rw [List.getElem?_map, List.getElem?_eraseIdx, List.getElem?_eraseIdx]
        split <;> simp
      rw [e2, e2, hr.keys]
    · have hne : k ≠ x := by
        have := List.mem_of_getElem? h2
        simp [delK] at this
        exact this.2
      have e1 : delV te val x k = val k := by funext j; simp [delV, hne]
      rw [e1]
      rw [← e] at h2
      rw [List.getElem?_eraseIdx] at h1 h2
      split at h1
      · rename_i c
        rw [if_pos c] at h2
        exact hr.vals i en k h1 h2
      · rename_i c
        rw [if_neg c] at h2
        exact hr.vals (i + 1) en k h1 h2

/-! ### the operations -/
def newMK (Γ : Env) (H : List O) (t : Nat) : Option (List Prop × S × List O) :=
  match mapOf Γ t with
  | some (sh, _, _, te) => some ([], .c (.mpr H.length), H ++ [.mp sh te.zero te.agg [] fun _ j => lget (zeroL te) j])
  | none => none

def putMK (Γ : Env) (ts : Ts) (H : List O) (t : Nat) (m k x : Operand) : Option (List Prop × S × List O) :=
  match mapOf Γ t with
  | some (sh, _, _, te) => match bare (opnd ts m) with
    | (p, .c (.mpr id)) => match bare (opnd ts k) with
      | (q, s) => match keyS s with
        | some key => match shB sh key with
          | true => match getL H id with
            | some (.mp sh' z va ks vl) => match mpB sh te sh' z va with
              | true => match bare (opnd ts x) with
                | (r, y) => match elV te.agg y with
                  | some ys => match Nat.beq ys.length te.zero.length && ys.all C.imm with
                    | true => match setL H id (.mp sh te.zero te.agg (updK ks key) (updV vl key (lget ys))) with
                      | some H' => some (p ++ q ++ r, .u, H')
                      | none => none
                    | false => none
                  | none => none
              | false => none
            | _ => none
          | false => none
        | none => none
    | _ => none
  | none => none

def delMK (Γ : Env) (ts : Ts) (H : List O) (t : Nat) (m k : Operand) : Option (List Prop × S × List O) :=
  match mapOf Γ t with
  | some (sh, _, _, te) => match bare (opnd ts m) with
    | (p, .c (.mpr id)) => match bare (opnd ts k) with
      | (q, s) => match keyS s with
        | some key => match shB sh key with
          | true => match getL H id with
            | some (.mp sh' z va ks vl) => match mpB sh te sh' z va with
              | true => match setL H id (.mp sh te.zero te.agg (delK ks key) (delV te vl key)) with
                | some H' => some (p ++ q, .u, H')
                | none => none
              | false => none
            | _ => none
          | false => none
        | none => none
    | _ => none
  | none => none

section
variable {P : Program} {Γ : Env} (hΓ : EnvOk P Γ) {K : Keep} {F : Mem} {H H' : List O} {μ : Nat → Value} {w : World} {t : Nat} {ts : Ts} {a : Act}
include hΓ

omit hΓ in
theorem newMK_ok (hw : HSat K F H μ w) {ns : List Prop} {s : S} (h : newMK Γ H t = some (ns, s, H')) :
    ∃ r w' μ', (Instr.makeMap t none).run P w = .ok r w' ∧ HSat K F H' μ' w' ∧ Ext H μ H' μ' ∧ RepS F H' μ' s r := by
  unfold newMK at h
  split at h
  · rename_i sh k e te hm
    cases h
    refine ⟨.map (some w.heap.size), w.alloc (.map #[] 0), upd μ H.length (.map (some w.heap.size)), ?_, hw.push _ _ (World.grownBy_alloc w _ none) (fun b hb => by cases hb; exact Nat.le_refl _) ?_, Ext.push _ _ _ _, ⟨_, _, _, _, _, getL_append_eq _ _⟩, w.heap.size, by simp [upd], rfl⟩
    · simp [Instr.makeMap, newObj, Sem.run, Result.andThen]
    · refine ⟨w.heap.size, #[], 0, by simp [upd], heap_alloc_new w _, ⟨by simp, by simp, rfl, fun i e k h => by simp at h, fun k _ _ j hj => ?_⟩, by simp [Stp]⟩
      obtain ⟨q, q1, q2⟩ := zeroZ hj
      exact ⟨q, q1, by rw [q2]; exact Z.toC_rep F q⟩
  · cases h

theorem putMK_ok (hw : HSat K F H μ w) (hT : TSat F H μ ts a.tmps) {m k x : Operand} {ns : List Prop} {s : S} (h : putMK Γ ts H t m k x = some (ns, s, H')) (hn : ∀ q ∈ ns, q) :
    ∃ w', (Instr.mapUpdate t (a.eval m) (a.eval k) (a.eval x)).run P w = .ok () w' ∧ HSat K F H' μ w' ∧ Ext H μ H' μ ∧ s = .u := by
  have O := opnd_ok hT
  have B : ∀ {x : Operand} {p : List Prop} {s' : S}, bare (opnd ts x) = (p, s') → (∀ q ∈ p, q) → RepS F H μ s' (a.eval x) := fun hb hp => bare_ok (O _) hb hp
  unfold putMK at h
  split at h
  · rename_i sh kt e te hm
    split at h
    · rename_i p id hb1
      split at h
      rename_i q s' hb2
      split at h
      · rename_i key hkey
        split at h
        · rename_i hsh
          split at h
          · rename_i sh' z va ks vl hg
            split at h
            · rename_i hmp
              split at h
              rename_i r y hb3
              split at h
              · rename_i ys hys
                split at h
                · rename_i hl
                  rw [Bool.and_eq_true] at hl
                  split at h
                  · rename_i H'' hset
                    cases h
                    obtain ⟨rfl, rfl, rfl⟩ := mpB_ok hmp
                    have hk := keyS_ok hkey (B hb2 (all_right (all_left hn)))
                    have hv := elV_ok hys hl.2 (B hb3 (all_right hn))
                    rw [Nat.eq_of_beq_eq_true hl.1] at hv
                    obtain ⟨w', r1, r2, r3⟩ := put_ok hΓ hw hm hg (B hb1 (all_left (all_left hn))) (of_decide_eq_true hsh) hv hset
                    exact ⟨w', by rw [hk]; exact r1, r2, r3, rfl⟩
                  · cases h
                · cases h
              · cases h
            · cases h
          · cases h
        · cases h
      · cases h
    · cases h
  · cases h

theorem delMK_ok (hw : HSat K F H μ w) (hT : TSat F H μ ts a.tmps) {ty t2 : Nat} {m k : Operand} {ns : List Prop} {s : S} (h : delMK Γ ts H t m k = some (ns, s, H')) (hn : ∀ q ∈ ns, q) :
    ∃ v w', (Builtin.delete_ #[t, t2] ty #[a.eval m, a.eval k]).run P w = .ok v w' ∧ HSat K F H' μ w' ∧ Ext H μ H' μ ∧ s = .u := by
  have O := opnd_ok hT
  have B : ∀ {x : Operand} {p : List Prop} {s' : S}, bare (opnd ts x) = (p, s') → (∀ q ∈ p, q) → RepS F H μ s' (a.eval x) := fun hb hp => bare_ok (O _) hb hp
  unfold delMK at h
  split at h
  · rename_i sh kt e te hm
    split at h
    · rename_i p id hb1
      split at h
      rename_i q s' hb2
      split at h
      · rename_i key hkey
        split at h
        · rename_i hsh
          split at h
          · rename_i sh' z va ks vl hg
            split at h
            · rename_i hmp
              split at h
              · rename_i H'' hset
                cases h
                obtain ⟨rfl, rfl, rfl⟩ := mpB_ok hmp
                have hks := keyS_ok hkey (B hb2 (all_right hn))
                obtain ⟨hu, hkl, hte⟩ := mapOf_ok hΓ hm
                have hx := B hb1 (all_left hn)
                obtain ⟨_, b, m1, hx⟩ := hx
                obtain ⟨b', es, ck, m2, m3, m4, m5⟩ := hw.ob id _ hg
                rw [m1] at m2
                cases m2
                have hk : key.sh = sh' := of_decide_eq_true hsh
                obtain ⟨d1, d2⟩ := m4.del (x := key)
                rw [hx, hks]
                rcases m4.find hkl w hk with ⟨q1, q2⟩ | ⟨j, en, q1, q2, q3, q4, q5, q6⟩
                · obtain ⟨s1, s2⟩ := map_step (es' := es) (ck' := ck) hw hg m1 m3 (d1 q1) m5 hset
                  refine ⟨.tuple #[], _, ?_, s1, s2, rfl⟩
                  unfold Builtin.delete_
                  simp only [List.getElem?_toArray, List.getElem?_cons_zero, List.getElem?_cons_succ]
                  rw [bind_ok (run_underlying hu w)]
                  simp only
                  rw [bind_ok (MapKept.run_getObj_map m3)]
                  simp only
                  rw [bind_ok (hkl.check w _ key hk), bind_ok q2]
                  simp only
                  rw [bind_ok (MapKept.run_setObj_map _ m3)]
                  rfl
                · obtain ⟨s1, s2⟩ := map_step (es' := es.eraseIdxIfInBounds j) (ck' := ck) hw hg m1 m3 (by
                    have hlt := (List.getElem?_eq_some_iff.1 q3).1
                    rw [Array.toList_eraseIdxIfInBounds]
                    exact d2 j q4) (by rw [Array.toList_eraseIdxIfInBounds]; exact m5.erase) hset
                  refine ⟨.tuple #[], _, ?_, s1, s2, rfl⟩
                  unfold Builtin.delete_
                  simp only [List.getElem?_toArray, List.getElem?_cons_zero, List.getElem?_cons_succ]
                  rw [bind_ok (run_underlying hu w)]
                  simp only
                  rw [bind_ok (MapKept.run_getObj_map m3)]
                  simp only
                  rw [bind_ok (hkl.check w _ key hk), bind_ok q2]
                  simp only
                  rw [bind_ok (MapKept.run_setObj_map _ m3)]
                  rfl
              · cases h
            · cases h
          · cases h
        · cases h
      · cases h
    · cases h
  · cases h
end
end Go.Am
end

section
/- THE ABSTRACT MACHINE, PART 9: make, append, copy, slice literals. -/
namespace Go.Am

/-- What is read in an append or a copy: what is needed, how many elements, which. -/
def srcK (es : Nat) (H : List O) (y : C) : Option (List Prop × Nat × (Nat → Nat → C)) :=
  match y with
  | .nils => some ([], 0, fun _ _ => .junk)
  | .isl es' m g _ => match Nat.beq es' es with
    | true => some ([], m, g)
    | false => none
  | .sl id es' len tot _ => match Nat.beq es' es with
    | true => match getL H id with
      | some (.arr _ _ n g) => some ([tot = n], len, g)
      | _ => none
    | false => none
  | _ => none

structure Src (F : Mem) (H : List O) (μ : Nat → Value) (w : World) (es m : Nat) (g : Nat → Nat → C) (v : Value) (news : List Value) : Prop where
  le : m ≤ maxLen
  len : news.length = m * es
  val : (v = .slice none 0 0 ∧ m = 0) ∨ ∃ a c, v = .slice (some a) m c ∧ ∀ (j : Nat) u, news[j]? = some u → w.cell? (a.add j) = some u
  rep : ∀ i, i < m → ∀ j, j < es → ∃ u, news[i * es + j]? = some u ∧ RepC F H μ (g i j) u

theorem Src.one {F : Mem} {H : List O} {μ : Nat → Value} {w : World} {es m : Nat} {g : Nat → Nat → C} {v : Value} {news : List Value} (h : Src F H μ w es m g v news) : ∀ u ∈ news, u.oneCell' = true := by
  intro u hu
  obtain ⟨q, hq, e⟩ := List.mem_iff_getElem.1 hu
  rw [h.len] at hq
  have hes : 0 < es := by
    rcases Nat.eq_zero_or_pos es with z | z
    · subst z; simp at hq
    · exact z
  have h1 : q / es < m := (Nat.div_lt_iff_lt_mul hes).2 hq
  obtain ⟨u', u1, u2⟩ := h.rep (q / es) h1 (q % es) (Nat.mod_lt _ hes)
  rw [Nat.div_add_mod' q es] at u1
  rw [List.getElem?_eq_getElem (by rw [h.len]; exact hq), e] at u1
  cases u1
  exact RepC.one _ _ u2

theorem Src.first {F : Mem} {H : List O} {μ : Nat → Value} {w : World} {es m : Nat} {g : Nat → Nat → C} {v : Value} {news : List Value} (h : Src F H μ w es m g v news) (P : Program) (w' : World) (hw : ∀ a, w'.cell? a = w.cell? a)
    (k : Nat) (hk : k ≤ m) : (Builtin.firstCells es k v).run P w' = .ok (news.take (k * es)).toArray w' := by
  rcases h.val with ⟨rfl, rfl⟩ | ⟨a, c, rfl, hc⟩
  · have : k = 0 := by omega
    subst this
    have : news = [] := List.eq_nil_of_length_eq_zero (by rw [h.len]; simp)
    subst this
    simp [Builtin.firstCells]
  · have hlen : (news.take (k * es)).length = k * es := by
      rw [List.length_take, h.len]; exact Nat.min_eq_left (Nat.mul_le_mul_right es hk)
    exact run_firstCells_some w' es k a m c _ hlen (fun j u hu => by
      rw [hw]
      refine hc j u ?_
      rw [List.getElem?_take] at hu
      split at hu
      · exact hu
      · cases hu)

theorem srcK_ok {K : Keep} {F : Mem} {H : List O} {μ : Nat → Value} {w : World} (hw : HSat K F H μ w) {es : Nat} {y : C} {v : Value} {ns : List Prop} {m : Nat} {g : Nat → Nat → C}
    (hy : RepC F H μ y v) (h : srcK es H y = some (ns, m, g)) (hn : ∀ q ∈ ns, q) : ∃ news, Src F H μ w es m g v news := by
  cases y with
  | nils =>
    simp only [srcK, Option.some.injEq, Prod.mk.injEq] at h
    obtain ⟨_, rfl, rfl⟩ := h
    exact ⟨[], Nat.zero_le _, by simp, .inl ⟨hy, rfl⟩, fun i hi => by omega⟩
  | isl es' n get tight =>
    simp only [srcK] at h
    cases hb : Nat.beq es' es with
    | false => simp [hb] at h
    | true =>
      have : es' = es := Nat.eq_of_beq_eq_true hb
      subst this
      simp only [hb, Option.some.injEq, Prod.mk.injEq] at h
      obtain ⟨_, rfl, rfl⟩ := h
      obtain ⟨a, cap, rfl, q1, q2, q3, q3', q4⟩ := hy
      by_cases hn0 : n = 0
      · subst hn0
        cases a with
        | none => exact ⟨[], Nat.zero_le _, by simp, .inl ⟨by rw [q3' rfl], rfl⟩, fun i hi => by omega⟩
        | some a => exact ⟨[], Nat.zero_le _, by simp, .inr ⟨a, cap, rfl, fun j u hu => by simp at hu⟩, fun i hi => by omega⟩
      · rcases q4 with q4 | ⟨b, off, rfl, hc⟩
        · exact absurd q4 hn0
        · refine ⟨(List.range (n * es')).map fun q => (w.cell? ⟨b, off + q, none⟩).getD undef, q1, by simp, .inr ⟨⟨b, off, none⟩, cap, rfl, fun j u hu => ?_⟩, fun i hi j hj => ?_⟩
          · have hj : j < n * es' := by have := (List.getElem?_eq_some_iff.1 hu).1; simpa using this
            have hes : 0 < es' := by
              rcases Nat.eq_zero_or_pos es' with z | z
              · subst z; simp at hj
              · exact z
            obtain ⟨x, x1, _⟩ := hc (j / es') ((Nat.div_lt_iff_lt_mul hes).2 hj) (j % es') (Nat.mod_lt _ hes)
            rw [Nat.add_assoc, Nat.div_add_mod' j es'] at x1
            have hcell : w.cell? ⟨b, off + j, none⟩ = some x := by
              unfold Mem.cell at x1
              cases hf : F b with
              | none => simp [hf] at x1
              | some o =>
                rw [hf] at x1
                cases o with
                | cells c T fz => rw [cell_of_row w b _ c T fz (hw.fr b _ hf)]; exact x1
                | _ => simp at x1
            simp [hj, hcell] at hu
            rw [add_at, hcell, hu]
          · obtain ⟨x, x1, x2⟩ := hc i hi j hj
            have hlt : i * es' + j < n * es' := by
              have : i * es' + es' ≤ n * es' := by rw [← Nat.succ_mul]; exact Nat.mul_le_mul_right es' hi
              omega
            have hcell : w.cell? ⟨b, off + (i * es' + j), none⟩ = some x := by
              rw [Nat.add_assoc] at x1
              unfold Mem.cell at x1
              cases hf : F b with
              | none => simp [hf] at x1
              | some o =>
                rw [hf] at x1
                cases o with
                | cells c T fz => rw [cell_of_row w b _ c T fz (hw.fr b _ hf)]; exact x1
                | _ => simp at x1
            exact ⟨x, by simp [hlt, hcell], RepF.toC H μ _ _ x2⟩
  | sl id es' len tot xq =>
    simp only [srcK] at h
    cases hb : Nat.beq es' es with
    | false => simp [hb] at h
    | true =>
      have : es' = es := Nat.eq_of_beq_eq_true hb
      subst this
      obtain ⟨_, e, n, g', h1, h2, h3, h4⟩ := hy
      simp only [hb, h1, Option.some.injEq, Prod.mk.injEq] at h
      obtain ⟨rfl, rfl, rfl⟩ := h
      have ht : tot = n := hn _ (by simp)
      obtain ⟨a, cap, m1, rfl, _⟩ := h4 ht
      obtain ⟨xs, o1, o2, o3, o4⟩ := hw.ob id _ h1
      have hln : len * es' ≤ n * es' := Nat.mul_le_mul_right es' (by omega)
      refine ⟨xs.take (len * es'), by omega, by rw [List.length_take, o1.1]; omega, ?_, fun i hi j hj => ?_⟩
      · rcases o1.2 with ⟨q1, q2⟩ | ⟨b, cap', cur, q1, _⟩
        · rw [m1] at q1
          simp only [Value.slice.injEq] at q1
          obtain ⟨rfl, _, rfl⟩ := q1
          have : len = 0 := by omega
          subst this
          exact .inl ⟨rfl, rfl⟩
        · rw [m1] at q1
          simp only [Value.slice.injEq, true_and] at q1
          obtain ⟨rfl, rfl⟩ := q1
          refine .inr ⟨⟨b, 0, none⟩, cap, rfl, fun j u hu => ?_⟩
          have := o1.cells (g := b) (by rw [m1]; rfl) j u (by
            rw [List.getElem?_take] at hu
            split at hu
            · exact hu
            · cases hu)
          exact this
      · obtain ⟨u, u1, u2⟩ := o3 i (by omega) j hj
        refine ⟨u, ?_, u2⟩
        have : i * es' + es' ≤ len * es' := by rw [← Nat.succ_mul]; exact Nat.mul_le_mul_right es' hi
        rw [List.getElem?_take, if_pos (by omega)]
        exact u1
  | _ => simp [srcK] at h

/-- append. -/
def appP (e : Nat) (te : TI) (H : List O) (x : C) (src : List Prop × Nat × (Nat → Nat → C)) : Option (List Prop × C × List O) :=
  match src with
  | (ns, m, g2) => match x with
    | .nils => some (ns ++ [m * te.bytes ≤ 140737488355328], .sl H.length te.size m m false, H ++ [.arr e te.size m g2])
    | .isl es n g tight => match Nat.beq es te.size with
      | true => some (ns ++ [tight = true, 1 ≤ m, n + m ≤ 9223372036854775807, (n + m) * te.bytes ≤ 140737488355328], .sl H.length te.size (n + m) (n + m) false, H ++ [.arr e te.size (n + m) (appG g n g2)])
      | false => none
    | .sl id es len tot _ => match Nat.beq es te.size with
      | true => match getL H id with
        | some (.arr e' _ n g) => match Nat.beq e' e with
          | true => match setL H id (.arr e te.size (n + m) (appG g n g2)) with
            | some H' => some (ns ++ [tot = n, len = n, n + m ≤ 9223372036854775807, (n + m) * te.bytes ≤ 140737488355328], .sl id te.size (n + m) (n + m) false, H')
            | none => none
          | false => none
        | _ => none
      | false => none
    | _ => none

def appK (e : Nat) (te : TI) (H : List O) (x y : C) : Option (List Prop × C × List O) :=
  match srcK te.size H y with
  | some src => appP e te H x src
  | none => none

/-- What is appended: a slice of the call's own from some element on. -/
def srcO (es : Nat) (H : List O) (id es' off len tot : Nat) : Option (List Prop × Nat × (Nat → Nat → C)) :=
  match Nat.beq es' es with
  | true => match getL H id with
    | some (.arr _ _ n g) => some ([tot = n], len, fun i j => g (off + i) j)
    | _ => none
  | false => none

def appSo (e : Nat) (te : TI) (H : List O) (x : C) (id es' off len tot : Nat) : Option (List Prop × C × List O) :=
  match srcO te.size H id es' off len tot with
  | some src => appP e te H x src
  | none => none

theorem srcO_ok {K : Keep} {F : Mem} {H : List O} {μ : Nat → Value} {w : World} (hw : HSat K F H μ w) {es id es' off len tot m : Nat} {g : Nat → Nat → C} {v : Value} {ns : List Prop}
    (hy : RepS F H μ (.so id es' off len tot) v) (h : srcO es H id es' off len tot = some (ns, m, g)) (hn : ∀ q ∈ ns, q) : ∃ news, Src F H μ w es m g v news := by
  simp only [srcO] at h
  cases hb : Nat.beq es' es with
  | false => simp [hb] at h
  | true =>
    have : es' = es := Nat.eq_of_beq_eq_true hb
    subst this
    obtain ⟨a, cap, rfl, ha, e, n, g', h1, h2, h3, h4⟩ := hy
    simp only [hb, h1, Option.some.injEq, Prod.mk.injEq] at h
    obtain ⟨rfl, rfl, rfl⟩ := h
    have ht : tot = n := hn _ (by simp)
    subst ht
    obtain ⟨xs, o1, o2, o3, o4⟩ := hw.ob id _ h1
    have hmul : (off + len) * es' ≤ tot * es' := Nat.mul_le_mul_right es' h3
    rw [Nat.add_mul] at hmul
    refine ⟨(xs.drop (off * es')).take (len * es'), by omega, by rw [List.length_take, List.length_drop, o1.1]; omega, ?_, fun i hi j hj => ?_⟩
    · by_cases hl : len = 0
      · subst hl
        cases a with
        | none => exact .inl ⟨by rw [ha rfl], rfl⟩
        | some a => exact .inr ⟨a, cap, rfl, fun j u hu => by simp at hu⟩
      · obtain ⟨b, c, m1, rfl⟩ := (h4 rfl).resolve_left hl
        refine .inr ⟨_, cap, rfl, fun j u hu => ?_⟩
        rw [List.getElem?_take] at hu
        split at hu
        · rw [List.getElem?_drop] at hu
          have := o1.cells (g := b) (by rw [m1]; rfl) _ u hu
          rw [add_at] at this ⊢
          simpa using this
        · cases hu
    · obtain ⟨u, u1, u2⟩ := o3 (off + i) (by omega) j hj
      refine ⟨u, ?_, u2⟩
      have : i * es' + es' ≤ len * es' := by rw [← Nat.succ_mul]; exact Nat.mul_le_mul_right es' hi
      rw [List.getElem?_take, if_pos (by omega), List.getElem?_drop]
      rw [Nat.add_mul] at u1
      rw [← Nat.add_assoc]
      exact u1

theorem zsize {P : Program} {t : Nat} {i : TI} (ht : TIok P t i) : ∃ x z, P.info? t = some x ∧ x.size = i.size ∧ x.bytes = i.bytes ∧ x.zero = some z ∧ z.cells.size = i.zero.length := by
  obtain ⟨x, h1, h2, h3, z, h4, h5⟩ := ht.info
  exact ⟨x, z, h1, h2, h3, h4, by rw [← Array.length_toList, h5]; simp⟩

theorem Z.toV_one (z : Z) : z.toV.oneCell' = true := by cases z <;> rfl
theorem zero_one {P : Program} {t : Nat} {i : TI} (ht : TIok P t i) {x : TypeInfo} {z : Value} (hx : P.info? t = some x) (hz : x.zero = some z) : ∀ u ∈ z.cells.toList, u.oneCell' = true := by
  obtain ⟨x', h1, h2, h3, z', h4, h5⟩ := ht.info
  rw [hx] at h1
  cases h1
  rw [hz] at h4
  cases h4
  rw [h5]
  intro u hu
  obtain ⟨q, _, rfl⟩ := List.mem_map.1 hu
  exact Z.toV_one q
theorem zeros_one {zs : Array Value} {n : Nat} (h : ∀ u ∈ zs.toList, u.oneCell' = true) : ∀ u ∈ (Builtin.zeroCells zs n).toList, u.oneCell' = true := by
  intro u hu
  simp only [Builtin.zeroCells, Array.toList_map, List.mem_map, Array.toList_range, List.mem_range] at hu
  obtain ⟨k, hk, rfl⟩ := hu
  have hp : 0 < zs.size := by
    rcases Nat.eq_zero_or_pos zs.size with q | q
    · rw [q] at hk; simp at hk
    · exact q
  have hm := Nat.mod_lt k hp
  rw [getElem!_pos zs (k % zs.size) hm]
  exact h _ (Array.getElem_mem_toList hm)
theorem app_one {a b : Array Value} (h : ∀ u ∈ a.toList, u.oneCell' = true) (k : ∀ u ∈ b.toList, u.oneCell' = true) : ∀ u ∈ (a ++ b).toList, u.oneCell' = true := by
  intro u hu
  rw [Array.toList_append] at hu
  exact (List.mem_append.1 hu).elim (h u) (k u)
theorem row_one {w : World} {e es n : Nat} {v : Value} {xs : List Value} (ho : w.ownsRow 0 e es v n xs) (h : Sp w v) : ∀ u ∈ xs, u.oneCell' = true := by
  rcases ho.2 with ⟨rfl, rfl⟩ | ⟨b, cap, cur, rfl, _, q3, q4, q5, q6, q7⟩
  · have : xs = [] := List.eq_nil_of_length_eq_zero (by rw [ho.1]; simp)
    subst this; simp
  · intro u hu
    rw [← q7] at hu
    exact h b cur e (0, 0) rfl q3 u (List.mem_of_mem_take hu)
theorem getD_list {α : Type} (l : List α) (i : Nat) (h : i < l.length) : l[i]? = some l[i] := List.getElem?_eq_getElem h

theorem run_append_new {P : Program} {w : World} {t ty e : TypeId} {x : TypeInfo} {z : Value} (ht : P.underlying t = some (.slice e)) (hi : P.info? e = some x) (hz : x.zero = some z) (base : Option Addr) (n cap m : Nat) (v : Value) (hv : ∃ a c, v = .slice a m c)
    (old news : List Value) (ho : (Builtin.firstCells x.size n (.slice base n cap)).run P w.drew = .ok old.toArray w.drew) (hnw : (Builtin.firstCells x.size m v).run P w.drew = .ok news.toArray w.drew)
    (hgrow : cap < n + m) (h63 : n + m ≤ 9223372036854775807) (hb : (n + m) * x.bytes ≤ 140737488355328) :
    (Builtin.append_ #[t, t] ty #[.slice base n cap, v]).run P w =
      .ok (.slice (some ⟨w.heap.size, 0, none⟩) (n + m) (grownCap w (n + m) cap e)) (w.drew.alloc (.cells (old.toArray ++ news.toArray ++ Builtin.zeroCells z.cells (grownCap w (n + m) cap e - (n + m))) e)) := by
  obtain ⟨a, c, rfl⟩ := hv
  have hne : ¬ (n + m ≤ cap) := by omega
  have hq : Builtin.nextslicecap (n + m) cap * x.bytes ≤ 281474976710656 := by
    have h1 := nextslicecap_le hgrow
    have h2 : Builtin.nextslicecap (n + m) cap * x.bytes ≤ 2 * (n + m) * x.bytes := Nat.mul_le_mul_right _ h1
    rw [Nat.mul_assoc] at h2
    omega
  have h48' : ¬ (281474976710656 < Builtin.nextslicecap (n + m) cap * x.bytes) := by omega
  have h63'' : ¬ (9223372036854775807 < (n : Int) + (m : Int)) := by omega
  simp [Builtin.append_, run_underlying ht, sizeOf, typeInfo, zeroValue, hi, hz, Builtin.lenOf, hne, h63'', h48', ho, hnw, Question.forced, newRow, grownCap]
  congr 2
  rw [← Array.append_assoc]
  simp

set_option maxHeartbeats 2000000 in
theorem appP_ok {P : Program} {K : Keep} {F : Mem} {H H' : List O} {μ : Nat → Value} {w : World} (hw : HSat K F H μ w) {t e ty : Nat} {te : TI} (hu : P.underlying t = some (.slice e)) (hte : TIok P e te) (hzl : te.zero.length = te.size) (hpos : 0 < te.size)
    {x c : C} {u v : Value} {ns ns' : List Prop} {m : Nat} {g2 : Nat → Nat → C} (hx : RepC F H μ x u) (hsrc : (∀ q ∈ ns', q) → ∃ news, Src F H μ w te.size m g2 v news) (h : appP e te H x (ns', m, g2) = some (ns, c, H')) (hn : ∀ q ∈ ns, q) :
    ∃ r w' μ', (Builtin.append_ #[t, t] ty #[u, v]).run P w = .ok r w' ∧ HSat K F H' μ' w' ∧ Ext H μ H' μ' ∧ RepC F H' μ' c r := by
    simp only [appP] at h
    obtain ⟨xi, z, i1, i2, i3, i4, i5⟩ := zsize hte
    have hzs : z.cells.size = te.size := by rw [i5, hzl]
    -- what an append to something of the call's own gives
    have own : ∀ (id n : Nat) (g : Nat → Nat → C) (old : List Value) (vv : Value) (H'' : List O), w.ownsRow 0 e te.size vv n old → Sp w vv → n ≤ maxLen →
        (∀ i, i < n → ∀ j, j < te.size → ∃ u, old[i * te.size + j]? = some u ∧ RepC F H μ (g i j) u) → n + m ≤ 9223372036854775807 → (n + m) * te.bytes ≤ 140737488355328 →
        (∀ q ∈ ns', q) → getL H'' id = some (.arr e te.size (n + m) (appG g n g2)) → (∀ i, i ≠ id → getL H'' i = getL H i) →
        (∀ v', (m = 0 → v' = vv) → Ext H μ H'' (upd μ id v')) → (∀ k, vv.ownBlock = some k → owned H μ id k) →
        ∃ r w' μ', (Builtin.append_ #[t, t] ty #[vv, v]).run P w = .ok r w' ∧ HSat K F H'' μ' w' ∧ Ext H μ H'' μ' ∧ RepC F H'' μ' (.sl id te.size (n + m) (n + m) false) r := by
      intro id n g old vv H'' hown hsp hnm hrep h63 hby hns hid hoth hE hob
      obtain ⟨news, hs⟩ := hsrc hns
      have key : ∃ v' w', (Builtin.append_ #[t, t] ty #[vv, v]).run P w = .ok v' w' ∧ w'.ownsRow 0 e te.size v' (n + m) (old ++ news) ∧ w.grownBy w' vv.ownBlock ∧ (m = 0 → v' = vv) ∧ (∀ b, blk v' = some b → vv.ownBlock = some b ∨ w.heap.size ≤ b) ∧ Sp w' v' := by
        rcases hs.val with ⟨rfl, rfl⟩ | ⟨a, cc, rfl, hc⟩
        · have hnew : news = [] := List.eq_nil_of_length_eq_zero (by rw [hs.len]; simp)
          subst hnew
          refine ⟨vv, w, ?_, by simpa using hown, ⟨rfl, rfl, rfl, Nat.le_refl _, fun _ _ _ => rfl⟩, fun _ => rfl, fun b hb => .inl ?_, hsp⟩
          · exact run_append_owned_none (P := P) (w := w) 0 t ty e xi te.size hu i1 vv n old hown
          · rcases hown.2 with ⟨rfl, _⟩ | ⟨_, _, _, rfl, _⟩
            · cases hb
            · exact hb
        · obtain ⟨v', w', r1, r2, r3, r4⟩ := run_append_own (P := P) w 0 t ty e xi z te.size te.bytes hu i1 i4 i2 i3 hzs hpos vv n old hown a m cc news hs.len hc hs.one (by unfold maxLen; omega) (by omega) (Nat.zero_le _)
          refine ⟨v', w', r1, r2, r3, ?_, ?_, ?_⟩
          · intro hm
            subst hm
            rcases hown.2 with ⟨rfl, rfl⟩ | ⟨b, cap, cur, rfl, _, q3, q4, q5, q6, q7⟩
            · exact r4.2 ⟨rfl, rfl⟩
            · have : (Builtin.append_ #[t, t] ty #[.slice (some ⟨b, 0, none⟩) n cap, .slice (some a) 0 cc]).run P w = .ok (.slice (some ⟨b, 0, none⟩) (n + 0) cap) (w.setRow b (cur.toList.take (n * xi.size) ++ news ++ cur.toList.drop (n * xi.size + news.length)).toArray) :=
                run_append_room (P := P) w t ty e xi hu i1 b n cap cur q3 a 0 cc news (by rw [hs.len, i2]) hc hs.one (by omega) (by
                  rw [hs.len, i2, q6]
                  have := Nat.mul_le_mul_right te.size q4
                  omega)
              rw [this] at r1
              cases r1
              rfl
          · intro b hb
            rcases hown.2 with ⟨rfl, rfl⟩ | ⟨b', cap, cur, rfl, _, q3, q4, q5, q6, q7⟩
            · by_cases hm : m = 0
              · have := r4.2 ⟨rfl, hm⟩
                rw [this] at hb; cases hb
              · right
                have := run_append_nil (P := P) w t ty e xi z hu i1 i4 a m cc news (by rw [hs.len, i2]) hc (by omega) (by omega) (by rw [i3]; rw [Nat.zero_add] at hby; omega)
                rw [this] at r1
                cases r1
                cases hb
                exact Nat.le_refl _
            · by_cases hroom : n + m ≤ cap
              · left
                have : (Builtin.append_ #[t, t] ty #[.slice (some ⟨b', 0, none⟩) n cap, .slice (some a) m cc]).run P w = .ok (.slice (some ⟨b', 0, none⟩) (n + m) cap) (w.setRow b' (cur.toList.take (n * xi.size) ++ news ++ cur.toList.drop (n * xi.size + news.length)).toArray) :=
                  run_append_room (P := P) w t ty e xi hu i1 b' n cap cur q3 a m cc news (by rw [hs.len, i2]) hc hs.one hroom (by
                    rw [hs.len, i2, q6, ← Nat.add_mul]
                    exact Nat.mul_le_mul_right te.size hroom)
                rw [this] at r1
                cases r1
                cases hb
                rfl
              · right
                have hf1 : (Builtin.firstCells xi.size n (.slice (some ⟨b', 0, none⟩) n cap)).run P w.drew = .ok old.toArray w.drew := by
                  refine run_firstCells_some w.drew xi.size n ⟨b', 0, none⟩ n cap old (by rw [hown.1, i2]) (fun j u hu => ?_)
                  exact hown.cells (g := b') rfl j u hu
                have hf2 : (Builtin.firstCells xi.size m (.slice (some a) m cc)).run P w.drew = .ok news.toArray w.drew :=
                  run_firstCells_some w.drew xi.size m a m cc news (by rw [hs.len, i2]) (fun j u hu => hc j u hu)
                have := run_append_new (P := P) (w := w) (ty := ty) hu i1 i4 (some ⟨b', 0, none⟩) n cap m (.slice (some a) m cc) ⟨_, _, rfl⟩ old news hf1 hf2 (by omega) (by omega) (by rw [i3]; exact hby)
                rw [this] at r1
                cases r1
                cases hb
                exact Nat.le_refl _
          · have hz1 := zero_one hte i1 i4
            rcases hown.2 with ⟨rfl, rfl⟩ | ⟨b', cap, cur, rfl, _, q3, q4, q5, q6, q7⟩
            · by_cases hm : m = 0
              · rw [r4.2 ⟨rfl, hm⟩]; exact Sp.none rfl
              · have := run_append_nil (P := P) w t ty e xi z hu i1 i4 a m cc news (by rw [hs.len, i2]) hc (by omega) (by omega) (by rw [i3]; rw [Nat.zero_add] at hby; omega)
                rw [this] at r1
                cases r1
                exact Sp.of rfl (heap_alloc_new w.drew _) (app_one (by simpa using hs.one) (zeros_one hz1))
            · by_cases hroom : n + m ≤ cap
              · have := run_append_room (P := P) w t ty e xi hu i1 b' n cap cur q3 a m cc news (by rw [hs.len, i2]) hc hs.one hroom (by
                  rw [hs.len, i2, q6, ← Nat.add_mul]
                  exact Nat.mul_le_mul_right te.size hroom)
                rw [this] at r1
                cases r1
                exact Sp.of rfl (setRow_heap w b' cur _ e (0, 0) q3) (by simpa using one_mid (o := n * xi.size) (k := n * xi.size + news.length) (hsp b' cur e (0, 0) rfl q3) hs.one)
              · have hf1 : (Builtin.firstCells xi.size n (.slice (some ⟨b', 0, none⟩) n cap)).run P w.drew = .ok old.toArray w.drew := by
                  refine run_firstCells_some w.drew xi.size n ⟨b', 0, none⟩ n cap old (by rw [hown.1, i2]) (fun j u hu => ?_)
                  exact hown.cells (g := b') rfl j u hu
                have hf2 : (Builtin.firstCells xi.size m (.slice (some a) m cc)).run P w.drew = .ok news.toArray w.drew :=
                  run_firstCells_some w.drew xi.size m a m cc news (by rw [hs.len, i2]) (fun j u hu => hc j u hu)
                have := run_append_new (P := P) (w := w) (ty := ty) hu i1 i4 (some ⟨b', 0, none⟩) n cap m (.slice (some a) m cc) ⟨_, _, rfl⟩ old news hf1 hf2 (by omega) (by omega) (by rw [i3]; exact hby)
                rw [this] at r1
                cases r1
                exact Sp.of rfl (heap_alloc_new w.drew _) (app_one (app_one (by simpa using row_one hown hsp) (by simpa using hs.one)) (zeros_one hz1))
      obtain ⟨v', w', r1, r2, r3, r4, r5, r6⟩ := key
      have hE' := hE v' r4
      have hsat := hw.step id _ v' hid hoth hE' r3 hob (fun b hb => (r5 b hb).imp (hob b) fun q => q) (show OSat F H'' (upd μ id v') w' id (.arr e te.size (n + m) (appG g n g2)) from by
        refine ⟨old ++ news, by simp only [upd, if_true]; exact r2, by unfold maxLen; omega, fun i hi j hj => ?_, by simp only [upd, if_true]; exact r6⟩
        by_cases c : i < n
        · obtain ⟨u, u1, u2⟩ := hrep i c j hj
          have : i * te.size + te.size ≤ n * te.size := by rw [← Nat.succ_mul]; exact Nat.mul_le_mul_right _ c
          refine ⟨u, ?_, by simp only [appG, if_pos c]; exact RepC.mono (Mem.le_refl F) hE' _ _ u2⟩
          rw [List.getElem?_append_left (by rw [hown.1]; omega)]
          exact u1
        · obtain ⟨u, u1, u2⟩ := hs.rep (i - n) (by omega) j hj
          refine ⟨u, ?_, by simp only [appG, if_neg c]; exact RepC.mono (Mem.le_refl F) hE' _ _ u2⟩
          have : n * te.size ≤ i * te.size := Nat.mul_le_mul_right _ (by omega)
          rw [List.getElem?_append_right (by rw [hown.1]; omega), hown.1]
          rw [show i * te.size + j - n * te.size = (i - n) * te.size + j by rw [Nat.sub_mul]; omega]
          exact u1)
      refine ⟨v', w', _, r1, hsat, hE', ?_, e, n + m, _, hid, Nat.le_refl _, Nat.le_refl _, fun _ => ?_⟩
      · rcases r2.2 with ⟨rfl, _⟩ | ⟨_, _, _, rfl, _⟩ <;> rfl
      · rcases r2.2 with ⟨rfl, q⟩ | ⟨b, cap, _, rfl, _⟩
        · exact ⟨none, 0, by simp [upd, q], by simp [q], fun e => by cases e⟩
        · exact ⟨some ⟨b, 0, none⟩, cap, by simp [upd], rfl, fun e => by cases e⟩
    cases x with
    | nils =>
      simp only [Option.some.injEq, Prod.mk.injEq] at h
      obtain ⟨rfl, rfl, rfl⟩ := h
      rw [show u = _ from hx]
      obtain ⟨news, hs⟩ := hsrc (all_left hn)
      have hm := hs.le
      have hg2 : appG (fun _ _ => C.junk) 0 g2 = g2 := by funext i j; simp [appG]
      have := own H.length 0 (fun _ _ => .junk) [] (.slice none 0 0) (H ++ [.arr e te.size m g2]) (World.ownsRow_nil w 0 e te.size) (Sp.none rfl) (Nat.zero_le _) (fun i hi => by omega) (by unfold maxLen at hm; omega) (by rw [Nat.zero_add]; exact all_right hn _ (by simp)) (all_left hn)
        (by rw [Nat.zero_add, hg2]; exact getL_append_eq _ _) (fun i hi => getL_append_lt _ _ _ hi) (fun v' _ => Ext.push H μ _ v') (fun k hk => by cases hk)
      simpa using this
    | isl es n g tight =>
      simp only at h
      cases hb : Nat.beq es te.size with
      | false => simp [hb] at h
      | true =>
        have : es = te.size := Nat.eq_of_beq_eq_true hb
        subst this
        simp only [hb, Option.some.injEq, Prod.mk.injEq] at h
        obtain ⟨rfl, rfl, rfl⟩ := h
        have c1 : tight = true := all_right hn _ (by simp)
        have c2 : 1 ≤ m := all_right hn _ (by simp)
        have c3 : n + m ≤ 9223372036854775807 := all_right hn _ (by simp)
        have c4 : (n + m) * te.bytes ≤ 140737488355328 := all_right hn _ (by simp)
        obtain ⟨news, hs⟩ := hsrc (all_left hn)
        obtain ⟨olds, hos⟩ := srcK_ok hw (y := .isl te.size n g tight) (es := te.size) (ns := []) (m := n) (g := g) hx (by simp [srcK]) (by simp)
        obtain ⟨a, cap, rfl, q1, q2, q3, q3', q4⟩ := hx
        have hcap := q3 c1
        subst hcap
        have hf1 := hos.first P w.drew (fun _ => rfl) cap (Nat.le_refl _)
        have hf2 := hs.first P w.drew (fun _ => rfl) m (Nat.le_refl _)
        rw [List.take_of_length_le (by rw [hos.len]; exact Nat.le_refl _)] at hf1
        rw [List.take_of_length_le (by rw [hs.len]; exact Nat.le_refl _)] at hf2
        have hv : ∃ a c, v = .slice a m c := by
          rcases hs.val with ⟨rfl, rfl⟩ | ⟨a, c, rfl, _⟩
          · exact ⟨none, 0, rfl⟩
          · exact ⟨_, _, rfl⟩
        have run := run_append_new (P := P) (w := w) (ty := ty) hu i1 i4 a cap cap m v hv olds news (by rw [i2]; exact hf1) (by rw [i2]; exact hf2) (by omega) c3 (by rw [i3]; exact c4)
        have hge := grownCap_ge w (cap + m) cap e
        have hcm : grownCap w (cap + m) cap e ≤ maxLen := grownCap_le_maxLen w (cap + m) cap e (by unfold maxLen; omega)
        have hE := Ext.push H μ (.arr e te.size (cap + m) (appG g cap g2)) (.slice (some ⟨w.heap.size, 0, none⟩) (cap + m) (grownCap w (cap + m) cap e))
        refine ⟨_, _, _, run, hw.push _ _ ⟨rfl, rfl, rfl, by simp, fun k hk _ => heap_alloc_old w.drew _ k hk⟩ (fun b hb => by cases hb; exact Nat.le_refl _) ?_, hE, rfl, e, cap + m, _, getL_append_eq _ _, Nat.le_refl _, Nat.le_refl _, fun _ => ⟨_, _, by simp [upd], rfl, fun e => by cases e⟩⟩
        refine ⟨olds ++ news, ⟨by rw [List.length_append, hos.len, hs.len, Nat.add_mul], .inr ⟨w.heap.size, grownCap w (cap + m) cap e, _, by simp [upd], Nat.zero_le _, heap_alloc_new w.drew _, hge, hcm, ?_, ?_⟩⟩, by unfold maxLen; omega, fun i hi j hj => ?_, Sp.of (b := w.heap.size) (by simp [upd, blk]) (heap_alloc_new w.drew _) (app_one (app_one (by simpa using hos.one) (by simpa using hs.one)) (zeros_one (zero_one hte i1 i4)))⟩
        · simp only [Array.size_append, List.size_toArray, size_zeroCells, hzs, hos.len, hs.len, ← Nat.add_mul]
          congr 1
          omega
        · simp only [Array.toList_append, List.append_assoc]
          rw [← List.append_assoc]
          exact List.take_left' (by rw [List.length_append, hos.len, hs.len, Nat.add_mul])
        · by_cases c : i < cap
          · obtain ⟨u, u1, u2⟩ := hos.rep i c j hj
            have : i * te.size + te.size ≤ cap * te.size := by rw [← Nat.succ_mul]; exact Nat.mul_le_mul_right _ c
            refine ⟨u, ?_, by simp only [appG, if_pos c]; exact RepC.mono (Mem.le_refl F) hE _ _ u2⟩
            rw [List.getElem?_append_left (by rw [hos.len]; omega)]
            exact u1
          · obtain ⟨u, u1, u2⟩ := hs.rep (i - cap) (by omega) j hj
            refine ⟨u, ?_, by simp only [appG, if_neg c]; exact RepC.mono (Mem.le_refl F) hE _ _ u2⟩
            have : cap * te.size ≤ i * te.size := Nat.mul_le_mul_right _ (by omega)
            rw [List.getElem?_append_right (by rw [hos.len]; omega), hos.len]
            rw [show i * te.size + j - cap * te.size = (i - cap) * te.size + j by rw [Nat.sub_mul]; omega]
            exact u1
    | sl id es len tot xq =>
      simp only at h
      cases hb : Nat.beq es te.size with
      | false => simp [hb] at h
      | true =>
        have : es = te.size := Nat.eq_of_beq_eq_true hb
        subst this
        obtain ⟨_, e', n, g, h1, h2, h3, h4⟩ := hx
        simp only [hb, h1] at h
        cases hbe : Nat.beq e' e with
        | false => simp [hbe] at h
        | true =>
          have : e' = e := Nat.eq_of_beq_eq_true hbe
          subst this
          cases hset : setL H id (.arr e' te.size (n + m) (appG g n g2)) with
          | none => simp [hset] at h
          | some H'' =>
            simp only [hbe, hset, Option.some.injEq, Prod.mk.injEq] at h
            obtain ⟨rfl, rfl, rfl⟩ := h
            have c1 : tot = n := all_right hn _ (by simp)
            have c2 : len = n := all_right hn _ (by simp)
            have c3 : n + m ≤ 9223372036854775807 := all_right hn _ (by simp)
            have c4 : (n + m) * te.bytes ≤ 140737488355328 := all_right hn _ (by simp)
            obtain ⟨a, cap, m1, rfl, _⟩ := h4 c1
            subst c2
            obtain ⟨xs, o1, o2, o3, o4⟩ := hw.ob id _ h1
            obtain ⟨e1, e2⟩ := getL_set hset
            rw [← m1]
            refine own id len g xs (μ id) H'' o1 o4 o2 o3 c3 c4 (all_left hn) e1 e2 ?_ ?_
            · intro v' hv'
              refine ⟨fun id' cs hc => ?_, fun id' e0 es0 n0 g0 hc => ?_, fun id' sh z va ks val hc => ?_⟩
              · have hne : id' ≠ id := fun ee => by subst ee; rw [h1] at hc; cases hc
                exact ⟨⟨cs, by rw [e2 id' hne]; exact hc⟩, by simp [upd, hne]⟩
              · by_cases ee : id' = id
                · subst ee
                  rw [h1] at hc
                  cases hc
                  exact ⟨_, _, e1, by omega, fun q => by simp only [upd, if_true]; exact hv' (by omega)⟩
                · exact ⟨n0, g0, by rw [e2 id' ee]; exact hc, Nat.le_refl _, fun _ => by simp [upd, ee]⟩
              · have hne : id' ≠ id := fun ee => by subst ee; rw [h1] at hc; cases hc
                exact ⟨⟨ks, val, by rw [e2 id' hne]; exact hc⟩, by simp [upd, hne]⟩
            · intro k hk
              refine ⟨⟨_, h1, by simp⟩, ?_⟩
              rw [m1] at hk ⊢
              cases a with
              | none => cases hk
              | some a => exact hk
    | _ => simp at h

theorem appK_ok {P : Program} {K : Keep} {F : Mem} {H H' : List O} {μ : Nat → Value} {w : World} (hw : HSat K F H μ w) {t e ty : Nat} {te : TI} (hu : P.underlying t = some (.slice e)) (hte : TIok P e te) (hzl : te.zero.length = te.size) (hpos : 0 < te.size)
    {x y c : C} {u v : Value} {ns : List Prop} (hx : RepC F H μ x u) (hy : RepC F H μ y v) (h : appK e te H x y = some (ns, c, H')) (hn : ∀ q ∈ ns, q) :
    ∃ r w' μ', (Builtin.append_ #[t, t] ty #[u, v]).run P w = .ok r w' ∧ HSat K F H' μ' w' ∧ Ext H μ H' μ' ∧ RepC F H' μ' c r := by
  unfold appK at h
  cases hsrc : srcK te.size H y with
  | none => simp [hsrc] at h
  | some p =>
    obtain ⟨ns', m, g2⟩ := p
    rw [hsrc] at h
    exact appP_ok hw hu hte hzl hpos hx (fun hq => srcK_ok hw hy hsrc hq) h hn

theorem appSo_ok {P : Program} {K : Keep} {F : Mem} {H H' : List O} {μ : Nat → Value} {w : World} (hw : HSat K F H μ w) {t e ty : Nat} {te : TI} (hu : P.underlying t = some (.slice e)) (hte : TIok P e te) (hzl : te.zero.length = te.size) (hpos : 0 < te.size)
    {x c : C} {id es' off len tot : Nat} {u v : Value} {ns : List Prop} (hx : RepC F H μ x u) (hy : RepS F H μ (.so id es' off len tot) v) (h : appSo e te H x id es' off len tot = some (ns, c, H')) (hn : ∀ q ∈ ns, q) :
    ∃ r w' μ', (Builtin.append_ #[t, t] ty #[u, v]).run P w = .ok r w' ∧ HSat K F H' μ' w' ∧ Ext H μ H' μ' ∧ RepC F H' μ' c r := by
  unfold appSo at h
  cases hsrc : srcO te.size H id es' off len tot with
  | none => simp [hsrc] at h
  | some p =>
    obtain ⟨ns', m, g2⟩ := p
    rw [hsrc] at h
    exact appP_ok hw hu hte hzl hpos hx (fun hq => srcO_ok hw hy hsrc hq) h hn

end Go.Am
end

section
/- THE ABSTRACT MACHINE, PART 10: make, copy, slice literals. -/
namespace Go.Am

def makeK (e : Nat) (te : TI) (H : List O) (l c : Int) (x : Bool) : List Prop × C × List O :=
  ([0 ≤ l, l ≤ c, c * te.bytes ≤ 140737488355328, c ≤ 9223372036854775807, x = true → l = c], .sl H.length te.size l.toNat l.toNat x, H ++ [.arr e te.size l.toNat (zeroG (zeroL te))])

theorem mod_lt_self {es : Nat} (i j : Nat) (hj : j < es) : (i * es + j) % es = j := by
  rw [Nat.add_comm, Nat.mul_comm, Nat.add_mul_mod_self_left]; exact Nat.mod_eq_of_lt hj

theorem repL_one {F : Mem} {H : List O} {μ : Nat → Value} {xs : List C} {cs : Array Value} (h : RepL F H μ xs cs) : ∀ u ∈ cs.toList, u.oneCell' = true := by
  intro u hu
  obtain ⟨j, hj, rfl⟩ := List.getElem_of_mem hu
  have hj' : j < xs.length := by rw [← h.1]; simpa using hj
  obtain ⟨v, v1, v2⟩ := h.2 j xs[j] (by rw [getL_eq]; simp [hj'])
  have : v = cs.toList[j] := by
    rw [← Array.getElem?_toList, List.getElem?_eq_getElem hj] at v1
    exact (Option.some.inj v1).symm
  rw [← this]
  exact RepC.one _ _ v2
theorem made_one {zs : Array Value} {n : Nat} (hp : 0 < zs.size ∨ n = 0) (h : ∀ u ∈ zs.toList, u.oneCell' = true) : ∀ u ∈ (madeCells zs n).toList, u.oneCell' = true := by
  intro u hu
  simp only [madeCells, Array.toList_map, List.mem_map, Array.toList_range, List.mem_range] at hu
  obtain ⟨k, hk, rfl⟩ := hu
  have hp : 0 < zs.size := hp.resolve_right (by omega)
  have hm := Nat.mod_lt k hp
  rw [getElem!_pos zs (k % zs.size) hm]
  exact h _ (Array.getElem_mem_toList hm)

theorem makeK_ok {P : Program} {K : Keep} {F : Mem} {H : List O} {μ : Nat → Value} {w : World} (hw : HSat K F H μ w) {t e : Nat} {te : TI} (hu : P.underlying t = some (.slice e)) (hte : TIok P e te) (hzl : te.zero.length = te.size)
    {l c : Int} {xq : Bool} {kl kc : IntKind} (hn : ∀ q ∈ (makeK e te H l c xq).1, q) :
    ∃ r w' μ', (Instr.makeSlice t (.int kl l) (.int kc c)).run P w = .ok r w' ∧ HSat K F (makeK e te H l c xq).2.2 μ' w' ∧ Ext H μ (makeK e te H l c xq).2.2 μ' ∧ RepC F (makeK e te H l c xq).2.2 μ' (makeK e te H l c xq).2.1 r := by
  have c0 : 0 ≤ l := hn _ (by simp [makeK])
  have c1 : l ≤ c := hn _ (by simp [makeK])
  have c2 : c * te.bytes ≤ 140737488355328 := hn _ (by simp [makeK])
  have c3 : c ≤ 9223372036854775807 := hn _ (by simp [makeK])
  have c4 : xq = true → l = c := hn (xq = true → l = c) (by simp only [makeK, List.mem_cons]; simp)
  obtain ⟨z, _, z2, x, x1, x2⟩ := zeroL_ok (P := P) (F := F) (H := H) (μ := μ) hte w
  obtain ⟨x', i1, i2, i3, _⟩ := hte.info
  rw [x1] at i1
  cases i1
  have hzs : z.cells.size = te.size := by rw [z2.1]; simp [zeroL, hzl]
  have run := run_make (P := P) w t e x z hu x1 x2 kl kc l c c0 c1 (by rw [i3]; rw [Int.mul_comm]; omega) c3
  have hE := Ext.push H μ (.arr e te.size l.toNat (zeroG (zeroL te))) (.slice (some ⟨w.heap.size, 0, none⟩) l.toNat c.toNat)
  refine ⟨_, _, upd μ H.length (.slice (some ⟨w.heap.size, 0, none⟩) l.toNat c.toNat), run, hw.push _ _ (World.grownBy_alloc w _ none) (fun b hb => by cases hb; exact Nat.le_refl _) ?_, hE, rfl, e, l.toNat, _, getL_append_eq _ _, Nat.le_refl _, Nat.le_refl _, fun _ => ⟨_, _, by simp [upd], rfl, fun e => by rw [c4 e]⟩⟩
  have hlc : l.toNat ≤ c.toNat := by omega
  have hmul : l.toNat * te.size ≤ c.toNat * te.size := Nat.mul_le_mul_right _ hlc
  have hmo : ∀ u ∈ (madeCells z.cells (c.toNat * x.size)).toList, u.oneCell' = true := by
    refine made_one ?_ (repL_one z2)
    rw [hzs, i2]
    rcases Nat.eq_zero_or_pos te.size with q | q
    · exact .inr (by rw [q]; rfl)
    · exact .inl q
  refine ⟨(madeCells z.cells (c.toNat * x.size)).toList.take (l.toNat * te.size), ⟨?_, .inr ⟨w.heap.size, c.toNat, madeCells z.cells (c.toNat * x.size), by simp [upd], Nat.zero_le _, heap_alloc_new w _, hlc, by unfold maxLen; omega, by rw [size_madeCells, i2], rfl⟩⟩, by unfold maxLen; omega, fun i hi j hj => ?_, Sp.of (b := w.heap.size) (by simp [upd, blk]) (heap_alloc_new w _) hmo⟩
  · rw [List.length_take, Array.length_toList, size_madeCells, i2]; omega
  · have hlt : i * te.size + te.size ≤ l.toNat * te.size := by rw [← Nat.succ_mul]; exact Nat.mul_le_mul_right _ hi
    have hj' : j < (zeroL te).length := by simp [zeroL, hzl, hj]
    obtain ⟨u, u1, u2⟩ := z2.2 j (zeroL te)[j] (by rw [getL_eq]; simp [hj'])
    refine ⟨u, ?_, ?_⟩
    · rw [List.getElem?_take, if_pos (by omega)]
      simp only [madeCells, i2]
      have hq : i * te.size + j < c.toNat * te.size := by omega
      rw [Array.getElem?_toList, Array.getElem?_map, Array.getElem?_range, if_pos hq]
      simp only [Option.map_some, hzs, mod_lt_self i j hj]
      have hjz : j < z.cells.size := by omega
      rw [getElem!_pos z.cells j hjz]
      rw [Array.getElem?_eq_getElem hjz] at u1
      exact u1
    · simp only [zeroG, lget, getL_eq]
      rw [List.getElem?_eq_getElem hj']
      exact RepC.mono (Mem.le_refl F) hE _ _ u2

/-- copy. -/
def copyK (te : TI) (H : List O) (x y : C) : Option (List Prop × C × List O) :=
  match srcK te.size H y with
  | some (ns, m, g2) => match x with
    | .sl id es len tot _ => match Nat.beq es te.size with
      | true => match getL H id with
        | some (.arr e _ n g) => match setL H id (.arr e te.size n (copyG g (min m len) g2)) with
          | some H' => some (ns ++ [tot = n], .int .i64 (min m len : Nat), H')
          | none => none
        | _ => none
      | false => none
    | _ => none
  | none => none

theorem copyK_ok {P : Program} {K : Keep} {F : Mem} {H H' : List O} {μ : Nat → Value} {w : World} (hw : HSat K F H μ w) {t t2 e ty : Nat} {te : TI} (hu : P.underlying t = some (.slice e)) (hte : TIok P e te)
    {x y c : C} {u v : Value} {ns : List Prop} (hx : RepC F H μ x u) (hy : RepC F H μ y v) (h : copyK te H x y = some (ns, c, H')) (hn : ∀ q ∈ ns, q) :
    ∃ r w', (Builtin.copy_ #[t, t2] ty #[u, v]).run P w = .ok r w' ∧ HSat K F H' μ w' ∧ Ext H μ H' μ ∧ RepC F H' μ c r := by
  unfold copyK at h
  cases hsrc : srcK te.size H y with
  | none => simp [hsrc] at h
  | some p =>
    obtain ⟨ns', m, g2⟩ := p
    simp only [hsrc] at h
    cases x with
    | sl id es len tot xq =>
      simp only at h
      cases hb : Nat.beq es te.size with
      | false => simp [hb] at h
      | true =>
        have : es = te.size := Nat.eq_of_beq_eq_true hb
        subst this
        obtain ⟨_, e', n, g, h1, h2, h3, h4⟩ := hx
        simp only [hb, h1] at h
        cases hset : setL H id (.arr e' te.size n (copyG g (min m len) g2)) with
        | none => simp [hset] at h
        | some H'' =>
          simp only [hset, Option.some.injEq, Prod.mk.injEq] at h
          obtain ⟨rfl, rfl, rfl⟩ := h
          have c1 : tot = n := all_right hn _ (by simp)
          obtain ⟨news, hs⟩ := srcK_ok hw hy hsrc (all_left hn)
          obtain ⟨a, cap, m1, rfl, _⟩ := h4 c1
          obtain ⟨e1, e2⟩ := getL_set hset
          obtain ⟨xs, o1, o2, o3, o4⟩ := hw.ob id _ h1
          have hE : Ext H μ H'' μ := ext_same (fun id' o ho => by
            by_cases ee : id' = id
            · subst ee
              rw [h1] at ho
              cases ho
              exact ⟨_, e1⟩
            · rw [← e2 id' ee] at ho
              cases o with
              | vr c' => exact ⟨c', ho⟩
              | arr e es n g => exact ⟨g, ho⟩
              | dead => trivial
              | mp sh z va ks val => exact ⟨ks, val, ho⟩)
          have hf := hs.first P w (fun _ => rfl) (min m len) (Nat.min_le_left _ _)
          have hsz := sizeOf_ok hte w
          have hlen : (Builtin.lenOf v).run P w = .ok m w := by
            rcases hs.val with ⟨rfl, rfl⟩ | ⟨a, c, rfl, _⟩ <;> simp [Builtin.lenOf]
          have hmin : Nat.min m len = min m len := rfl
          have hcl : (news.take (min m len * te.size)).length = min m len * te.size := by
            rw [List.length_take, hs.len]; exact Nat.min_eq_left (Nat.mul_le_mul_right _ (Nat.min_le_left _ _))
          rcases o1.2 with ⟨q1, q2⟩ | ⟨b, cap', cur, q1, q2, q3, q4, q5, q6, q7⟩
          · rw [m1] at q1
            simp only [Value.slice.injEq] at q1
            obtain ⟨rfl, _, rfl⟩ := q1
            have hl0 : len = 0 := by omega
            subst hl0
            refine ⟨goInt (min m 0 : Nat), w, ?_, ?_, hE, rfl⟩
            · have hf0 := hs.first P w (fun _ => rfl) 0 (Nat.zero_le _)
              simp at hf0
              simp [Builtin.copy_, run_underlying hu, hlen, hsz, hf0]
            · have := hw.step id _ (μ id) (w' := w) (row := none) e1 e2 (by rw [upd_self]; exact hE) ⟨rfl, rfl, rfl, Nat.le_refl _, fun _ _ _ => rfl⟩ (fun k hk => by cases hk) (fun k ee => .inl ⟨⟨_, h1, by simp⟩, ee⟩) (by
                rw [upd_self]
                exact ⟨xs, o1, o2, fun i hi => by omega, o4⟩)
              simpa [upd_self] using this
          · rw [m1] at q1
            simp only [Value.slice.injEq, true_and] at q1
            obtain ⟨rfl, rfl⟩ := q1
            have hle : min m len * te.size ≤ n * te.size := Nat.mul_le_mul_right _ (by omega)
            have hnc : n * te.size ≤ cap * te.size := Nat.mul_le_mul_right _ q4
            have hfit : 0 + (news.take (min m len * te.size)).length ≤ cur.size := by rw [hcl, q6]; omega
            have hone : ∀ v ∈ news.take (min m len * te.size), v.oneCell' = true := fun v hv => hs.one v (List.mem_of_mem_take hv)
            have hst := run_storeCells_at P b 0 e' (news.take (min m len * te.size)) 0 cur w q3 (by simpa using hfit) hone
            refine ⟨goInt (min m len : Nat), w.setRow b (cur.toList.take 0 ++ news.take (min m len * te.size) ++ cur.toList.drop (0 + (news.take (min m len * te.size)).length)).toArray, ?_, ?_, hE, rfl⟩
            · have hst' := hst
              simp only [Nat.add_zero] at hst'
              simp [Builtin.copy_, run_underlying hu, hlen, hsz, hmin, hf, hst']
            · have := hw.step id (.arr e' te.size n (copyG g (min m len) g2)) (μ id) (w' := w.setRow b (cur.toList.take 0 ++ news.take (min m len * te.size) ++ cur.toList.drop (0 + (news.take (min m len * te.size)).length)).toArray) e1 e2 (by rw [upd_self]; exact hE) (setRow_grown w b _)
                (fun k' ee => by cases ee; exact ⟨⟨_, h1, by simp⟩, by rw [m1]; rfl⟩) (fun k' ee => .inl ⟨⟨_, h1, by simp⟩, ee⟩) ?_
              · simpa [upd_self] using this
              · have hm := fun q => list_mid cur.toList (news.take (min m len * te.size)) 0 (by simpa using hfit) q
                refine ⟨(cur.toList.take 0 ++ news.take (min m len * te.size) ++ cur.toList.drop (0 + (news.take (min m len * te.size)).length)).take (n * te.size), ⟨?_, .inr ⟨b, cap, _, by simp [upd, m1], Nat.zero_le _, setRow_heap w b cur _ e' (0, 0) q3, q4, q5, ?_, by simp⟩⟩, o2, fun i hi j hj => ?_, by rw [upd_self]; exact Sp.of (b := b) (by rw [m1]; rfl) (setRow_heap w b cur _ e' (0, 0) q3) (by simpa using one_mid (l := cur.toList) (o := 0) (k := 0 + (news.take (min m len * te.size)).length) (o4 b cur e' (0, 0) (by rw [m1]; rfl) q3) hone)⟩
                · rw [List.length_take]
                  simp only [List.length_append, List.length_take, List.length_drop, Array.length_toList] at hfit ⊢
                  omega
                · simp only [List.size_toArray, List.length_append, List.length_take, List.length_drop, Array.length_toList] at hfit ⊢
                  omega
                · rw [upd_self]
                  have hi2 : i * te.size + te.size ≤ n * te.size := by rw [← Nat.succ_mul]; exact Nat.mul_le_mul_right _ hi
                  rw [List.getElem?_take, if_pos (by omega), hm]
                  simp only [copyG]
                  by_cases cc : i < min m len
                  · have hi3 : i * te.size + te.size ≤ min m len * te.size := by rw [← Nat.succ_mul]; exact Nat.mul_le_mul_right _ cc
                    rw [if_pos (by rw [hcl]; omega), if_pos cc]
                    obtain ⟨u, u1, u2⟩ := hs.rep i (by omega) j hj
                    refine ⟨u, ?_, RepC.mono (Mem.le_refl F) hE _ _ u2⟩
                    rw [Nat.sub_zero, List.getElem?_take, if_pos (by omega)]
                    exact u1
                  · have hi3 : min m len * te.size ≤ i * te.size := Nat.mul_le_mul_right _ (by omega)
                    rw [if_neg (by rw [hcl]; omega), if_neg cc]
                    obtain ⟨u, u1, u2⟩ := o3 i hi j hj
                    refine ⟨u, ?_, RepC.mono (Mem.le_refl F) hE _ _ u2⟩
                    rw [← q7, List.getElem?_take, if_pos (by omega)] at u1
                    exact u1
    | _ => simp at h

/-- A slice literal's elements. -/
def buildP (es : Nat) (ts : Ts) : List (Nat × Operand) → List C → Option (List C)
  | [], cells => some cells
  | (i, x) :: r, cells => match (bare (opnd ts x)).2.cells with
    | some ys => match Nat.beq ys.length es with
      | true => match splice cells (i * es) ys with
        | some cells' => buildP es ts r cells'
        | none => none
      | false => none
    | none => none

/-- What must be known for a literal's elements. -/
def repL : Nat → List C → List C
  | 0, _ => []
  | n + 1, l => l ++ repL n l

def buildSK (e : Nat) (te : TI) (ts : Ts) (H : List O) (len : Nat) (parts : List (Nat × Operand)) : Option (C × List O) :=
  match Nat.ble (len * te.size) 1000 && Nat.ble len 1000 with
  | true => match buildP te.size ts parts (repL len (zeroL te)) with
    | some cs => some (.sl H.length te.size len len true, H ++ [.arr e te.size len (flatG te.size cs)])
    | none => none
  | false => none

theorem repL_len (l : List C) : ∀ n, (repL n l).length = n * l.length
  | 0 => by simp [repL]
  | n + 1 => by simp [repL, repL_len l n, Nat.succ_mul, Nat.add_comm]

theorem repL_get (l : List C) : ∀ (n q : Nat) (x : C), getL (repL n l) q = some x → 0 < l.length ∧ getL l (q % l.length) = some x
  | 0, q, x, h => by simp [repL, getL] at h
  | n + 1, q, x, h => by
    rw [repL, getL_eq] at h
    by_cases c : q < l.length
    · rw [List.getElem?_append_left c] at h
      exact ⟨by omega, by rw [getL_eq, Nat.mod_eq_of_lt c]; exact h⟩
    · rw [List.getElem?_append_right (by omega), ← getL_eq] at h
      obtain ⟨h1, h2⟩ := repL_get l n _ x h
      refine ⟨h1, ?_⟩
      rw [Nat.mod_eq_sub_mod (by omega)]
      exact h2

theorem buildSK_ok {P : Program} {K : Keep} {F : Mem} {H H' : List O} {μ : Nat → Value} {w : World} (hw : HSat K F H μ w) {ts : Ts} {a : Act} (hT : TSat F H μ ts a.tmps) {t e : Nat} {te : TI} (hu : P.underlying t = some (.slice e)) (hte : TIok P e te)
    (hzl : te.zero.length = te.size) {len : Nat} {parts : Array (Nat × Operand)} {c : C} (h : buildSK e te ts H len parts.toList = some (c, H')) (hnp : ∀ q ∈ needP ts parts.toList, q) :
    ∃ r w' μ', (Instr.buildSlice t len (parts.map fun (i, x) => (i, a.eval x))).run P w = .ok r w' ∧ HSat K F H' μ' w' ∧ Ext H μ H' μ' ∧ RepC F H' μ' c r := by
  unfold buildSK at h
  cases hb : Nat.ble (len * te.size) 1000 && Nat.ble len 1000 with
  | false => simp [hb] at h
  | true =>
    simp only [hb] at h
    rw [Bool.and_eq_true] at hb
    have hle := Nat.le_of_ble_eq_true hb.1
    have hle2 := Nat.le_of_ble_eq_true hb.2
    cases hp : buildP te.size ts parts.toList (repL len (zeroL te)) with
    | none => simp [hp] at h
    | some cs =>
      simp only [hp, Option.some.injEq, Prod.mk.injEq] at h
      obtain ⟨rfl, rfl⟩ := h
      obtain ⟨z, z1, z2, x, x1, x2⟩ := zeroL_ok (P := P) (F := F) (H := H) (μ := μ) hte w
      have hzs : z.cells.size = te.size := by rw [z2.1]; simp [zeroL, hzl]
      have hzl' : (zeroL te).length = te.size := by simp [zeroL, hzl]
      have hsz := sizeOf_ok hte w
      let zero : Array Value := if len * te.size = 0 then #[] else z.cells
      let start : Array Value := (Array.range (len * te.size)).map (zero[· % zero.size]!)
      have hstart : RepL F H μ (repL len (zeroL te)) start := by
        refine ⟨by simp [start, repL_len, hzl'], fun q y hq => ?_⟩
        have hlt := getL_lt hq
        rw [repL_len, hzl'] at hlt
        obtain ⟨h1, h2⟩ := repL_get _ _ _ _ hq
        rw [hzl'] at h1 h2
        obtain ⟨u, u1, u2⟩ := z2.2 _ y h2
        refine ⟨u, ?_, u2⟩
        have hz0 : zero = z.cells := by simp only [zero]; rw [if_neg (by omega)]
        simp only [start, hz0, hzs]
        rw [Array.getElem?_map, Array.getElem?_range, if_pos hlt]
        simp only [Option.map_some]
        have hjz : q % te.size < z.cells.size := by rw [hzs]; exact Nat.mod_lt _ h1
        rw [getElem!_pos z.cells _ hjz]
        rw [Array.getElem?_eq_getElem hjz] at u1
        exact u1
      have fill : ∀ (ps : List (Nat × Operand)) (cells r : List C) (vs : Array Value), (∀ q ∈ needP ts ps, q) → buildP te.size ts ps cells = some r → RepL F H μ cells vs →
          ∃ us, Instr.fill (fun i => some (i * te.size, te.size)) vs (ps.map fun x => (x.1, a.eval x.2)) = some us ∧ RepL F H μ r us := by
        intro ps
        induction ps with
        | nil => intro cells r vs _ h hl; simp only [buildP, Option.some.injEq] at h; subst h; exact ⟨vs, rfl, hl⟩
        | cons p ps ih =>
          obtain ⟨i, x⟩ := p
          intro cells r vs hq h hl
          simp only [buildP] at h
          cases h3 : (bare (opnd ts x)).2.cells with
          | none => simp [h3] at h
          | some ys =>
            cases h4 : Nat.beq ys.length te.size with
            | false => simp only [h3, h4] at h; cases h
            | true =>
              cases h5 : Am.splice cells (i * te.size) ys with
              | none => simp only [h3, h4, h5] at h; cases h
              | some cells' =>
                simp only [h3, h4, h5] at h
                have hys := cells_ok (bare_ok (opnd_ok hT x) (Prod.eta _).symm (fun q hq' => hq q (by simp only [needP]; exact List.mem_append.2 (.inl hq')))) h3
                obtain ⟨us, u1, u2⟩ := ih cells' r _ (fun q hq' => hq q (by simp only [needP]; exact List.mem_append.2 (.inr hq'))) h (hl.splice hys h5)
                have hsz' : (a.eval x).cells.size = te.size := by rw [hys.1]; exact Nat.eq_of_beq_eq_true h4
                have hfit := (splice_ok _ _ _ _ h5).2.1
                refine ⟨us, ?_, u2⟩
                simp only [List.map_cons, Instr.fill]
                rw [if_neg]
                · exact u1
                · have q1 := hl.1
                  have q2 := hys.1
                  simp [hsz']
                  omega
      obtain ⟨us, u1, u2⟩ := fill parts.toList _ cs start hnp hp hstart
      have hcl : cs.length = len * te.size := by
        have : ∀ (ps : List (Nat × Operand)) (cells r : List C), buildP te.size ts ps cells = some r → r.length = cells.length := by
          intro ps
          induction ps with
          | nil => intro cells r h; simp only [buildP, Option.some.injEq] at h; rw [h]
          | cons p ps ih =>
            obtain ⟨i, x⟩ := p
            intro cells r h
            simp only [buildP] at h
            split at h
            · split at h
              · split at h
                · rename_i h5
                  rw [ih _ _ h, (splice_ok _ _ _ _ h5).1]
                · cases h
              · cases h
            · cases h
        rw [this _ _ _ hp, repL_len, hzl']
      have hE := Ext.push H μ (.arr e te.size len (flatG te.size cs)) (.slice (some ⟨w.heap.size, 0, none⟩) len len)
      have hmax : len ≤ maxLen := by
        unfold maxLen; omega
      refine ⟨.slice (some ⟨w.heap.size, 0, none⟩) len len, w.alloc (.cells us e), upd μ H.length (.slice (some ⟨w.heap.size, 0, none⟩) len len), ?_, hw.push _ _ (World.grownBy_alloc w _ none) (fun b hb => by cases hb; exact Nat.le_refl _) ?_, hE, rfl, e, len, _, getL_append_eq _ _, Nat.le_refl _, Nat.le_refl _, fun _ => ⟨_, _, by simp [upd], rfl, fun _ => rfl⟩⟩
      · have hfill : Instr.fill (fun i => some (i * te.size, te.size)) ((Array.range (len * te.size)).map (zero[· % zero.size]!)) (parts.map fun (i, x) => (i, a.eval x)).toList = some us := by
          simpa using u1
        unfold Instr.buildSlice
        rw [bind_ok (run_underlying hu w)]
        simp only
        rw [bind_ok hsz]
        rw [if_neg (by omega)]
        by_cases c : len * te.size = 0
        · have hz0 : zero = #[] := by simp only [zero, if_pos c]
          rw [hz0] at hfill
          simp only [if_pos c]
          rw [bind_ok (show (pure #[] : Sem (Array Value)).run P w = .ok _ w from rfl)]
          simp only [hfill]
          simp [newRow, newObj, Sem.run]
        · have hz0 : zero = z.cells := by simp only [zero, if_neg c]
          rw [hz0] at hfill
          simp only [if_neg c]
          rw [bind_ok z1]
          rw [bind_ok (show (pure z.cells : Sem (Array Value)).run P w = .ok _ w from rfl)]
          simp only [hfill]
          simp [newRow, newObj, Sem.run]
      · refine ⟨us.toList, ⟨by rw [Array.length_toList, u2.1, hcl], .inr ⟨w.heap.size, len, us, by simp [upd], Nat.zero_le _, heap_alloc_new w _, Nat.le_refl _, hmax, by rw [u2.1, hcl], ?_⟩⟩, hmax, fun i hi j hj => ?_, Sp.of (b := w.heap.size) (by simp [upd, blk]) (heap_alloc_new w _) (repL_one u2)⟩
        · rw [List.take_of_length_le]; rw [Array.length_toList, u2.1, hcl]; exact Nat.le_refl _
        · have hlt : i * te.size + te.size ≤ len * te.size := by rw [← Nat.succ_mul]; exact Nat.mul_le_mul_right _ hi
          have hq : i * te.size + j < cs.length := by rw [hcl]; omega
          obtain ⟨u, v1, v2⟩ := u2.2 (i * te.size + j) cs[i * te.size + j] (by rw [getL_eq]; simp [hq])
          refine ⟨u, by simpa using v1, ?_⟩
          simp only [flatG, lget, getL_eq]
          rw [List.getElem?_eq_getElem hq]
          exact RepC.mono (Mem.le_refl F) hE _ _ v2

end Go.Am
end

section
namespace Go.Am
/-- clear at a slice of a tracked array. -/
def clearG (g : Nat → Nat → C) (off len : Nat) (z : List C) : Nat → Nat → C := fun i j => if off ≤ i ∧ i < off + len then lget z j else g i j
def clearK (te : TI) (H : List O) (id es off len tot : Nat) : Option (List Prop × List O) :=
  match Nat.beq es te.size with
  | true => match getL H id with
    | some (.arr e _ n g) => match setL H id (.arr e te.size n (clearG g off len (zeroL te))) with
      | some H' => some ([tot = n], H')
      | none => none
    | _ => none
  | false => none
theorem clearK_ok {P : Program} {K : Keep} {F : Mem} {H H' : List O} {μ : Nat → Value} {w : World} (hw : HSat K F H μ w) {t e ty : Nat} {te : TI} (hu : P.underlying t = some (.slice e)) (hte : TIok P e te) (hzl : te.zero.length = te.size)
    {id es off len tot : Nat} {v : Value} {ns : List Prop} (hx : RepS F H μ (.so id es off len tot) v) (h : clearK te H id es off len tot = some (ns, H')) (hn : ∀ q ∈ ns, q) :
    ∃ w', (Builtin.clear_ #[t] ty #[v]).run P w = .ok (.tuple #[]) w' ∧ HSat K F H' μ w' ∧ Ext H μ H' μ := by
  unfold clearK at h
  cases hb : Nat.beq es te.size with
  | false => simp [hb] at h
  | true =>
    have : es = te.size := Nat.eq_of_beq_eq_true hb
    subst this
    obtain ⟨a, cap, rfl, h1, e', n, g, h2, h3, h4, h5⟩ := hx
    simp only [hb, h2] at h
    cases hset : setL H id (.arr e' te.size n (clearG g off len (zeroL te))) with
    | none => simp [hset] at h
    | some H'' =>
      simp only [hset, Option.some.injEq, Prod.mk.injEq] at h
      obtain ⟨rfl, rfl⟩ := h
      have c1 : tot = n := hn _ (by simp)
      obtain ⟨e1, e2⟩ := getL_set hset
      obtain ⟨xs, o1, o2, o3, o4⟩ := hw.ob id _ h2
      have hE : Ext H μ H'' μ := ext_same (fun id' o ho => by
        by_cases ee : id' = id
        · subst ee
          rw [h2] at ho
          cases ho
          exact ⟨_, e1⟩
        · rw [← e2 id' ee] at ho
          cases o with
          | vr c' => exact ⟨c', ho⟩
          | arr e es n g => exact ⟨g, ho⟩
          | dead => trivial
          | mp sh z va ks val => exact ⟨ks, val, ho⟩)
      by_cases hl0 : len = 0
      · subst hl0
        refine ⟨w, ?_, ?_, hE⟩
        · cases a <;> simp [Builtin.clear_, run_underlying hu]
        · have := hw.step id _ (μ id) (w' := w) (row := none) e1 e2 (by rw [upd_self]; exact hE) ⟨rfl, rfl, rfl, Nat.le_refl _, fun _ _ _ => rfl⟩ (fun k hk => by cases hk) (fun k ee => .inl ⟨⟨_, h2, by simp⟩, ee⟩) (by
            rw [upd_self]
            refine ⟨xs, o1, o2, fun i hi j hj => ?_, o4⟩
            obtain ⟨u, u1, u2⟩ := o3 i hi j hj
            refine ⟨u, u1, ?_⟩
            simp only [clearG]
            rw [if_neg (by omega)]
            exact RepC.mono (Mem.le_refl F) hE _ _ u2)
          simpa [upd_self] using this
      · obtain ⟨b, c, m1, rfl⟩ := (h5 c1).resolve_left hl0
        obtain ⟨z, z1, z2, -⟩ := zeroL_ok (P := P) (F := F) (H := H) (μ := μ) hte w
        have hzs : z.cells.size = te.size := by rw [z2.1]; simp [zeroL, hzl]
        rcases o1.2 with ⟨q1, q2⟩ | ⟨b', cap', cur, q1, q2, q3, q4, q5, q6, q7⟩
        · rw [m1] at q1; cases q1
        · rw [m1] at q1
          cases q1
          generalize hZ : (Builtin.zeroCells z.cells len).toList = zs
          have hzl' : zs.length = len * te.size := by rw [← hZ]; simp [Builtin.zeroCells, hzs]
          have hone : ∀ u ∈ zs, u.oneCell' = true := by rw [← hZ]; exact zeros_one (repL_one z2)
          have hln : (off + len) * te.size ≤ n * te.size := Nat.mul_le_mul_right _ (by omega)
          have hnc : n * te.size ≤ c * te.size := Nat.mul_le_mul_right _ q4
          have hsum : (off + len) * te.size = off * te.size + len * te.size := Nat.add_mul _ _ _
          have hfit : off * te.size + zs.length ≤ cur.size := by rw [hzl', q6]; omega
          have hst := run_storeCells_at P b (off * te.size) e' zs 0 cur w q3 (by simpa using hfit) hone
          simp only [Nat.add_zero] at hst
          refine ⟨w.setRow b (cur.toList.take (off * te.size) ++ zs ++ cur.toList.drop (off * te.size + zs.length)).toArray, ?_, ?_, hE⟩
          · have hlen : len ≠ 0 := hl0
            unfold Builtin.clear_
            obtain ⟨m, rfl⟩ := Nat.exists_eq_succ_of_ne_zero hlen
            simp [run_underlying hu, z1, hZ, hst]
          · have := hw.step id (.arr e' te.size n (clearG g off len (zeroL te))) (μ id) (w' := w.setRow b (cur.toList.take (off * te.size) ++ zs ++ cur.toList.drop (off * te.size + zs.length)).toArray) e1 e2 (by rw [upd_self]; exact hE) (setRow_grown w b _)
              (fun k' ee => by cases ee; exact ⟨⟨_, h2, by simp⟩, by rw [m1]; rfl⟩) (fun k' ee => .inl ⟨⟨_, h2, by simp⟩, ee⟩) ?_
            · simpa [upd_self] using this
            · have hm := fun q => list_mid cur.toList zs (off * te.size) (by simpa using hfit) q
              refine ⟨(cur.toList.take (off * te.size) ++ zs ++ cur.toList.drop (off * te.size + zs.length)).take (n * te.size), ⟨?_, .inr ⟨b, c, _, by simp [upd, m1], Nat.zero_le _, setRow_heap w b cur _ e' (0, 0) q3, q4, q5, ?_, by simp⟩⟩, o2, fun i hi j hj => ?_, by rw [upd_self]; exact Sp.of (b := b) (by rw [m1]; rfl) (setRow_heap w b cur _ e' (0, 0) q3) (by simpa using one_mid (l := cur.toList) (o := off * te.size) (k := off * te.size + zs.length) (o4 b cur e' (0, 0) (by rw [m1]; rfl) q3) hone)⟩
              · rw [List.length_take]
                simp only [List.length_append, List.length_take, List.length_drop, Array.length_toList] at hfit ⊢
                omega
              · simp only [List.size_toArray, List.length_append, List.length_take, List.length_drop, Array.length_toList] at hfit ⊢
                omega
              · rw [upd_self]
                have hi2 : i * te.size + te.size ≤ n * te.size := by rw [← Nat.succ_mul]; exact Nat.mul_le_mul_right _ hi
                rw [List.getElem?_take, if_pos (by omega), hm]
                simp only [clearG]
                by_cases cc : off ≤ i ∧ i < off + len
                · have hi3 : off * te.size ≤ i * te.size := Nat.mul_le_mul_right _ cc.1
                  have hi4 : i * te.size + te.size ≤ (off + len) * te.size := by rw [← Nat.succ_mul]; exact Nat.mul_le_mul_right _ cc.2
                  rw [if_pos (by rw [hzl']; omega), if_pos cc]
                  have hj' : j < (zeroL te).length := by simp [zeroL, hzl, hj]
                  obtain ⟨u, u1, u2⟩ := z2.2 j (zeroL te)[j] (by rw [getL_eq]; simp [hj'])
                  refine ⟨u, ?_, ?_⟩
                  · rw [← hZ]
                    obtain ⟨d, rfl⟩ : ∃ d, i = off + d := ⟨i - off, by omega⟩
                    have he : (off + d) * te.size + j - off * te.size = d * te.size + j := by rw [Nat.add_mul]; omega
                    have hd : d * te.size + te.size ≤ len * te.size := by rw [← Nat.succ_mul]; exact Nat.mul_le_mul_right _ (by omega)
                    rw [he]
                    simp only [Builtin.zeroCells]
                    rw [Array.getElem?_toList, Array.getElem?_map, Array.getElem?_range, if_pos (by rw [hzs]; omega)]
                    simp only [Option.map_some, hzs, mod_lt_self d j hj]
                    have hjz : j < z.cells.size := by omega
                    rw [getElem!_pos z.cells j hjz]
                    rw [Array.getElem?_eq_getElem hjz] at u1
                    exact u1
                  · simp only [lget, getL_eq]
                    rw [List.getElem?_eq_getElem hj']
                    exact RepC.mono (Mem.le_refl F) hE _ _ u2
                · rw [if_neg, if_neg cc]
                  · obtain ⟨u, u1, u2⟩ := o3 i hi j hj
                    refine ⟨u, ?_, RepC.mono (Mem.le_refl F) hE _ _ u2⟩
                    rw [← q7, List.getElem?_take, if_pos (by omega)] at u1
                    exact u1
                  · rw [hzl']
                    rintro ⟨k1, k2⟩
                    apply cc
                    constructor
                    · rcases Nat.lt_or_ge i off with c' | c'
                      · have : i * te.size + te.size ≤ off * te.size := by rw [← Nat.succ_mul]; exact Nat.mul_le_mul_right _ c'
                        omega
                      · exact c'
                    · rcases Nat.lt_or_ge i (off + len) with c' | c'
                      · exact c'
                      · have : (off + len) * te.size ≤ i * te.size := Nat.mul_le_mul_right _ c'
                        omega
end Go.Am
end

section
/- THE ABSTRACT MACHINE, PART 9b: append to a slice that was cut: in place where there is room, else to new memory. -/
namespace Go.Am
def cutG (g : Nat → Nat → C) (len m : Nat) (g2 : Nat → Nat → C) : Nat → Nat → C := fun i j => if i < len then g i j else if i < len + m then g2 (i - len) j else g i j

/-- What a tight slice (one whose array has no further room) asks for: that what comes has its place in it. -/
def tightN (x : Bool) (len m n : Nat) : List Prop := match x with
  | true => [len + m ≤ n]
  | false => []
def cutK (md : Bool) (e : Nat) (te : TI) (H : List O) (x y : C) : Option (List Prop × C × List O) :=
  match srcK te.size H y with
  | some (ns, m, g2) => match x with
    | .sl id es len tot xq => match Nat.beq es te.size with
      | true => match getL H id with
        | some (.arr e' _ n g) => match Nat.beq e' e with
          | true => match md with
            | true => match xq with
              | true => some (ns ++ [tot = n, len = n, 1 ≤ m, n + m ≤ 9223372036854775807, (n + m) * te.bytes ≤ 140737488355328], .sl H.length te.size (n + m) (n + m) false, H ++ [.arr e te.size (n + m) (appG g n g2)])
              | false => none
            | false => match setL H id (.arr e te.size (max n (len + m)) (cutG g len m g2)) with
              | some H' => some (ns ++ (tightN xq len m n ++ [tot = n, len ≤ n, len + m ≤ 9223372036854775807, (len + m) * te.bytes ≤ 140737488355328]), .sl id te.size (len + m) (max n (len + m)) xq, H')
              | none => none
          | false => none
        | _ => none
      | false => none
    | _ => none
  | none => none

set_option maxHeartbeats 2000000 in
theorem cutK_ok {P : Program} {K : Keep} {F : Mem} {H H' : List O} {μ : Nat → Value} {w : World} (hw : HSat K F H μ w) {t e ty : Nat} {te : TI} (hu : P.underlying t = some (.slice e)) (hte : TIok P e te) (hzl : te.zero.length = te.size) (hpos : 0 < te.size)
    {x y c : C} {u v : Value} {ns : List Prop} (hx : RepC F H μ x u) (hy : RepC F H μ y v) {md : Bool} (h : cutK md e te H x y = some (ns, c, H')) (hn : ∀ q ∈ ns, q) :
    ∃ r w' μ', (Builtin.append_ #[t, t] ty #[u, v]).run P w = .ok r w' ∧ HSat K F H' μ' w' ∧ Ext H μ H' μ' ∧ RepC F H' μ' c r := by
  unfold cutK at h
  cases hsrc : srcK te.size H y with
  | none => simp [hsrc] at h
  | some p =>
    obtain ⟨ns', m, g2⟩ := p
    simp only [hsrc] at h
    obtain ⟨xi, z, i1, i2, i3, i4, i5⟩ := zsize hte
    have hzs : z.cells.size = te.size := by rw [i5, hzl]
    cases x with
    | sl id es len tot xq =>
      simp only at h
      cases hb : Nat.beq es te.size with
      | false => simp [hb] at h
      | true =>
        have : es = te.size := Nat.eq_of_beq_eq_true hb
        subst this
        obtain ⟨_, e', n, g, h1, h2, h3, h4⟩ := hx
        simp only [hb, h1] at h
        cases hbe : Nat.beq e' e with
        | false => simp [hbe] at h
        | true =>
          have : e' = e := Nat.eq_of_beq_eq_true hbe
          subst this
          cases md with
          | true =>
            cases xq with
            | false => simp [hbe] at h
            | true =>
              simp only [hbe, Option.some.injEq, Prod.mk.injEq] at h
              obtain ⟨rfl, rfl, rfl⟩ := h
              have c1 : tot = n := all_right hn _ (by simp)
              have c2 : len = n := all_right hn _ (by simp)
              have c0 : 1 ≤ m := all_right hn _ (by simp)
              have c3 : n + m ≤ 9223372036854775807 := all_right hn _ (by simp)
              have c4 : (n + m) * te.bytes ≤ 140737488355328 := all_right hn _ (by simp)
              subst c2
              obtain ⟨a, cap, m1, rfl, hx0⟩ := h4 c1
              have hcap : cap = len := hx0 rfl
              subst hcap
              obtain ⟨xs, o1, o2, o3, o4⟩ := hw.ob id _ h1
              obtain ⟨news, hs⟩ := srcK_ok hw hy hsrc (all_left hn)
              have hf2 := hs.first P w.drew (fun _ => rfl) m (Nat.le_refl _)
              rw [List.take_of_length_le (by rw [hs.len]; exact Nat.le_refl _)] at hf2
              have hf1 : (Builtin.firstCells xi.size cap (.slice a cap cap)).run P w.drew = .ok xs.toArray w.drew := by
                rcases o1.2 with ⟨q1, q2⟩ | ⟨b, cap', cur, q1, q2, q3, q4, q5, q6, q7⟩
                · rw [q1] at m1
                  cases m1
                  have : xs = [] := List.eq_nil_of_length_eq_zero (by rw [o1.1, q2]; simp)
                  subst this
                  exact run_firstCells_none w.drew xi.size 0 0 0
                · rw [q1] at m1
                  cases m1
                  refine run_firstCells_some w.drew xi.size cap ⟨b, 0, none⟩ cap cap _ (by rw [o1.1, i2]) (fun j u hu => ?_)
                  exact o1.cells (g := b) (by rw [q1]; rfl) j u hu
              have hv : ∃ a c, v = .slice a m c := by
                rcases hs.val with ⟨rfl, rfl⟩ | ⟨a, c, rfl, _⟩
                · exact ⟨none, 0, rfl⟩
                · exact ⟨_, _, rfl⟩
              have run := run_append_new (P := P) (w := w) (ty := ty) hu i1 i4 a cap cap m v hv xs news hf1 (by rw [i2]; exact hf2) (by omega) c3 (by rw [i3]; exact c4)
              have hge := grownCap_ge w (cap + m) cap e'
              have hcm : grownCap w (cap + m) cap e' ≤ maxLen := grownCap_le_maxLen w (cap + m) cap e' (by unfold maxLen; omega)
              have hE := Ext.push H μ (.arr e' te.size (cap + m) (appG g cap g2)) (.slice (some ⟨w.heap.size, 0, none⟩) (cap + m) (grownCap w (cap + m) cap e'))
              refine ⟨_, _, _, run, hw.push _ _ ⟨rfl, rfl, rfl, by simp, fun k hk _ => heap_alloc_old w.drew _ k hk⟩ (fun b hb => by cases hb; exact Nat.le_refl _) ?_, hE, rfl, e', cap + m, _, getL_append_eq _ _, Nat.le_refl _, Nat.le_refl _, fun _ => ⟨_, _, by simp [upd], rfl, fun e => by cases e⟩⟩
              refine ⟨xs ++ news, ⟨by rw [List.length_append, o1.1, hs.len, Nat.add_mul], .inr ⟨w.heap.size, grownCap w (cap + m) cap e', _, by simp [upd], Nat.zero_le _, heap_alloc_new w.drew _, hge, hcm, ?_, ?_⟩⟩, by unfold maxLen; omega, fun i hi j hj => ?_, Sp.of (b := w.heap.size) (by simp [upd, blk]) (heap_alloc_new w.drew _) (app_one (app_one (by simpa using row_one o1 o4) (by simpa using hs.one)) (zeros_one (zero_one hte i1 i4)))⟩
              · simp only [Array.size_append, List.size_toArray, size_zeroCells, hzs, o1.1, hs.len, ← Nat.add_mul]
                congr 1
                omega
              · simp only [Array.toList_append, List.append_assoc]
                rw [← List.append_assoc]
                exact List.take_left' (by rw [List.length_append, o1.1, hs.len, Nat.add_mul])
              · by_cases c : i < cap
                · obtain ⟨u, u1, u2⟩ := o3 i c j hj
                  have : i * te.size + te.size ≤ cap * te.size := by rw [← Nat.succ_mul]; exact Nat.mul_le_mul_right _ c
                  refine ⟨u, ?_, by simp only [appG, if_pos c]; exact RepC.mono (Mem.le_refl F) hE _ _ u2⟩
                  rw [List.getElem?_append_left (by rw [o1.1]; omega)]
                  exact u1
                · obtain ⟨u, u1, u2⟩ := hs.rep (i - cap) (by omega) j hj
                  refine ⟨u, ?_, by simp only [appG, if_neg c]; exact RepC.mono (Mem.le_refl F) hE _ _ u2⟩
                  have : cap * te.size ≤ i * te.size := Nat.mul_le_mul_right _ (by omega)
                  rw [List.getElem?_append_right (by rw [o1.1]; omega), o1.1]
                  rw [show i * te.size + j - cap * te.size = (i - cap) * te.size + j by rw [Nat.sub_mul]; omega]
                  exact u1
          | false =>
            cases hset : setL H id (.arr e' te.size (max n (len + m)) (cutG g len m g2)) with
            | none => simp [hset] at h
            | some H'' =>
              simp only [hbe, hset, Option.some.injEq, Prod.mk.injEq] at h
              obtain ⟨rfl, rfl, rfl⟩ := h
              have c1 : tot = n := all_right hn _ (by simp)
              have c2 : len ≤ n := all_right hn _ (by simp)
              have cx : xq = true → len + m ≤ n := fun e => by subst e; exact all_right hn _ (by simp [tightN])
              have c4 : len + m ≤ 9223372036854775807 := all_right hn _ (by simp)
              have c5 : (len + m) * te.bytes ≤ 140737488355328 := all_right hn _ (by simp)
              obtain ⟨a, cap, m1, rfl, hx0⟩ := h4 c1
              obtain ⟨xs, o1, o2, o3, o4⟩ := hw.ob id _ h1
              obtain ⟨e1, e2⟩ := getL_set hset
              obtain ⟨news, hs⟩ := srcK_ok hw hy hsrc (all_left hn)
              -- the state behind, from a new value of the array
              have fin : ∀ (v' : Value) (r : Value) (w' : World) (cap' : Nat) (xs' : List Value), (∃ a', v' = .slice a' (max n (len + m)) cap' ∧ r = .slice a' (len + m) cap' ∧ (xq = true → cap' = max n (len + m))) → w'.ownsRow 0 e' te.size v' (max n (len + m)) xs' →
                  (max n (len + m) = n → v' = μ id) → w.grownBy w' (μ id).ownBlock → (∀ b, blk v' = some b → owned H μ id b ∨ w.heap.size ≤ b) → max n (len + m) ≤ maxLen → Sp w' v' →
                  (∀ i, i < max n (len + m) → ∀ j, j < te.size → ∃ u, xs'[i * te.size + j]? = some u ∧ RepC F H μ (cutG g len m g2 i j) u) →
                  ∃ μ', HSat K F H'' μ' w' ∧ Ext H μ H'' μ' ∧ RepC F H'' μ' (.sl id te.size (len + m) (max n (len + m)) xq) r := by
                intro v' r w' cap' xs' hv' hown hsame hgr hnew hmax hspp hrep
                have hE' : Ext H μ H'' (upd μ id v') := by
                  refine ⟨fun id' cs hc => ?_, fun id' e0 es0 n0 g0 hc => ?_, fun id' sh z va ks val hc => ?_⟩
                  · have hne : id' ≠ id := fun ee => by subst ee; rw [h1] at hc; cases hc
                    exact ⟨⟨cs, by rw [e2 id' hne]; exact hc⟩, by simp [upd, hne]⟩
                  · by_cases ee : id' = id
                    · subst ee
                      rw [h1] at hc
                      cases hc
                      exact ⟨_, _, e1, by omega, fun q => by simp only [upd, if_true]; exact hsame q⟩
                    · exact ⟨n0, g0, by rw [e2 id' ee]; exact hc, Nat.le_refl _, fun _ => by simp [upd, ee]⟩
                  · have hne : id' ≠ id := fun ee => by subst ee; rw [h1] at hc; cases hc
                    exact ⟨⟨ks, val, by rw [e2 id' hne]; exact hc⟩, by simp [upd, hne]⟩
                have hob : ∀ k, (μ id).ownBlock = some k → owned H μ id k := by
                  intro k hk
                  refine ⟨⟨_, h1, by simp⟩, ?_⟩
                  rw [m1] at hk ⊢
                  cases a with
                  | none => cases hk
                  | some a => exact hk
                refine ⟨upd μ id v', hw.step id _ v' e1 e2 hE' hgr hob hnew ⟨xs', by simp only [upd, if_true]; exact hown, hmax, fun i hi j hj => ?_, by simp only [upd, if_true]; exact hspp⟩, hE', ?_⟩
                · obtain ⟨u, u1, u2⟩ := hrep i hi j hj
                  exact ⟨u, u1, RepC.mono (Mem.le_refl F) hE' _ _ u2⟩
                · obtain ⟨a', hv1, rfl, hv2⟩ := hv'
                  refine ⟨rfl, e', max n (len + m), _, e1, Nat.le_refl _, by omega, fun _ => ⟨a', cap', by simp [upd, hv1], rfl, hv2⟩⟩
              -- the new elements, over some memory
              have cells : ∀ xs' : List Value, (∀ i j, i < len → j < te.size → xs'[i * te.size + j]? = xs[i * te.size + j]?) → (∀ i j, i < m → j < te.size → xs'[(len + i) * te.size + j]? = news[i * te.size + j]?) →
                  (∀ i j, len + m ≤ i → i < n → j < te.size → xs'[i * te.size + j]? = xs[i * te.size + j]?) →
                  ∀ i, i < max n (len + m) → ∀ j, j < te.size → ∃ u, xs'[i * te.size + j]? = some u ∧ RepC F H μ (cutG g len m g2 i j) u := by
                intro xs' k1 k2 k3 i hi j hj
                unfold cutG
                by_cases a1 : i < len
                · rw [if_pos a1, k1 i j a1 hj]
                  exact o3 i (by omega) j hj
                · rw [if_neg a1]
                  by_cases a2 : i < len + m
                  · rw [if_pos a2]
                    have := k2 (i - len) j (by omega) hj
                    rw [show len + (i - len) = i by omega] at this
                    rw [this]
                    exact hs.rep (i - len) (by omega) j hj
                  · rw [if_neg a2, k3 i j (by omega) (by omega) hj]
                    exact o3 i (by omega) j hj
              have mulle : ∀ i k j, i < k → j < te.size → i * te.size + j < k * te.size := fun i k j hi hj => by
                have : (i + 1) * te.size ≤ k * te.size := Nat.mul_le_mul_right te.size hi
                rw [Nat.add_mul] at this
                omega
              have hmn : m = 0 → max n (len + m) = n := fun h => by omega
              have same : m = 0 → w.ownsRow 0 e' te.size (.slice a len cap) len (xs.take (len * te.size)) := fun _ => by
                refine ⟨by rw [List.length_take, o1.1]; exact Nat.min_eq_left (Nat.mul_le_mul_right te.size c2), ?_⟩
                rcases o1.2 with ⟨q1, q2⟩ | ⟨b, cap', cur, q1, q2, q3, q4, q5, q6, q7⟩
                · rw [q1] at m1
                  cases m1
                  exact .inl ⟨by rw [show len = 0 by omega], by omega⟩
                · rw [q1] at m1
                  cases m1
                  refine .inr ⟨b, cap, cur, rfl, q2, q3, by omega, q5, q6, ?_⟩
                  rw [← q7, List.take_take, Nat.min_eq_left (Nat.mul_le_mul_right te.size c2)]
              rcases hs.val with ⟨rfl, hm0⟩ | ⟨sa, sc, rfl, hcell⟩
              · -- nothing is appended
                have hm1 := hmn hm0
                subst hm0
                have hel := cells xs (fun _ _ _ _ => rfl) (fun i j hi => by omega) (fun _ _ _ _ _ => rfl)
                obtain ⟨μ', f1, f2, f3⟩ := fin (μ id) (.slice a (len + 0) cap) w cap xs ⟨a, by rw [hm1]; exact m1, rfl, fun e => by rw [hm1]; exact hx0 e⟩ (by rw [hm1]; exact o1) (fun _ => rfl) ⟨rfl, rfl, rfl, Nat.le_refl _, fun _ _ _ => rfl⟩ (fun b hb => .inl ⟨⟨_, h1, by simp⟩, hb⟩) (by omega) o4 hel
                exact ⟨_, _, μ', run_append_owned_none (P := P) (w := w) 0 t ty e' xi te.size hu i1 (.slice a len cap) len _ (same rfl), f1, f2, f3⟩
              rcases o1.2 with ⟨q1, q2⟩ | ⟨b, cap', cur, q1, q2, q3, q4, q5, q6, q7⟩
              · -- nothing there yet
                rw [q1] at m1
                cases m1
                have hl0 : len = 0 := by omega
                subst hl0
                by_cases hm0 : m = 0
                · have hm1 := hmn hm0
                  subst hm0
                  have hnw : news = [] := List.eq_nil_of_length_eq_zero (by rw [hs.len]; simp)
                  subst hnw
                  obtain ⟨v', w', r1, r2, r3, r4⟩ := run_append_own (P := P) w 0 t ty e' xi z te.size te.bytes hu i1 i4 i2 i3 hzs hpos (.slice none 0 0) 0 [] (World.ownsRow_nil w 0 e' te.size) sa 0 sc [] hs.len hcell hs.one (by unfold maxLen; omega) (by omega) (Nat.zero_le _)
                  have hv' : v' = .slice none 0 0 := r4.2 ⟨rfl, rfl⟩
                  subst hv'
                  have hfin := fin (.slice none 0 0) (.slice none (0 + 0) 0) w' 0 [] ⟨none, rfl, rfl, fun e => by omega⟩ (by simpa using r2) (fun _ => q1.symm) (by rw [q1]; exact r3) (fun bb hb => by cases hb) (by omega) (Sp.none rfl)
                  obtain ⟨μ', f1, f2, f3⟩ := hfin (fun i hi => by omega)
                  exact ⟨_, _, μ', r1, f1, f2, f3⟩
                have hm0 : max 0 (0 + m) = m := by omega
                have run := run_append_nil (P := P) w t ty e' xi z hu i1 i4 sa m sc news (by rw [hs.len, i2]) hcell (by omega) (by omega) (by rw [i3]; rw [Nat.zero_add] at c5; omega)
                obtain ⟨v', w', r1, r2, r3, r4⟩ := run_append_own (P := P) w 0 t ty e' xi z te.size te.bytes hu i1 i4 i2 i3 hzs hpos (.slice none 0 0) 0 [] (World.ownsRow_nil w 0 e' te.size) sa m sc news hs.len hcell hs.one (by have := hs.le; unfold maxLen at *; omega) (by rw [Nat.zero_add] at c5 ⊢; omega) (Nat.zero_le _)
                rw [run] at r1
                cases r1
                rw [Nat.zero_add, List.nil_append] at r2
                have hle := hs.le
                have hfin := fin _ (.slice _ (0 + m) _) _ _ news ⟨_, by rw [hm0], rfl, fun e => by have := cx e; omega⟩ (by rw [hm0]; exact r2) (fun q => by omega) (by rw [q1]; exact r3)
                obtain ⟨μ', f1, f2, f3⟩ := hfin (fun bb hb => by cases hb; exact .inr (Nat.le_refl _)) (by omega) (Sp.of rfl (heap_alloc_new w.drew _) (app_one (by simpa using hs.one) (zeros_one (zero_one hte i1 i4))))
                  (cells news (fun i j hi => by omega) (fun i j _ _ => by rw [Nat.zero_add]) (fun i j _ hi => by omega))
                refine ⟨_, _, μ', ?_, f1, f2, f3⟩
                rw [Nat.zero_add]
                exact run
              · rw [q1] at m1
                cases m1
                have hxs : ∀ i j, i < n → j < te.size → xs[i * te.size + j]? = cur[i * te.size + j]? := fun i j hi hj => by
                  rw [← q7, List.getElem?_take_of_lt (mulle i n j hi hj)]; simp
                by_cases hroom : len + m ≤ cap
                · -- in place
                  have hfit : len * xi.size + news.length ≤ cur.size := by
                    rw [hs.len, i2, q6, ← Nat.add_mul]
                    exact Nat.mul_le_mul_right te.size hroom
                  have run := run_append_room (P := P) w t ty e' xi hu i1 b len cap cur q3 sa m sc news (by rw [hs.len, i2]) hcell hs.one hroom hfit
                  rw [i2, hs.len] at run
                  generalize hcs : cur.toList.take (len * te.size) ++ news ++ cur.toList.drop (len * te.size + m * te.size) = cs at run
                  have hcl : cs.length = cur.size := by
                    rw [← hcs]
                    simp only [List.length_append, List.length_take, List.length_drop, hs.len, Array.length_toList]
                    rw [i2, hs.len] at hfit
                    omega
                  have hat : ∀ k, cs[k]? = if len * te.size ≤ k ∧ k < len * te.size + news.length then news[k - len * te.size]? else cur[k]? := fun k => by
                    rw [← hcs, ← hs.len]
                    rw [list_mid cur.toList news (len * te.size) (by rw [i2] at hfit; simpa using hfit) k]
                    simp
                  have hheap : (w.setRow b cs.toArray).heap[b]? = some (.cells cs.toArray e' (0, 0)) := setRow_heap w b cur cs.toArray e' (0, 0) q3
                  have hmc : max n (len + m) ≤ cap := by omega
                  have hel := cells (cs.take (max n (len + m) * te.size))
                    (by
                      intro i j hi hj
                      have := mulle i len j hi hj
                      rw [List.getElem?_take_of_lt (mulle i (max n (len + m)) j (by omega) hj), hat, if_neg (by omega), hxs i j (by omega) hj])
                    (by
                      intro i j hi hj
                      have a1 : (len + i) * te.size = len * te.size + i * te.size := Nat.add_mul ..
                      have a2 := mulle i m j hi hj
                      rw [List.getElem?_take_of_lt (mulle (len + i) (max n (len + m)) j (by omega) hj), hat, if_pos (by rw [hs.len]; omega)]
                      congr 1
                      omega)
                    (by
                      intro i j hi hi2 hj
                      have a1 : (len + m) * te.size ≤ i * te.size := Nat.mul_le_mul_right te.size hi
                      rw [Nat.add_mul] at a1
                      rw [List.getElem?_take_of_lt (mulle i (max n (len + m)) j (by omega) hj), hat, if_neg (by rw [hs.len]; omega), hxs i j hi2 hj])
                  have hle := hs.le
                  obtain ⟨μ', f1, f2, f3⟩ := fin (.slice (some ⟨b, 0, none⟩) (max n (len + m)) cap) (.slice (some ⟨b, 0, none⟩) (len + m) cap) (w.setRow b cs.toArray) cap (cs.take (max n (len + m) * te.size)) ⟨_, rfl, rfl, fun e => by have := cx e; have := hx0 e; omega⟩
                    ⟨by rw [List.length_take, hcl, q6]; exact Nat.min_eq_left (Nat.mul_le_mul_right te.size hmc), .inr ⟨b, cap, cs.toArray, rfl, Nat.zero_le _, hheap, hmc, q5, by rw [List.size_toArray, hcl, q6], rfl⟩⟩
                    (fun q => by rw [q, q1]) (by rw [q1]; exact setRow_grown w b _) (fun bb hb => by cases hb; exact .inl ⟨⟨_, h1, by simp⟩, by rw [q1]; rfl⟩) (by omega) (Sp.of rfl hheap (by rw [← hcs]; exact one_mid (l := cur.toList) (o := len * te.size) (k := len * te.size + m * te.size) (o4 b cur e' (0, 0) (by rw [q1]; rfl) q3) hs.one)) hel
                  exact ⟨_, _, μ', run, f1, f2, f3⟩
                · -- to new memory
                  have hmm : max n (len + m) = len + m := by omega
                  have hf1 : (Builtin.firstCells xi.size len (.slice (some ⟨b, 0, none⟩) len cap)).run P w.drew = .ok (xs.take (len * te.size)).toArray w.drew := by
                    refine run_firstCells_some w.drew xi.size len ⟨b, 0, none⟩ len cap _ (by rw [List.length_take, o1.1, i2]; exact Nat.min_eq_left (Nat.mul_le_mul_right te.size c2)) (fun j u hu => ?_)
                    refine o1.cells (g := b) (by rw [q1]; rfl) j u ?_
                    rw [List.getElem?_take] at hu
                    split at hu
                    · exact hu
                    · cases hu
                  have hf2 : (Builtin.firstCells xi.size m (.slice (some sa) m sc)).run P w.drew = .ok news.toArray w.drew :=
                    run_firstCells_some w.drew xi.size m sa m sc news (by rw [hs.len, i2]) (fun j u hu => hcell j u hu)
                  have run := run_append_new (P := P) (w := w) (ty := ty) hu i1 i4 (some ⟨b, 0, none⟩) len cap m (.slice (some sa) m sc) ⟨_, _, rfl⟩ _ news hf1 hf2 (by omega) (by omega) (by rw [i3]; exact c5)
                  have hge := grownCap_ge w (len + m) cap e'
                  have hcm : grownCap w (len + m) cap e' ≤ maxLen := grownCap_le_maxLen w (len + m) cap e' (by unfold maxLen; omega)
                  have hlt : (xs.take (len * te.size)).length = len * te.size := by rw [List.length_take, o1.1]; exact Nat.min_eq_left (Nat.mul_le_mul_right te.size c2)
                  have hel := cells (xs.take (len * te.size) ++ news)
                    (by
                      intro i j hi hj
                      have := mulle i len j hi hj
                      rw [List.getElem?_append_left (by rw [hlt]; exact this), List.getElem?_take_of_lt this])
                    (by
                      intro i j hi hj
                      have a1 : (len + i) * te.size = len * te.size + i * te.size := Nat.add_mul ..
                      rw [List.getElem?_append_right (by rw [hlt]; omega), hlt]
                      congr 1
                      omega)
                    (by intro i j hi hi2 hj; omega)
                  have hown : (w.drew.alloc (.cells ((xs.take (len * te.size)).toArray ++ news.toArray ++ Builtin.zeroCells z.cells (grownCap w (len + m) cap e' - (len + m))) e')).ownsRow 0 e' te.size (.slice (some ⟨w.heap.size, 0, none⟩) (max n (len + m)) (grownCap w (len + m) cap e')) (max n (len + m)) (xs.take (len * te.size) ++ news) := by
                    refine ⟨by rw [List.length_append, hlt, hs.len, hmm, Nat.add_mul], .inr ⟨w.heap.size, grownCap w (len + m) cap e', _, rfl, Nat.zero_le _, heap_alloc_new w.drew _, by rw [hmm]; exact hge, hcm, ?_, ?_⟩⟩
                    · simp only [Array.size_append, List.size_toArray, size_zeroCells, hzs, hlt, hs.len, ← Nat.add_mul]
                      congr 1
                      omega
                    · rw [hmm]
                      simp only [Array.toList_append, List.append_assoc]
                      rw [← List.append_assoc]
                      exact List.take_left' (by rw [List.length_append, hlt, hs.len, Nat.add_mul])
                  obtain ⟨μ', f1, f2, f3⟩ := fin (.slice (some ⟨w.heap.size, 0, none⟩) (max n (len + m)) (grownCap w (len + m) cap e')) (.slice (some ⟨w.heap.size, 0, none⟩) (len + m) (grownCap w (len + m) cap e')) _ _ (xs.take (len * te.size) ++ news) ⟨_, rfl, rfl, fun e => by have := cx e; have := hx0 e; omega⟩
                    hown (fun q => by omega) ⟨rfl, rfl, rfl, by simp, fun k hk _ => heap_alloc_old w.drew _ k hk⟩ (fun bb hb => by cases hb; exact .inr (Nat.le_refl _)) (by unfold maxLen; omega) (Sp.of rfl (heap_alloc_new w.drew _) (app_one (app_one (fun u hu => row_one o1 o4 u (List.mem_of_mem_take (by simpa using hu))) (by simpa using hs.one)) (zeros_one (zero_one hte i1 i4)))) hel
                  exact ⟨_, _, μ', run, f1, f2, f3⟩
    | _ => simp at h
end Go.Am
end

section
/- THE ABSTRACT MACHINE, PART 11: the operations that change what is tracked, all of them. -/
namespace Go.Am

def goodT (te : TI) : Bool := Nat.beq te.zero.length te.size && Nat.blt 0 te.size

theorem goodT_ok {te : TI} (h : goodT te = true) : te.zero.length = te.size ∧ 0 < te.size := by
  unfold goodT at h
  rw [Bool.and_eq_true] at h
  exact ⟨Nat.eq_of_beq_eq_true h.1, Nat.le_of_ble_eq_true h.2⟩

/-- The same operand twice. -/
def sameOp : Operand → Operand → Bool
  | .tmp a, .tmp b => Nat.beq a b
  | .const (.int _ a), .const (.int _ b) => decide (a = b)
  | _, _ => false

def eff (Γ : Env) (ts : Ts) (H : List O) (op : Op) : Option (List Prop × S × List O) :=
  match op with
  | .alloc t => match Γ.at t with
    | some i => forceL (zeroL i) fun cs => some ([], .c (.ptr H.length 0), H ++ [.vr cs])
    | none => none
  | .box _ x => match bare (opnd ts x) with
    | (p, s) => match s.cells with
      | some cs => some (p, .c (.ptr H.length 0), H ++ [.vr cs])
      | none => none
  | .store t a x => match Γ.at t with
    | some i => match bare (opnd ts a) with
      | (p, .c a) => match bare (opnd ts x) with
        | (q, s) => match s.cells with
          | some ys => match Nat.beq ys.length i.size with
            | true => match storeK H a ys with
              | some (r, H') => some (p ++ q ++ r, .u, H')
              | none => none
            | false => none
          | none => none
      | _ => none
    | none => none
  | .makeSlice t l c => match elemOf Γ t with
    | some (e, te) => match goodT te with
      | true => match bare (opnd ts l) with
        | (p, .c (.int _ l')) => match bare (opnd ts c) with
          | (q, .c (.int _ c')) => match makeK e te H l' c' (sameOp l c) with
            | (r, c, H') => some (p ++ q ++ r, .c c, H')
          | _ => none
        | _ => none
      | false => none
    | none => none
  | .buildSlice t len parts => match elemOf Γ t with
    | some (e, te) => match goodT te with
      | true => match buildSK e te ts H len parts.toList with
        | some (c, H') => some (needP ts parts.toList, .c c, H')
        | none => none
      | false => none
    | none => none
  | .call { callee := .builtin .append, args, argTypes } => match args.toList with
    | [x, y] => match argTypes.toList with
      | [t, t'] => match Nat.beq t t' with
        | true => match elemOf Γ t with
          | some (e, te) => match goodT te with
            | true => match bare (opnd ts x) with
              | (p, .c x) => match bare (opnd ts y) with
                | (q, .c y) => match appK e te H x y with
                  | some (r, c, H') => some (p ++ q ++ r, .c c, H')
                  | none => none
                | (q, .so id es off len tot) => match appSo e te H x id es off len tot with
                  | some (r, c, H') => some (p ++ q ++ r, .c c, H')
                  | none => none
                | _ => none
              | _ => none
            | false => none
          | none => none
        | false => none
      | _ => none
    | _ => none
  | .call { callee := .builtin .copy, args, argTypes } => match args.toList with
    | [x, y] => match argTypes.toList with
      | [t, _] => match elemOf Γ t with
        | some (_, te) => match bare (opnd ts x) with
          | (p, .c x) => match bare (opnd ts y) with
            | (q, .c y) => match copyK te H x y with
              | some (r, c, H') => some (p ++ q ++ r, .c c, H')
              | none => none
            | _ => none
          | _ => none
        | none => none
      | _ => none
    | _ => none
  | .call { callee := .builtin .clear, args, argTypes } => match args.toList with
    | [x] => match argTypes.toList with
      | [t] => match elemOf Γ t with
        | some (_, te) => match goodT te with
          | true => match bare (opnd ts x) with
            | (p, .so id es off len tot) => match clearK te H id es off len tot with
              | some (r, H') => some (p ++ r, .u, H')
              | none => none
            | _ => none
          | false => none
        | none => none
      | _ => none
    | _ => none
  | .makeMap t none => newMK Γ H t
  | .mapUpdate t m k x => putMK Γ ts H t m k x
  | .insert t m k x => putMK Γ ts H t m k x
  | .call { callee := .builtin .delete, args, argTypes } => match args.toList with
    | [x, y] => match argTypes.toList with
      | [t, _] => delMK Γ ts H t x y
      | _ => none
    | _ => none
  | _ => none

def nextVal : Next → Value
  | .value v => v
  | _ => undef

theorem eff_ok {P : Program} {Γ : Env} (hΓ : EnvOk P Γ) {K : Keep} {F : Mem} {H H' : List O} {μ : Nat → Value} {w : World} (hw : HSat K F H μ w) {ts : Ts} {a : Act} (hT : TSat F H μ ts a.tmps) (o : Oper) {ns : List Prop} {s : S}
    (h : eff Γ ts H o.op = some (ns, s, H')) (hn : ∀ q ∈ ns, q) :
    ∃ nx w' μ', (execOp a.eval o).run P w = .ok nx w' ∧ (nx = .skip ∨ ∃ v, nx = .value v) ∧ HSat K F H' μ' w' ∧ Ext H μ H' μ' ∧ RepS F H' μ' s (nextVal nx) := by
  have O := opnd_ok hT
  have B : ∀ {x : Operand} {p : List Prop} {s' : S}, bare (opnd ts x) = (p, s') → (∀ q ∈ p, q) → RepS F H μ s' (a.eval x) := fun hb hp => bare_ok (O _) hb hp
  unfold eff at h
  split at h
  · -- alloc
    rename_i t ho
    split at h
    · rename_i i hi
      rw [forceL_eq] at h
      cases h
      obtain ⟨z, z1, z2, _⟩ := zeroL_ok (P := P) (F := F) (H := H) (μ := μ) (hΓ t i hi) w
      obtain ⟨r, w', v', r1, r2, r3, r4⟩ := newVar_ok (P := P) hw t z z2
      refine ⟨.value r, w', _, ?_, .inr ⟨r, rfl⟩, r2, r3, r4⟩
      unfold execOp
      rw [ho]
      apply val1
      show (do let zero ← zeroValue t; pure (Value.pointer (some (← newVar t zero))) : Sem Value).run P w = _
      rw [bind_ok z1]
      exact r1
    · cases h
  · -- box
    rename_i t x ho
    split at h
    rename_i p s' hb
    split at h
    · rename_i cs hc
      cases h
      have hx := B hb hn
      obtain ⟨r, w', v', r1, r2, r3, r4⟩ := newVar_ok (P := P) hw t (a.eval x) (cells_ok hx hc)
      exact ⟨.value r, w', _, by unfold execOp; rw [ho]; exact val1 r1, .inr ⟨r, rfl⟩, r2, r3, r4⟩
    · cases h
  · -- store
    rename_i t ad x ho
    split at h
    · rename_i i hi
      split at h
      · rename_i p c hb1
        split at h
        rename_i q s' hb2
        split at h
        · rename_i ys hys
          split at h
          · rename_i hl
            split at h
            · rename_i r H'' hs
              cases h
              obtain ⟨w', r1, r2, r3⟩ := storeK_ok (P := P) hw (hΓ t i hi) (B hb1 (all_left (all_left hn))) (cells_ok (B hb2 (all_right (all_left hn))) hys) (Nat.eq_of_beq_eq_true hl) hs (all_right hn)
              refine ⟨.skip, w', μ, ?_, .inl rfl, r2, r3, trivial⟩
              unfold execOp
              rw [ho]
              simp only
              rw [bind_ok r1]
              rfl
            · cases h
          · cases h
        · cases h
      · cases h
    · cases h
  · -- makeSlice
    rename_i t l c ho
    split at h
    · rename_i e te he
      split at h
      · rename_i hg
        split at h
        · rename_i p kl l' hb1
          split at h
          · rename_i q kc c' hb2
            obtain ⟨hu, hte⟩ := elemOf_ok (P := P) hΓ he
            have h1 : a.eval l = .int kl l' := B hb1 (by
              cases h
              exact all_left (all_left hn))
            have h2 : a.eval c = .int kc c' := B hb2 (by
              cases h
              exact all_right (all_left hn))
            simp only [Option.some.injEq, Prod.mk.injEq] at h
            obtain ⟨rfl, rfl, rfl⟩ := h
            obtain ⟨r, w', μ', r1, r2, r3, r4⟩ := makeK_ok (P := P) hw hu hte (goodT_ok hg).1 (l := l') (c := c') (xq := sameOp l c) (kl := kl) (kc := kc) (all_right hn)
            exact ⟨.value r, w', μ', by unfold execOp; rw [ho]; simp only [h1, h2]; exact val1 r1, .inr ⟨r, rfl⟩, r2, r3, r4⟩
          · cases h
        · cases h
      · cases h
    · cases h
  · -- buildSlice
    rename_i t len parts ho
    split at h
    · rename_i e te he
      split at h
      · rename_i hg
        split at h
        · rename_i c H'' hb
          cases h
          obtain ⟨hu, hte⟩ := elemOf_ok (P := P) hΓ he
          obtain ⟨r, w', μ', r1, r2, r3, r4⟩ := buildSK_ok (P := P) hw hT hu hte (goodT_ok hg).1 hb hn
          exact ⟨.value r, w', μ', by unfold execOp; rw [ho]; exact val1 r1, .inr ⟨r, rfl⟩, r2, r3, r4⟩
        · cases h
      · cases h
    · cases h
  · -- append
    rename_i args argTypes ho
    split at h
    · rename_i x y hargs
      split at h
      · rename_i t t' htypes
        have ha : args = #[x, y] := by apply Array.toList_inj.1; simpa using hargs
        have hty : argTypes = #[t, t'] := by apply Array.toList_inj.1; simpa using htypes
        subst ha
        subst hty
        split at h
        · rename_i htt
          have : t = t' := Nat.eq_of_beq_eq_true htt
          subst this
          split at h
          · rename_i e te he
            split at h
            · rename_i hg
              split at h
              · rename_i p x' hb1
                split at h
                · rename_i q y' hb2
                  split at h
                  · rename_i r c H'' happ
                    cases h
                    obtain ⟨hu, hte⟩ := elemOf_ok (P := P) hΓ he
                    obtain ⟨v, w', μ', r1, r2, r3, r4⟩ := appK_ok (P := P) (ty := o.type) hw hu hte (goodT_ok hg).1 (goodT_ok hg).2 (B hb1 (all_left (all_left hn))) (B hb2 (all_right (all_left hn))) happ (all_right hn)
                    refine ⟨.value v, w', μ', ?_, .inr ⟨v, rfl⟩, r2, r3, r4⟩
                    have e : (#[x, y] : Array Operand).map a.eval = #[a.eval x, a.eval y] := by simp
                    unfold execOp
                    rw [ho]
                    show (do let d ← resolve a.eval _ o.type; invoke d.target d.args : Sem Next).run P w = _
                    simp only [resolve, invoke, builtin, e]
                    exact val1 r1
                  · cases h
                · rename_i q id' es' off' len' tot' hb2
                  split at h
                  · rename_i r c H'' happ
                    cases h
                    obtain ⟨hu, hte⟩ := elemOf_ok (P := P) hΓ he
                    obtain ⟨v, w', μ', r1, r2, r3, r4⟩ := appSo_ok (P := P) (ty := o.type) hw hu hte (goodT_ok hg).1 (goodT_ok hg).2 (B hb1 (all_left (all_left hn))) (B hb2 (all_right (all_left hn))) happ (all_right hn)
                    refine ⟨.value v, w', μ', ?_, .inr ⟨v, rfl⟩, r2, r3, r4⟩
                    have e : (#[x, y] : Array Operand).map a.eval = #[a.eval x, a.eval y] := by simp
                    unfold execOp
                    rw [ho]
                    show (do let d ← resolve a.eval _ o.type; invoke d.target d.args : Sem Next).run P w = _
                    simp only [resolve, invoke, builtin, e]
                    exact val1 r1
                  · cases h
                · cases h
              · cases h
            · cases h
          · cases h
        · cases h
      · cases h
    · cases h
  · -- copy
    rename_i args argTypes ho
    split at h
    · rename_i x y hargs
      split at h
      · rename_i t t' htypes
        have ha : args = #[x, y] := by apply Array.toList_inj.1; simpa using hargs
        have hty : argTypes = #[t, t'] := by apply Array.toList_inj.1; simpa using htypes
        subst ha
        subst hty
        split at h
        · rename_i e te he
          split at h
          · rename_i p x' hb1
            split at h
            · rename_i q y' hb2
              split at h
              · rename_i r c H'' hcp
                cases h
                obtain ⟨hu, hte⟩ := elemOf_ok (P := P) hΓ he
                obtain ⟨v, w', r1, r2, r3, r4⟩ := copyK_ok (P := P) (t2 := t') (ty := o.type) hw hu hte (B hb1 (all_left (all_left hn))) (B hb2 (all_right (all_left hn))) hcp (all_right hn)
                refine ⟨.value v, w', μ, ?_, .inr ⟨v, rfl⟩, r2, r3, r4⟩
                have e : (#[x, y] : Array Operand).map a.eval = #[a.eval x, a.eval y] := by simp
                unfold execOp
                rw [ho]
                show (do let d ← resolve a.eval _ o.type; invoke d.target d.args : Sem Next).run P w = _
                simp only [resolve, invoke, builtin, e]
                exact val1 r1
              · cases h
            · cases h
          · cases h
        · cases h
      · cases h
    · cases h
  · -- clear
    rename_i args argTypes ho
    split at h
    · rename_i x hargs
      split at h
      · rename_i t htypes
        have ha : args = #[x] := by apply Array.toList_inj.1; simpa using hargs
        have hty : argTypes = #[t] := by apply Array.toList_inj.1; simpa using htypes
        subst ha
        subst hty
        split at h
        · rename_i e te he
          split at h
          · rename_i hg
            split at h
            · rename_i p id es off len tot hb1
              split at h
              · rename_i r H'' hcp
                cases h
                obtain ⟨hu, hte⟩ := elemOf_ok (P := P) hΓ he
                obtain ⟨w', r1, r2, r3⟩ := clearK_ok (P := P) (ty := o.type) hw hu hte (goodT_ok hg).1 (B hb1 (all_left hn)) hcp (all_right hn)
                refine ⟨.value (.tuple #[]), w', μ, ?_, .inr ⟨_, rfl⟩, r2, r3, trivial⟩
                have e : (#[x] : Array Operand).map a.eval = #[a.eval x] := by simp
                unfold execOp
                rw [ho]
                show (do let d ← resolve a.eval _ o.type; invoke d.target d.args : Sem Next).run P w = _
                simp only [resolve, invoke, builtin, e]
                exact val1 r1
              · cases h
            · cases h
          · cases h
        · cases h
      · cases h
    · cases h
  · -- makeMap
    rename_i t ho
    obtain ⟨r, w', μ', r1, r2, r3, r4⟩ := newMK_ok (P := P) hw h
    exact ⟨.value r, w', μ', by unfold execOp; rw [ho]; exact val1 r1, .inr ⟨r, rfl⟩, r2, r3, r4⟩
  · -- mapUpdate
    rename_i t m k x ho
    obtain ⟨w', r1, r2, r3, rfl⟩ := putMK_ok (P := P) hΓ hw hT h hn
    exact ⟨.skip, w', μ, by unfold execOp; rw [ho]; simp only []; rw [bind_ok r1]; rfl, .inl rfl, r2, r3, trivial⟩
  · -- insert
    rename_i t m k x ho
    obtain ⟨w', r1, r2, r3, rfl⟩ := putMK_ok (P := P) hΓ hw hT h hn
    exact ⟨.skip, w', μ, by unfold execOp; rw [ho]; simp only []; rw [bind_ok r1]; rfl, .inl rfl, r2, r3, trivial⟩
  · -- delete
    rename_i args argTypes ho
    split at h
    · rename_i x y hargs
      split at h
      · rename_i t t' htypes
        have ha : args = #[x, y] := by apply Array.toList_inj.1; simpa using hargs
        have hty : argTypes = #[t, t'] := by apply Array.toList_inj.1; simpa using htypes
        subst ha
        subst hty
        obtain ⟨v, w', r1, r2, r3, rfl⟩ := delMK_ok (P := P) (ty := o.type) (t2 := t') hΓ hw hT h hn
        refine ⟨.value v, w', μ, ?_, .inr ⟨v, rfl⟩, r2, r3, trivial⟩
        have e : (#[x, y] : Array Operand).map a.eval = #[a.eval x, a.eval y] := by simp
        unfold execOp
        rw [ho]
        show (do let d ← resolve a.eval _ o.type; invoke d.target d.args : Sem Next).run P w = _
        simp only [resolve, invoke, builtin, e]
        exact val1 r1
      · cases h
    · cases h
  · cases h

/-- What is known of a length. -/
def facts (ts : Ts) (op : Op) : List Prop :=
  match op with
  | .call { callee := .builtin .len, args, .. } => match args.toList with
    | [x] => match opnd ts x with
      | .c (.isl _ n _ _) => [n ≤ 9223372036854775807]
      | .c (.str s) => [s.size ≤ 9223372036854775807]
      | _ => []
    | _ => []
  | _ => []

theorem facts_ok {F : Mem} {H : List O} {μ : Nat → Value} {ts : Ts} {a : Act} (hT : TSat F H μ ts a.tmps) (op : Op) : ∀ q ∈ facts ts op, q := by
  intro q hq
  unfold facts at hq
  split at hq
  · split at hq
    · rename_i x _
      have hx := opnd_ok hT x
      split at hq
      · rename_i ho
        rw [ho] at hx
        obtain ⟨_, _, _, h1, _⟩ := hx
        rw [List.mem_singleton] at hq
        subst hq
        exact h1
      · rename_i ho
        rw [ho] at hx
        rw [List.mem_singleton] at hq
        subst hq
        exact hx.2
      · simp at hq
    · simp at hq
  · simp at hq

/-- A call of a function of the program: what is needed, the function, its arguments. -/
def argsK (ts : Ts) : List Operand → Option (List Prop × List S)
  | [] => some ([], [])
  | x :: r => match bare (opnd ts x) with
    | (p, s) => match argsK ts r with
      | some (q, l) => some (p ++ q, s :: l)
      | none => none

def capS (get : Nat → C) (off : Nat) : Nat → List S
  | 0 => []
  | n + 1 => .c (get off) :: capS get (off + 1) n

def callOf (ts : Ts) (op : Op) : Option (List Prop × FuncId × List S) :=
  match op with
  | .call { callee := .value f, args, .. } => match bare (opnd ts f) with
    | (p, .c (.fn (.func f) n get)) => match argsK ts args.toList with
      | some (q, l) => some (p ++ q, f, l ++ capS get 0 n)
      | none => none
    | _ => none
  | _ => none

def isCall : Op → Bool
  | .call { callee := .value _, .. } => true
  | _ => false

def RepA (F : Mem) (H : List O) (μ : Nat → Value) (args : List S) (vs : Array Value) : Prop :=
  vs.size = args.length ∧ ∀ (j : Nat) s, getL args j = some s → ∃ v, vs[j]? = some v ∧ RepS F H μ s v

theorem argsK_ok {F : Mem} {H : List O} {μ : Nat → Value} {ts : Ts} {a : Act} (hT : TSat F H μ ts a.tmps) : ∀ (xs : List Operand) (q : List Prop) (l : List S), argsK ts xs = some (q, l) → (∀ p ∈ q, p) →
    l.length = xs.length ∧ ∀ (j : Nat) s, getL l j = some s → ∃ v, (xs.map a.eval)[j]? = some v ∧ RepS F H μ s v
  | [], q, l, h, _ => by simp only [argsK, Option.some.injEq, Prod.mk.injEq] at h; obtain ⟨_, rfl⟩ := h; simp [getL]
  | x :: r, q, l, h, hq => by
    simp only [argsK] at h
    cases hb : bare (opnd ts x) with
    | mk p s =>
      cases hr : argsK ts r with
      | none => simp [hr] at h
      | some y =>
        obtain ⟨q', l'⟩ := y
        simp only [hb, hr, Option.some.injEq, Prod.mk.injEq] at h
        obtain ⟨rfl, rfl⟩ := h
        obtain ⟨h1, h2⟩ := argsK_ok hT r q' l' hr (all_right hq)
        refine ⟨by simp [h1], fun j s' hs => ?_⟩
        cases j with
        | zero => simp [getL] at hs; subst hs; exact ⟨_, by simp, bare_ok (opnd_ok hT x) hb (all_left hq)⟩
        | succ j => simp only [getL] at hs; simpa using h2 j s' hs

theorem capS_get (get : Nat → C) : ∀ (n off : Nat), (capS get off n).length = n ∧ ∀ (j : Nat) s, getL (capS get off n) j = some s → j < n ∧ s = .c (get (off + j))
  | 0, off => by simp [capS, getL]
  | n + 1, off => by
    obtain ⟨h1, h2⟩ := capS_get get n (off + 1)
    refine ⟨by simp [capS, h1], fun j s hs => ?_⟩
    cases j with
    | zero => simp [capS, getL] at hs; simp [hs]
    | succ j =>
      simp only [capS, getL] at hs
      obtain ⟨h3, h4⟩ := h2 j s hs
      exact ⟨by omega, by rw [h4]; congr 2; omega⟩

theorem callOf_ok {P : Program} {F : Mem} {H : List O} {μ : Nat → Value} {ts : Ts} {a : Act} (hT : TSat F H μ ts a.tmps) (o : Oper) {q : List Prop} {f : FuncId} {l : List S} (h : callOf ts o.op = some (q, f, l)) (hq : ∀ p ∈ q, p)
    {fn : Func} (hf : P.funcs[f]? = some fn) (hb : fn.body.isSome = true) (hname : (fn.name == "runtime.NumGoroutine") = false) (w : World) :
    ∃ vs, (execOp a.eval o).run P w = .ok (.enter f vs) w ∧ RepA F H μ l vs := by
  unfold callOf at h
  split at h
  · rename_i cal args argTypes ho
    split at h
    · rename_i p f' n get hb1
      split at h
      · rename_i q' l' ha
        cases h
        obtain ⟨cs, c1, c2, c3⟩ := bare_ok (opnd_ok hT _) hb1 (all_left hq)
        obtain ⟨a1, a2⟩ := argsK_ok hT _ _ _ ha (all_right hq)
        obtain ⟨k1, k2⟩ := capS_get get n 0
        refine ⟨args.map a.eval ++ cs, ?_, ?_, fun j s hs => ?_⟩
        · unfold execOp
          rw [ho]
          show (do let d ← resolve a.eval _ o.type; invoke d.target d.args : Sem Next).run P w = _
          simp only [resolve, c1, Deferred.ofValue]
          rw [bind_ok (show (pure _ : Sem Deferred).run P w = .ok _ w from rfl)]
          simp only [invoke, Array.empty_append]
          unfold callFunc
          rw [bind_ok (show program.run P w = .ok P w from rfl)]
          simp only [hf, hname]
          have : fn.body.isNone = false := by cases hfb : fn.body <;> simp_all
          simp only [this]
          rfl
        · simp [a1, k1, c2]
        · rw [getL_eq] at hs
          by_cases c : j < l'.length
          · rw [List.getElem?_append_left c, ← getL_eq] at hs
            obtain ⟨v, v1, v2⟩ := a2 j s hs
            refine ⟨v, ?_, v2⟩
            rw [Array.getElem?_append_left (by simpa [a1] using c)]
            simpa using v1
          · rw [List.getElem?_append_right (by omega), ← getL_eq] at hs
            obtain ⟨h3, h4⟩ := k2 _ s hs
            obtain ⟨v, v1, v2⟩ := c3 _ h3
            subst h4
            refine ⟨v, ?_, ?_⟩
            · rw [Array.getElem?_append_right (by simp [a1] at c ⊢; omega)]
              rw [← v1]
              congr 1
              simp [a1]
            · rw [Nat.zero_add]; exact v2
      · cases h
    · cases h
  · cases h

/-- An append to a slice that was cut. -/
def cutApp (md : Bool) (Γ : Env) (ts : Ts) (H : List O) (op : Op) : Option (List Prop × S × List O) :=
  match op with
  | .call { callee := .builtin .append, args, argTypes } => match args.toList with
    | [x, y] => match argTypes.toList with
      | [t, t'] => match Nat.beq t t' with
        | true => match elemOf Γ t with
          | some (e, te) => match goodT te with
            | true => match bare (opnd ts x) with
              | (p, .c x) => match bare (opnd ts y) with
                | (q, .c y) => match cutK md e te H x y with
                  | some (r, c, H') => some (p ++ q ++ r, .c c, H')
                  | none => none
                | _ => none
              | _ => none
            | false => none
          | none => none
        | false => none
      | _ => none
    | _ => none
  | _ => none

theorem cutApp_ok {P : Program} {Γ : Env} (hΓ : EnvOk P Γ) {K : Keep} {F : Mem} {H H' : List O} {μ : Nat → Value} {w : World} (hw : HSat K F H μ w) {ts : Ts} {a : Act} (hT : TSat F H μ ts a.tmps) (o : Oper) {ns : List Prop} {s : S}
    {md : Bool} (h : cutApp md Γ ts H o.op = some (ns, s, H')) (hn : ∀ q ∈ ns, q) :
    ∃ nx w' μ', (execOp a.eval o).run P w = .ok nx w' ∧ (nx = .skip ∨ ∃ v, nx = .value v) ∧ HSat K F H' μ' w' ∧ Ext H μ H' μ' ∧ RepS F H' μ' s (nextVal nx) := by
  have O := opnd_ok hT
  have B : ∀ {x : Operand} {p : List Prop} {s' : S}, bare (opnd ts x) = (p, s') → (∀ q ∈ p, q) → RepS F H μ s' (a.eval x) := fun hb hp => bare_ok (O _) hb hp
  unfold cutApp at h
  split at h
  · rename_i args argTypes ho
    split at h
    · rename_i x y hargs
      split at h
      · rename_i t t' htypes
        have ha : args = #[x, y] := by apply Array.toList_inj.1; simpa using hargs
        have hty : argTypes = #[t, t'] := by apply Array.toList_inj.1; simpa using htypes
        subst ha
        subst hty
        split at h
        · rename_i htt
          have : t = t' := Nat.eq_of_beq_eq_true htt
          subst this
          split at h
          · rename_i e te he
            split at h
            · rename_i hg
              split at h
              · rename_i p x' hb1
                split at h
                · rename_i q y' hb2
                  split at h
                  · rename_i r c H'' happ
                    cases h
                    obtain ⟨hu, hte⟩ := elemOf_ok (P := P) hΓ he
                    obtain ⟨v, w', μ', r1, r2, r3, r4⟩ := cutK_ok (P := P) (ty := o.type) hw hu hte (goodT_ok hg).1 (goodT_ok hg).2 (B hb1 (all_left (all_left hn))) (B hb2 (all_right (all_left hn))) happ (all_right hn)
                    refine ⟨.value v, w', μ', ?_, .inr ⟨v, rfl⟩, r2, r3, r4⟩
                    have e : (#[x, y] : Array Operand).map a.eval = #[a.eval x, a.eval y] := by simp
                    unfold execOp
                    rw [ho]
                    show (do let d ← resolve a.eval _ o.type; invoke d.target d.args : Sem Next).run P w = _
                    simp only [resolve, invoke, builtin, e]
                    exact val1 r1
                  · cases h
                · cases h
              · cases h
            · cases h
          · cases h
        · cases h
      · cases h
    · cases h
  · cases h
end Go.Am
end

section
/- THE ABSTRACT MACHINE, PART 12: the verification condition of a piece of code, and that it is enough. -/
namespace Go.Am

/-- A node: what is needed, then the rest. -/
structure Need (p : Prop) (k : Prop) : Prop where
  fst : p
  snd : k
/-- A node: what is known from here on. -/
structure Have (p : Prop) (k : Prop) : Prop where
  out : p → k
/-- A node: a branch. -/
structure Br (b : Bool) (x y : Prop) : Prop where
  ofTrue : b = true → x
  ofFalse : b = false → y
/-- A node: a value whose cells must be brought out. -/
structure Frc (s : S) (k : S → Prop) : Prop where
  intro ::
  out : k s

theorem Br.yes {b : Bool} {x y : Prop} (h : b = true) (h' : x) : Br b x y := Br.mk (fun _ => h') (fun e => by rw [h] at e; cases e)
theorem Br.no {b : Bool} {x y : Prop} (h : b = false) (h' : y) : Br b x y := Br.mk (fun e => by rw [h] at e; cases e) (fun _ => h')
theorem Frc.mk {s : S} {k : S → Prop} (s' : S) (h : s = s') (hk : k s') : Frc s k := ⟨by rw [h]; exact hk⟩
theorem Br.out {b : Bool} {x y : Prop} (h : Br b x y) : (b = true → x) ∧ (b = false → y) := ⟨h.ofTrue, h.ofFalse⟩

/-- What a function does, called with these arguments beside these tracked objects. -/
def CSpec (P : Program) (f : FuncId) (args : List S) (H : List O) (Q : S → List O → Prop) : Prop :=
  ∀ K F μ w vs, HSat K F H μ w → RepA F H μ args vs → Calls P f vs w fun e w' => ∃ v F' μ' s H', e = .returned v ∧ F.le F' ∧ HSat K F' H' μ' w' ∧ Ext H μ H' μ' ∧ RepS F' H' μ' s v ∧ Q s H'

/-- The program has a text of the function. -/
structure HasBody (P : Program) (f : FuncId) : Prop where
  out : ∃ fn, P.funcs[f]? = some fn ∧ fn.body.isSome = true ∧ (fn.name == "runtime.NumGoroutine") = false

structure Cx where
  P : Program
  Γ : Env
  nt : Nat
  n0 : Nat

structure Sat (X : Cx) (K : Keep) (F0 : Mem) (H0 : List O) (μ0 : Nat → Value) (ts : Ts) (H : List O) (F : Mem) (μ : Nat → Value) (a : Act) (w : World) : Prop where
  le : F0.le F
  ext : Ext H0 μ0 H μ
  hs : HSat K F H μ w
  tp : TSat F H μ ts a.tmps
  sz : a.tmps.size = X.nt
  df : a.defers = K.ds
  n0 : H0.length ≤ X.n0

inductive Ex where
  | normal | exit (id : Nat) | ret

def exOk : Exit → (Ex → Prop) → Prop
  | .normal, k => k .normal
  | .exit id, k => k (.exit id)
  | .ret, k => k .ret
  | _, _ => False

abbrev Kp := Ex → Ts → List O → Prop

def Post (X : Cx) (K : Keep) (F0 : Mem) (H0 : List O) (μ0 : Nat → Value) (k : Kp) : Exit → Act → World → Prop := fun e a w =>
  ∃ ts H F μ, Sat X K F0 H0 μ0 ts H F μ a w ∧ exOk e fun ex => k ex ts H

/-- A piece of code, from these slots and objects on. -/
def AW (X : Cx) (c : Code) (ts : Ts) (H : List O) (k : Kp) : Prop :=
  ∀ K F0 H0 μ0 F μ a w, Sat X K F0 H0 μ0 ts H F μ a w → c.wp X.P (Post X K F0 H0 μ0 k) a w

/-- A node: a loop. -/
structure Lp (X : Cx) (c : Code) (ts : Ts) (H : List O) (k : Kp) : Prop where
  intro ::
  out : AW X (.loop c) ts H k
/-- A node: a region whose order is open. -/
structure Dr (X : Cx) (id : Nat) (ops : Array Oper) (ts : Ts) (H : List O) (k : Kp) : Prop where
  intro ::
  out : AW X (.region id ops true) ts H k
/-- A node: a call. -/
structure CallN (X : Cx) (f : FuncId) (args : List S) (dst : Option Tmp) (ts : Ts) (H : List O) (k : Ts → List O → Prop) : Prop where
  intro ::
  body : HasBody X.P f
  run : ∀ K F0 H0 μ0 F μ a w vs, Sat X K F0 H0 μ0 ts H F μ a w → RepA F H μ args vs →
    Calls X.P f vs w fun e w' => ∃ v, e = .returned v ∧ ∃ ts' H' F' μ', k ts' H' ∧ Sat X K F0 H0 μ0 ts' H' F' μ' (a.put dst v) w'

/-- A node: what is not modelled. -/
inductive Stuck (_o : Oper) (_ts : Ts) (_H : List O) : Prop
inductive StuckC (_c : Code) (_ts : Ts) (_H : List O) : Prop

def forceP : List Prop → (List Prop → Prop) → Prop
  | [], k => k []
  | p :: r, k => forceP r fun r' => k (p :: r')

theorem forceP_eq : ∀ (l : List Prop) (k : List Prop → Prop), forceP l k = k l
  | [], _ => rfl
  | p :: r, k => by simp only [forceP, forceP_eq r]

noncomputable def needs (l : List Prop) (k : Prop) : Prop := forceP l fun l' => List.rec (motive := fun _ => Prop) k (fun p _ ih => Need p ih) l'

theorem needs_nil {k : Prop} : needs [] k = k := rfl
theorem needs_cons {p : Prop} {r : List Prop} {k : Prop} : needs (p :: r) k = Need p (needs r k) := by simp only [needs, forceP_eq]

theorem needs_out : ∀ {l : List Prop} {k : Prop}, needs l k → (∀ p ∈ l, p) ∧ k
  | [], _, h => ⟨by simp, h⟩
  | p :: r, k, h => by
    rw [needs_cons] at h
    obtain ⟨h1, h2⟩ := needs_out (l := r) h.snd
    refine ⟨fun q hq => ?_, h2⟩
    rcases List.mem_cons.1 hq with rfl | hq
    · exact h.fst
    · exact h1 q hq

noncomputable def needsG (g : Bool) (l : List Prop) (k : Prop) : Prop := forceP l fun l' => List.rec (motive := fun _ => Prop) k (fun p _ ih => Need (g = true → p) ih) l'

theorem needsG_nil {g : Bool} {k : Prop} : needsG g [] k = k := rfl
theorem needsG_cons {g : Bool} {p : Prop} {r : List Prop} {k : Prop} : needsG g (p :: r) k = Need (g = true → p) (needsG g r k) := by simp only [needsG, forceP_eq]

theorem needsG_out {g : Bool} : ∀ {l : List Prop} {k : Prop}, needsG g l k → (g = true → ∀ p ∈ l, p) ∧ k
  | [], _, h => ⟨by simp, h⟩
  | p :: r, k, h => by
    rw [needsG_cons] at h
    obtain ⟨h1, h2⟩ := needsG_out (l := r) h.snd
    refine ⟨fun hg q hq => ?_, h2⟩
    rcases List.mem_cons.1 hq with rfl | hq
    · exact h.fst hg
    · exact h1 hg q hq

noncomputable def haves (l : List Prop) (k : Prop) : Prop := forceP l fun l' => List.rec (motive := fun _ => Prop) k (fun p _ ih => Have p ih) l'

theorem haves_cons {p : Prop} {r : List Prop} {k : Prop} : haves (p :: r) k = Have p (haves r k) := by simp only [haves, forceP_eq]

theorem haves_out : ∀ {l : List Prop} {k : Prop}, haves l k → (∀ p ∈ l, p) → k
  | [], _, h, _ => h
  | p :: _, _, h, hl => by
    rw [haves_cons] at h
    exact haves_out (h.out (hl p (by simp))) (fun q hq => hl q (by simp [hq]))

/-- A value is put into a slot. -/
def putK (nt : Nat) (dst : Option Tmp) (s : S) (ts : Ts) (k : Ts → Prop) : Prop :=
  match dst with
  | none => k ts
  | some d => match Nat.blt d nt with
    | true => k ((d, s) :: ts)
    | false => k ts

def forceH : List O → (List O → Prop) → Prop
  | [], k => k []
  | o :: r, k => match o with
    | .vr cs => forceL cs fun cs' => forceH r fun r' => k (.vr cs' :: r')
    | .arr e es n g => forceH r fun r' => k (.arr e es n g :: r')
    | .dead => forceH r fun r' => k (.dead :: r')
    | .mp sh z va ks val => forceH r fun r' => k (.mp sh z va ks val :: r')

theorem forceH_eq : ∀ (l : List O) (k : List O → Prop), forceH l k = k l
  | [], _ => rfl
  | o :: r, k => by cases o <;> simp only [forceH, forceL_eq, forceH_eq r]

def forceN (n : Nat) (k : Nat → Prop) : Prop :=
  match n with
  | 0 => k 0 | 1 => k 1 | 2 => k 2 | 3 => k 3 | 4 => k 4 | 5 => k 5 | 6 => k 6 | 7 => k 7 | 8 => k 8 | 9 => k 9
  | 10 => k 10 | 11 => k 11 | 12 => k 12 | 13 => k 13 | 14 => k 14 | 15 => k 15 | 16 => k 16 | 17 => k 17 | 18 => k 18 | 19 => k 19
  | 20 => k 20 | 21 => k 21 | 22 => k 22 | 23 => k 23 | 24 => k 24 | 25 => k 25 | 26 => k 26 | 27 => k 27 | 28 => k 28 | 29 => k 29
  | 30 => k 30 | 31 => k 31 | 32 => k 32 | 33 => k 33 | 34 => k 34 | 35 => k 35 | 36 => k 36 | 37 => k 37 | 38 => k 38 | 39 => k 39
  | n => k n

theorem forceN_eq (n : Nat) (k : Nat → Prop) : forceN n k = k n := by
  unfold forceN
  split <;> rfl

def forceS (s : S) (k : S → Prop) : Prop :=
  match s with
  | .u => k .u
  | .a xs => k (.a xs)
  | .t l => k (.t l)
  | .lz g s => k (.lz g s)
  | .so id es off len tot => forceN id fun id' => k (.so id' es off len tot)
  | .c x => match x with
    | .ptr id off => forceN id fun id' => k (.c (.ptr id' off))
    | .sl id es len tot x => forceN id fun id' => k (.c (.sl id' es len tot x))
    | .ep id i j tot => k (.c (.ep id i j tot))
    | .junk => k (.c .junk)
    | .bool b => k (.c (.bool b))
    | .int q n => k (.c (.int q n))
    | .str s => k (.c (.str s))
    | .nilp => k (.c .nilp)
    | .ip n get => k (.c (.ip n get))
    | .isl es n get tight => k (.c (.isl es n get tight))
    | .fn f n get => k (.c (.fn f n get))
    | .nilfn => k (.c .nilfn)
    | .nils => k (.c .nils)
    | .mpr id => forceN id fun id' => k (.c (.mpr id'))
    | .nilm => k (.c .nilm)
    | .raw b => k (.c (.raw b))

theorem forceS_eq (s : S) (k : S → Prop) : forceS s k = k s := by
  cases s with
  | c x => cases x <;> first | rfl | (simp only [forceS, forceN_eq])
  | so => simp only [forceS, forceN_eq]
  | _ => rfl

/-- A load through an element's address is brought out. -/
def isEp (ts : Ts) (op : Op) : Bool :=
  match op with
  | .load _ a => match opnd ts a with
    | .c (.ep ..) => true
    | .lz _ (.c (.ep ..)) => true
    | _ => false
  | _ => false

def frcK (b : Bool) (s : S) (k : S → Prop) : Prop :=
  match b with
  | true => Frc s k
  | false => k s

theorem frcK_out {b : Bool} {s : S} {k : S → Prop} (h : frcK b s k) : k s := by
  cases b
  · exact h
  · exact Frc.out h

/-- A guard's outcome. -/
def guardB (want : Bool) : S → Option Bool
  | .c (.bool b) => match want with
    | true => some b
    | false => some (!b)
  | .lz g s => match guardB want s with
    | some b => some (g && b)
    | none => none
  | _ => none

noncomputable def vcOp0 (X : Cx) (o : Oper) (ts : Ts) (H : List O) (K : Ts → List O → Prop) : Prop :=
  match isCall o.op with
  | true => match callOf ts o.op with
    | some (q, f, l) => needs q (CallN X f l o.dst ts H K)
    | none => Stuck o ts H
  | false => match val X.Γ ts H o.op with
    | some (ns, s) => haves (facts ts o.op) (needs ns (frcK (isEp ts o.op) s fun s' => forceS s' fun s'' => putK X.nt o.dst s'' ts fun ts' => K ts' H))
    | none => match eff X.Γ ts H o.op with
      | some (ns, s, H') => needs ns (forceH H' fun H'' => forceS s fun s' => putK X.nt o.dst s' ts fun ts' => K ts' H'')
      | none => Stuck o ts H

/-- A slice that may be nil, compared with nil. -/
def nilCmp (Γ : Env) (ts : Ts) (H : List O) (op : Op) : Option (List Prop × Nat) :=
  match op with
  | .binOp .eql t x y _ => match bare (opnd ts x) with
    | (p, .c (.isl _ n _ _)) => match opnd ts y with
      | .c .nils => match elemOf Γ t with
        | some _ => some (p, n)
        | none => none
      | _ => none
    | (p, .c (.sl id _ len tot _)) => match opnd ts y with
      | .c .nils => match elemOf Γ t with
        | some _ => match getL H id with
          | some (.arr _ _ n _) => some (p ++ [tot = n], len)
          | _ => none
        | none => none
      | _ => none
    | _ => none
  | _ => none

noncomputable def vcOp (X : Cx) (o : Oper) (ts : Ts) (H : List O) (K : Ts → List O → Prop) : Prop :=
  match nilCmp X.Γ ts H o.op with
  | some (p, n) => needs p (∀ b : Bool, (0 < n → b = false) → putK X.nt o.dst (.c (.bool b)) ts fun ts' => K ts' H)
  | none => vcOp0 X o ts H K

/-- A node: a call under a guard, of a function that changes nothing. -/
inductive CallG (P : Program) (g : Bool) (f : FuncId) (args : List S) (H : List O) (k : S → List O → Prop) : Prop
  | mk (s : S) (h : g = true → HasBody P f ∧ CSpec P f args H fun s' H' => s' = s ∧ H' = H) (hk : k s H) : CallG P g f args H k
  | br (s : S) (h : g = true → HasBody P f ∧ CSpec P f args H k) (hn : g = false → k s H) : CallG P g f args H k

theorem CallG.out {P : Program} {g : Bool} {f : FuncId} {args : List S} {H : List O} {k : S → List O → Prop} (h : CallG P g f args H k) :
    (g = true → HasBody P f ∧ CSpec P f args H k) ∧ (g = false → ∃ s, k s H) := by
  rcases h with ⟨s, h1, h2⟩ | ⟨s, h1, h2⟩
  · refine ⟨fun hg => ⟨(h1 hg).1, fun K F μ w vs hw hA => ?_⟩, fun _ => ⟨s, h2⟩⟩
    refine ((h1 hg).2 K F μ w vs hw hA).mono ?_
    rintro e w' ⟨v, F', μ', s', H', r1, r2, r3, r4, r5, r6, r7⟩
    exact ⟨v, F', μ', s', H', r1, r2, r3, r4, r5, by rw [r6, r7]; exact h2⟩
  · exact ⟨h1, fun hg => ⟨_, h2 hg⟩⟩

noncomputable def vcG (X : Cx) (o : Oper) (g : Bool) (ts : Ts) (H : List O) (K : Ts → List O → Prop) : Prop :=
  match isCall o.op with
  | true => match callOf ts o.op with
    | some (q, f, l) => needsG g q (CallG X.P g f l H fun s H' => forceH H' fun H'' => forceS s fun s' => putK X.nt o.dst (.lz g s') ts fun ts' => K ts' H'')
    | none => Stuck o ts H
  | false => match val X.Γ ts H o.op with
    | some (ns, s) => needsG g ns (frcK (isEp ts o.op) s fun s0 => forceS s0 fun s' => putK X.nt o.dst (.lz g s') ts fun ts' => K ts' H)
    | none => Br g (vcOp X o ts H K) (putK X.nt o.dst .u ts fun ts' => K ts' H)

noncomputable def vcOps (X : Cx) (all : List Oper) (l : List Oper) : Ts → List O → (Ts → List O → Prop) → Prop :=
  List.rec (motive := fun _ => Ts → List O → (Ts → List O → Prop) → Prop) (fun ts H K => K ts H) (fun o _ ih ts H K =>
    match o.guard with
    | none => vcOp X o ts H fun ts' H' => ih ts' H' K
    | some (j, want) => match getL all j with
      | some oj => match oj.dst with
        | some d => match guardB want (find d ts) with
          | some g => match Nat.blt d X.nt with
            | true => vcG X o g ts H fun ts' H' => ih ts' H' K
            | false => Stuck o ts H
          | none => Stuck o ts H
        | none => Stuck o ts H
      | none => Stuck o ts H) l

theorem vcOps_nil {X : Cx} {all : List Oper} {ts : Ts} {H : List O} {K : Ts → List O → Prop} : vcOps X all [] ts H K = K ts H := rfl
theorem vcOps_cons {X : Cx} {all : List Oper} {o : Oper} {r : List Oper} {ts : Ts} {H : List O} {K : Ts → List O → Prop} : vcOps X all (o :: r) ts H K = (match o.guard with
    | none => vcOp X o ts H fun ts' H' => vcOps X all r ts' H' K
    | some (j, want) => match getL all j with
      | some oj => match oj.dst with
        | some d => match guardB want (find d ts) with
          | some g => match Nat.blt d X.nt with
            | true => vcG X o g ts H fun ts' H' => vcOps X all r ts' H' K
            | false => Stuck o ts H
          | none => Stuck o ts H
        | none => Stuck o ts H
      | none => Stuck o ts H) := rfl

noncomputable def vc (X : Cx) (c : Code) : Ts → List O → Kp → Prop :=
  Code.rec (motive := fun _ => Ts → List O → Kp → Prop)
    (fun ts H K => K .normal ts H)
    (fun id ops draw ts H K => match draw with
      | false => vcOps X ops.toList ops.toList ts H (K .normal)
      | true => Dr X id ops ts H K)
    (fun _ _ iha ihb ts H K => iha ts H fun e ts' H' => match e with
      | .normal => ihb ts' H' K
      | .exit id => K (.exit id) ts' H'
      | .ret => K .ret ts' H')
    (fun c t e iht ihe ts H K => match bare (opnd ts c) with
      | (p, .c (.bool b)) => needs p (Br b (iht ts H K) (ihe ts H K))
      | _ => StuckC (.cond c t e) ts H)
    (fun id _ ih ts H K => ih ts H fun e ts' H' => match e with
      | .exit id' => match Nat.beq id' id with
        | true => K .normal ts' H'
        | false => K (.exit id') ts' H'
      | .normal => K .normal ts' H'
      | .ret => K .ret ts' H')
    (fun c _ ts H K => Lp X c ts H K)
    (fun f p a b _ _ ts H _ => StuckC (.rangeFunc f p a b) ts H)
    (fun id ts H K => K (.exit id) ts H)
    (fun _ ih ts H K => ih ts H K)
    (fun _ ts H K => K .normal ts H)
    (fun l ts H _ => StuckC (.goto l) ts H)
    (fun ts H K => K .ret ts H)
    (fun why ts H _ => StuckC (.refuse why) ts H) c

section
variable {X : Cx} {ts : Ts} {H : List O} {K : Kp}
theorem vc_skip : vc X .skip ts H K = K .normal ts H := rfl
theorem vc_region {id : Nat} {ops : Array Oper} {draw : Bool} : vc X (.region id ops draw) ts H K = (match draw with
    | false => vcOps X ops.toList ops.toList ts H (K .normal)
    | true => Dr X id ops ts H K) := rfl
theorem vc_seq {a b : Code} : vc X (.seq a b) ts H K = vc X a ts H fun e ts' H' => match e with
    | .normal => vc X b ts' H' K
    | .exit id => K (.exit id) ts' H'
    | .ret => K .ret ts' H' := rfl
theorem vc_cond {c : Operand} {t e : Code} : vc X (.cond c t e) ts H K = (match bare (opnd ts c) with
    | (p, .c (.bool b)) => needs p (Br b (vc X t ts H K) (vc X e ts H K))
    | _ => StuckC (.cond c t e) ts H) := rfl
theorem vc_block {id : Nat} {c : Code} : vc X (.block id c) ts H K = vc X c ts H fun e ts' H' => match e with
    | .exit id' => match Nat.beq id' id with
      | true => K .normal ts' H'
      | false => K (.exit id') ts' H'
    | .normal => K .normal ts' H'
    | .ret => K .ret ts' H' := rfl
theorem vc_loop {c : Code} : vc X (.loop c) ts H K = Lp X c ts H K := rfl
theorem vc_exit {id : Nat} : vc X (.exit id) ts H K = K (.exit id) ts H := rfl
theorem vc_ret : vc X .ret ts H K = K .ret ts H := rfl
end

theorem stuck_out {o : Oper} {ts : Ts} {H : List O} (h : Stuck o ts H) : False := by cases h
theorem stuckC_out {c : Code} {ts : Ts} {H : List O} (h : StuckC c ts H) : False := by cases h

theorem Sat.put {X : Cx} {K : Keep} {F0 : Mem} {H0 : List O} {μ0 : Nat → Value} {ts : Ts} {H H' : List O} {F F' : Mem} {μ μ' : Nat → Value} {a : Act} {w w' : World} (h : Sat X K F0 H0 μ0 ts H F μ a w)
    (hF : F.le F') (hE : Ext H μ H' μ') (hw : HSat K F' H' μ' w') {s : S} {v : Value} (hs : RepS F' H' μ' s v) {dst : Option Tmp} {k : Ts → Prop} (hk : putK X.nt dst s ts k) :
    ∃ ts', k ts' ∧ Sat X K F0 H0 μ0 ts' H' F' μ' (a.put dst v) w' := by
  have ht := h.tp.mono hF hE
  cases dst with
  | none => exact ⟨ts, hk, h.le.le_trans' hF, h.ext.trans hE, hw, ht, h.sz, h.df, h.n0⟩
  | some d =>
    simp only [putK] at hk
    cases hb : Nat.blt d X.nt with
    | true =>
      rw [hb] at hk
      have hd : d < a.tmps.size := by rw [h.sz]; exact Nat.le_of_ble_eq_true hb
      exact ⟨_, hk, h.le.le_trans' hF, h.ext.trans hE, hw, ht.put hd hs, by simp [Act.put, h.sz], h.df, h.n0⟩
    | false =>
      rw [hb] at hk
      have hd : ¬ d < a.tmps.size := by
        rw [h.sz]
        intro hlt
        have : Nat.blt d X.nt = true := Nat.ble_eq_true_of_le hlt
        rw [this] at hb
        cases hb
      refine ⟨_, hk, h.le.le_trans' hF, h.ext.trans hE, hw, ?_, by simp [Act.put, h.sz], h.df, h.n0⟩
      have : (a.put (some d) v).tmps = a.tmps := by
        simp only [Act.put]
        exact Array.setIfInBounds_eq_of_size_le (Nat.le_of_not_lt hd)
      rw [this]
      exact ht

end Go.Am
end

section
/- THE ABSTRACT MACHINE, PART 13: soundness. -/
namespace Go.Am

section
variable {X : Cx} {K : Keep} {F0 : Mem} {H0 : List O} {μ0 : Nat → Value}

theorem CallN.out {f : FuncId} {args : List S} {dst : Option Tmp} {ts : Ts} {H : List O} {k : Ts → List O → Prop} (h : CallN X f args dst ts H k) :
    HasBody X.P f ∧ ∀ K F0 H0 μ0 F μ a w vs, Sat X K F0 H0 μ0 ts H F μ a w → RepA F H μ args vs →
      Calls X.P f vs w fun e w' => ∃ v, e = .returned v ∧ ∃ ts' H' F' μ', k ts' H' ∧ Sat X K F0 H0 μ0 ts' H' F' μ' (a.put dst v) w' := ⟨h.body, h.run⟩

/-- A call by a contract. -/
theorem CallN.spec {f : FuncId} {args : List S} {dst : Option Tmp} {ts : Ts} {H : List O} {k : Ts → List O → Prop} (hb : HasBody X.P f)
    (h : CSpec X.P f args H fun s H' => forceH H' fun H'' => forceS s fun s' => putK X.nt dst s' ts fun ts' => k ts' H'') : CallN X f args dst ts H k := by
  refine ⟨hb, fun K F0 H0 μ0 F μ a w vs hs hA => (h K F μ w vs hs.hs hA).mono ?_⟩
  rintro e w' ⟨v, F', μ', s, H', rfl, g1, g2, g3, g4, g5⟩
  rw [forceH_eq, forceS_eq] at g5
  obtain ⟨ts', p1, p2⟩ := hs.put g1 g3 g2 g4 g5
  exact ⟨v, rfl, ts', H', F', μ', p1, p2⟩

theorem RepA.ext {F : Mem} {H : List O} {μ : Nat → Value} {l : List S} {vs : Array Value} (h : RepA F H μ l vs) : RepA F H μ l vs := h

theorem vcOp0_sound (hΓ : EnvOk X.P X.Γ) {o : Oper} {ts : Ts} {H : List O} {k : Ts → List O → Prop} {F : Mem} {μ : Nat → Value} {a : Act} {w : World} (h : vcOp0 X o ts H k) (hs : Sat X K F0 H0 μ0 ts H F μ a w)
    {next : Act → World → Prop} {Q : Exit → Act → World → Prop} (hn : ∀ ts' H' F' μ' a' w', k ts' H' → Sat X K F0 H0 μ0 ts' H' F' μ' a' w' → next a' w') : o.wp X.P a w next Q := by
  unfold vcOp0 at h
  unfold Oper.wp
  cases hc : isCall o.op with
  | true =>
    simp only [hc] at h
    cases hco : callOf ts o.op with
    | none => simp only [hco] at h; exact (stuck_out h).elim
    | some y =>
      obtain ⟨q, f, l⟩ := y
      simp only [hco] at h
      obtain ⟨h1, h2⟩ := needs_out h
      obtain ⟨⟨fn, f1, f2, f3⟩, hspec⟩ := h2.out
      obtain ⟨vs, r1, r2⟩ := callOf_ok (P := X.P) hs.tp o hco h1 f1 f2 f3 w
      rw [r1, Oper.upon_enter]
      refine (hspec K F0 H0 μ0 F μ a w vs hs r2).mono ?_
      rintro e w' ⟨v, rfl, ts', H', F', μ', p1, p2⟩
      exact hn _ _ _ _ _ _ p1 p2
  | false =>
    simp only [hc] at h
    cases hv : val X.Γ ts H o.op with
    | some y =>
      obtain ⟨ns, s⟩ := y
      simp only [hv] at h
      obtain ⟨h1, h2⟩ := needs_out (haves_out h (facts_ok hs.tp o.op))
      have h3 := frcK_out h2
      rw [forceS_eq] at h3
      obtain ⟨r, r1, r2⟩ := val_ok (P := X.P) hΓ hs.hs hs.tp o hv h1
      rw [r1, Oper.upon_value]
      obtain ⟨ts', p1, p2⟩ := hs.put (Mem.le_refl F) (Ext.refl H μ) hs.hs r2 h3
      exact hn _ _ _ _ _ _ p1 p2
    | none =>
      simp only [hv] at h
      cases he : eff X.Γ ts H o.op with
      | none => simp only [he] at h; exact (stuck_out h).elim
      | some y =>
        obtain ⟨ns, s, H'⟩ := y
        simp only [he] at h
        obtain ⟨h1, h2⟩ := needs_out h
        rw [forceH_eq, forceS_eq] at h2
        obtain ⟨nx, w', μ', r1, r2, r3, r4, r5⟩ := eff_ok (P := X.P) hΓ hs.hs hs.tp o he h1
        rw [r1]
        obtain ⟨ts', p1, p2⟩ := hs.put (Mem.le_refl F) r4 r3 r5 h2
        rcases r2 with rfl | ⟨v, rfl⟩
        · rw [Oper.upon_skip]; exact hn _ _ _ _ _ _ p1 p2
        · rw [Oper.upon_value]; exact hn _ _ _ _ _ _ p1 p2

theorem nil_eql {P : Program} (w : World) (t e : Nat) (a : Option Addr) (l c : Nat) (h : P.underlying t = some (.slice e)) : (binOp .eql t (.slice a l c) (.slice none 0 0)).run P w = .ok (.bool a.isNone) w := by
  have key : ∀ d, (Op.equalIn (d + 1) t (.slice a l c) (.slice none 0 0)).run P w = .ok a.isNone w := fun d => by
    cases a <;> simp [Op.equalIn, run_underlying h]
  have : (Op.equal t (.slice a l c) (.slice none 0 0)).run P w = .ok a.isNone w := key 9999
  simp [binOp, this]

theorem nilCmp_run (hΓ : EnvOk X.P X.Γ) {o : Oper} {a : Act} {t yt : Nat} {x y : Operand} {ad : Option Addr} {n cap : Nat} (ho : o.op = .binOp .eql t x y yt) {i : Nat × TI} (he : elemOf X.Γ t = some i) (hv : a.eval x = .slice ad n cap) (hz : a.eval y = .slice none 0 0) (w : World) :
    (execOp a.eval o).run X.P w = .ok (.value (.bool ad.isNone)) w := by
  obtain ⟨hu, -⟩ := elemOf_ok (P := X.P) hΓ he
  unfold execOp
  rw [ho]
  refine val1 ?_
  rw [hv, hz]
  rw [bind_ok (show (eqGuard .eql t x y (.slice ad n cap) (.slice none 0 0)).run X.P w = .ok () w from rfl)]
  exact nil_eql w t _ ad n cap hu

theorem nilCmp_ok (hΓ : EnvOk X.P X.Γ) {o : Oper} {ts : Ts} {H : List O} {F : Mem} {μ : Nat → Value} {a : Act} {p : List Prop} {n : Nat} {w : World} (h : nilCmp X.Γ ts H o.op = some (p, n)) (hw : HSat K F H μ w) (hT : TSat F H μ ts a.tmps) (hp : ∀ q ∈ p, q) :
    ∃ b : Bool, (0 < n → b = false) ∧ (execOp a.eval o).run X.P w = .ok (.value (.bool b)) w := by
  unfold nilCmp at h
  split at h
  · rename_i t x y yt ho
    split at h
    · rename_i p' es n' g tt hb
      split at h
      · rename_i hy
        split at h
        · rename_i i he
          cases h
          obtain ⟨ad, cap, hv, h1, h2, h3, h4, h5⟩ : RepS F H μ (.c (.isl es n g tt)) (a.eval x) := bare_ok (opnd_ok hT x) hb hp
          have hz : a.eval y = .slice none 0 0 := by
            have : RepS F H μ (.c .nils) (a.eval y) := by rw [← hy]; exact opnd_ok hT y
            exact this
          refine ⟨ad.isNone, fun hn => ?_, nilCmp_run hΓ ho he hv hz w⟩
          cases ad with
          | none => exact absurd (h4 rfl) (by omega)
          | some _ => rfl
        · cases h
      · cases h
    · rename_i p' id es len tot tt hb
      split at h
      · rename_i hy
        split at h
        · rename_i i he
          split at h
          · rename_i e' es' n' g hg
            cases h
            obtain ⟨_, e2, n2, g2, h1, h2, h3, h4⟩ : RepS F H μ (.c (.sl id es n tot tt)) (a.eval x) := bare_ok (opnd_ok hT x) hb (all_left hp)
            rw [hg] at h1
            cases h1
            obtain ⟨ad, cap, m1, m2, _⟩ := h4 (all_right hp _ (by simp))
            have hz : a.eval y = .slice none 0 0 := by
              have : RepS F H μ (.c .nils) (a.eval y) := by rw [← hy]; exact opnd_ok hT y
              exact this
            refine ⟨ad.isNone, fun hn => ?_, nilCmp_run hΓ ho he m2 hz w⟩
            obtain ⟨xs, o1, _⟩ := hw.ob id _ hg
            rcases o1.2 with ⟨q1, q2⟩ | ⟨b, cap', cur, q1, _⟩
            · omega
            · rw [q1] at m1; cases m1; rfl
          · cases h
        · cases h
      · cases h
    · cases h
  · cases h

theorem vcOp_sound (hΓ : EnvOk X.P X.Γ) {o : Oper} {ts : Ts} {H : List O} {k : Ts → List O → Prop} {F : Mem} {μ : Nat → Value} {a : Act} {w : World} (h : vcOp X o ts H k) (hs : Sat X K F0 H0 μ0 ts H F μ a w)
    {next : Act → World → Prop} {Q : Exit → Act → World → Prop} (hn : ∀ ts' H' F' μ' a' w', k ts' H' → Sat X K F0 H0 μ0 ts' H' F' μ' a' w' → next a' w') : o.wp X.P a w next Q := by
  unfold vcOp at h
  cases hc : nilCmp X.Γ ts H o.op with
  | none => rw [hc] at h; exact vcOp0_sound hΓ h hs hn
  | some y =>
    obtain ⟨p, n⟩ := y
    simp only [hc] at h
    obtain ⟨h1, h2⟩ := needs_out h
    obtain ⟨b, b1, b2⟩ := nilCmp_ok hΓ hc hs.hs hs.tp h1
    unfold Oper.wp
    rw [b2, Oper.upon_value]
    obtain ⟨ts', p1, p2⟩ := hs.put (s := .c (.bool b)) (Mem.le_refl F) (Ext.refl H μ) hs.hs rfl (h2 b b1)
    exact hn _ _ _ _ _ _ p1 p2

theorem guardB_ok {F : Mem} {H : List O} {μ : Nat → Value} {want : Bool} : ∀ {s : S} {g : Bool} {v : Value}, guardB want s = some g → RepS F H μ s v →
    (g = true ↔ v = .bool want)
  | .c (.bool b), g, v, h, hv => by
    rw [show v = .bool b from hv]
    cases want <;> simp only [guardB, Option.some.injEq] at h <;> subst h <;> simp
  | .lz g0 s, g, v, h, hv => by
    simp only [guardB] at h
    cases hs : guardB want s with
    | none => simp [hs] at h
    | some b =>
      simp only [hs, Option.some.injEq] at h
      subst h
      cases g0 with
      | false =>
        rw [hv.2 rfl]
        simp [undef]
      | true => simpa using guardB_ok hs (hv.1 rfl)
  | .u, _, _, h, _ => by simp [guardB] at h
  | .a _, _, _, h, _ => by simp [guardB] at h
  | .t _, _, _, h, _ => by simp [guardB] at h
  | .c .junk, _, _, h, _ => by simp [guardB] at h
  | .c (.int _ _), _, _, h, _ => by simp [guardB] at h
  | .c (.str _), _, _, h, _ => by simp [guardB] at h
  | .c .nilp, _, _, h, _ => by simp [guardB] at h
  | .c (.ptr _ _), _, _, h, _ => by simp [guardB] at h
  | .c (.ep _ _ _ _), _, _, h, _ => by simp [guardB] at h
  | .c (.ip _ _), _, _, h, _ => by simp [guardB] at h
  | .c (.sl _ _ _ _ _), _, _, h, _ => by simp [guardB] at h
  | .c (.isl _ _ _ _), _, _, h, _ => by simp [guardB] at h
  | .c (.fn _ _ _), _, _, h, _ => by simp [guardB] at h
  | .c .nilfn, _, _, h, _ => by simp [guardB] at h
  | .c .nils, _, _, h, _ => by simp [guardB] at h

theorem vcG_sound (hΓ : EnvOk X.P X.Γ) {o : Oper} {g : Bool} {ts : Ts} {H : List O} {k : Ts → List O → Prop} {F : Mem} {μ : Nat → Value} {a : Act} {w : World} (h : vcG X o g ts H k) (hs : Sat X K F0 H0 μ0 ts H F μ a w)
    {next : Act → World → Prop} {Q : Exit → Act → World → Prop} (hn : ∀ ts' H' F' μ' a' w', k ts' H' → Sat X K F0 H0 μ0 ts' H' F' μ' a' w' → next a' w') :
    if g = true then o.wp X.P a w next Q else next (a.put o.dst undef) w := by
  unfold vcG at h
  have skip : ∀ {s : S} {kk : Ts → Prop}, g = false → RepS F H μ s undef → putK X.nt o.dst s ts kk → (∀ ts', kk ts' → k ts' H) → next (a.put o.dst undef) w := by
    intro s kk _ hr hp hkk
    obtain ⟨ts', p1, p2⟩ := hs.put (Mem.le_refl F) (Ext.refl H μ) hs.hs hr hp
    exact hn _ _ _ _ _ _ (hkk _ p1) p2
  cases hc : isCall o.op with
  | true =>
    simp only [hc] at h
    cases hco : callOf ts o.op with
    | none => simp only [hco] at h; exact (stuck_out h).elim
    | some y =>
      obtain ⟨q, f, l⟩ := y
      simp only [hco] at h
      obtain ⟨h1, h2⟩ := needsG_out h
      obtain ⟨h3, h5⟩ := h2.out
      cases hg : g with
      | false =>
        simp only [Bool.false_eq_true, if_false]
        subst hg
        obtain ⟨s, h4⟩ := h5 rfl
        rw [forceH_eq, forceS_eq] at h4
        exact skip (s := .lz false s) rfl ⟨fun e => by (cases e), fun _ => rfl⟩ h4 (fun _ h => h)
      | true =>
        subst hg
        simp only [if_true]
        unfold Oper.wp
        obtain ⟨⟨fn, f1, f2, f3⟩, hspec⟩ := h3 rfl
        obtain ⟨vs, r1, r2⟩ := callOf_ok (P := X.P) hs.tp o hco (h1 rfl) f1 f2 f3 w
        rw [r1, Oper.upon_enter]
        refine (hspec K F μ w vs hs.hs r2).mono ?_
        rintro e w' ⟨v, F', μ', s', H', rfl, g1, g2, g3, g4, h4⟩
        rw [forceH_eq, forceS_eq] at h4
        obtain ⟨ts', p1, p2⟩ := hs.put (s := .lz true s') g1 g3 g2 ⟨fun _ => g4, fun e => by cases e⟩ h4
        exact hn _ _ _ _ _ _ p1 p2
  | false =>
    simp only [hc] at h
    cases hv : val X.Γ ts H o.op with
    | some y =>
      obtain ⟨ns, s⟩ := y
      simp only [hv] at h
      obtain ⟨h1, h2⟩ := needsG_out h
      replace h2 := frcK_out h2
      rw [forceS_eq] at h2
      cases hg : g with
      | false =>
        simp only [Bool.false_eq_true, if_false]
        subst hg
        exact skip (s := .lz false s) rfl ⟨fun e => by (cases e), fun _ => rfl⟩ h2 (fun _ h => h)
      | true =>
        subst hg
        simp only [if_true]
        unfold Oper.wp
        obtain ⟨r, r1, r2⟩ := val_ok (P := X.P) hΓ hs.hs hs.tp o hv (h1 rfl)
        rw [r1, Oper.upon_value]
        obtain ⟨ts', p1, p2⟩ := hs.put (s := .lz true s) (Mem.le_refl F) (Ext.refl H μ) hs.hs ⟨fun _ => r2, fun e => by cases e⟩ h2
        exact hn _ _ _ _ _ _ p1 p2
    | none =>
      simp only [hv] at h
      obtain ⟨h1, h2⟩ := h.out
      cases hg : g with
      | false =>
        simp only [Bool.false_eq_true, if_false]
        exact skip hg (s := .u) trivial (h2 hg) (fun _ h => h)
      | true =>
        simp only [if_true]
        exact vcOp_sound hΓ (h1 hg) hs hn

theorem vcOps_sound2 (hΓ : EnvOk X.P X.Γ) (all : List Oper) {Q : Exit → Act → World → Prop} (l2 : List Oper) : ∀ (l : List Oper) {ts : Ts} {H : List O} {k : Ts → List O → Prop} {F : Mem} {μ : Nat → Value} {a : Act} {w : World}, vcOps X all l ts H k → Sat X K F0 H0 μ0 ts H F μ a w →
    (∀ ts' H' F' μ' a' w', k ts' H' → Sat X K F0 H0 μ0 ts' H' F' μ' a' w' → wpList X.P all.toArray Q l2 a' w') → wpList X.P all.toArray Q (l ++ l2) a w
  | [], _, _, _, _, _, _, _, h, hs, hn => hn _ _ _ _ _ _ (by rw [vcOps_nil] at h; exact h) hs
  | o :: r, ts, H, k, F, μ, a, w, h, hs, hn => by
    rw [vcOps_cons] at h
    rw [List.cons_append]
    refine wpList_step fun kk hkk => ?_
    cases hg : o.guard with
    | none =>
      simp only [hg] at h
      simp only [Region.wanted, hg, if_true]
      exact vcOp_sound hΓ h hs fun ts' H' F' μ' a' w' h1 h2 => hkk _ _ (vcOps_sound2 hΓ all l2 r h1 h2 hn)
    | some y =>
      obtain ⟨j, want⟩ := y
      simp only [hg] at h
      cases hj : getL all j with
      | none => simp only [hj] at h; exact (stuck_out h).elim
      | some oj =>
        cases hd : oj.dst with
        | none => simp only [hj, hd] at h; exact (stuck_out h).elim
        | some d =>
          cases hgb : guardB want (find d ts) with
          | none => simp only [hj, hd, hgb] at h; exact (stuck_out h).elim
          | some g =>
            cases hlt : Nat.blt d X.nt with
            | false => simp only [hj, hd, hgb, hlt] at h; exact (stuck_out h).elim
            | true =>
              simp only [hj, hd, hgb, hlt] at h
              have hw := vcG_sound hΓ (next := kk) (Q := Q) h hs fun ts' H' F' μ' a' w' h1 h2 => hkk _ _ (vcOps_sound2 hΓ all l2 r h1 h2 hn)
              have hdlt : d < a.tmps.size := by rw [hs.sz]; exact Nat.le_of_ble_eq_true hlt
              have hrep := guardB_ok hgb (hs.tp d)
              have hy : (Region.wanted o (yielded all.toArray a.tmps) = true) ↔ g = true := by
                rw [getL_eq] at hj
                simp only [Region.wanted, hg, yielded]
                simp only [List.getElem?_toArray, hj, Option.bind_some, hd]
                have : a.tmps[d]? = some a.tmps[d] := Array.getElem?_eq_getElem hdlt
                simp only [this]
                have he : a.tmps.getD d undef = a.tmps[d] := by simp [Array.getD, hdlt]
                rw [he] at hrep
                rw [hrep]
                generalize a.tmps[d] = vv
                cases vv <;> simp
              by_cases c : g = true
              · rw [if_pos c] at hw
                rw [if_pos (hy.2 c)]
                exact hw
              · rw [if_neg c] at hw
                rw [if_neg (fun e => c (hy.1 e))]
                exact hw

theorem vcOps_sound (hΓ : EnvOk X.P X.Γ) (all : List Oper) {Q : Exit → Act → World → Prop} (l : List Oper) {ts : Ts} {H : List O} {k : Ts → List O → Prop} {F : Mem} {μ : Nat → Value} {a : Act} {w : World} (h : vcOps X all l ts H k) (hs : Sat X K F0 H0 μ0 ts H F μ a w)
    (hn : ∀ ts' H' F' μ' a' w', k ts' H' → Sat X K F0 H0 μ0 ts' H' F' μ' a' w' → Q .normal a' w') : wpList X.P all.toArray Q l a w := by
  have := vcOps_sound2 hΓ all (Q := Q) [] l h hs hn
  rwa [List.append_nil] at this

theorem vc_sound (hΓ : EnvOk X.P X.Γ) : ∀ (c : Code) {ts : Ts} {H : List O} {k : Kp}, vc X c ts H k → AW X c ts H k := by
  intro c
  induction c with
  | skip => intro ts H k h K F0 H0 μ0 F μ a w hs; exact wp_skip ⟨ts, H, F, μ, hs, h⟩
  | region id ops draw =>
    intro ts H k h
    cases draw with
    | false =>
      intro K F0 H0 μ0 F μ a w hs
      simp only [vc_region] at h
      refine wp_region_list ?_
      have := vcOps_sound (K := K) (F0 := F0) (H0 := H0) (μ0 := μ0) hΓ ops.toList (Q := Post X K F0 H0 μ0 k) ops.toList h hs fun ts' H' F' μ' a' w' h1 h2 => ⟨ts', H', F', μ', h2, h1⟩
      simpa using this
    | true =>
      simp only [vc_region] at h
      exact h.out
  | seq x y ihx ihy =>
    intro ts H k h K F0 H0 μ0 F μ a w hs
    rw [vc_seq] at h
    refine wp_seq (wp_mono (ihx h K F0 H0 μ0 F μ a w hs) ?_)
    rintro e a' w' ⟨ts', H', F', μ', hs', he⟩
    cases e with
    | normal => exact ihy he K F0 H0 μ0 F' μ' a' w' hs'
    | exit id => exact ⟨ts', H', F', μ', hs', he⟩
    | ret => exact ⟨ts', H', F', μ', hs', he⟩
    | goto l => exact he.elim
    | panic ch => exact he.elim
    | outgrown => exact he.elim
  | cond c x y ihx ihy =>
    intro ts H k h K F0 H0 μ0 F μ a w hs
    rw [vc_cond] at h
    split at h
    · rename_i p b hb
      obtain ⟨h1, h2⟩ := needs_out h
      obtain ⟨h3, h4⟩ := h2.out
      have hc : a.eval c = .bool b := bare_ok (opnd_ok hs.tp c) hb h1
      exact wp_cond_split hc (fun e => ihx (h3 e) K F0 H0 μ0 F μ a w hs) (fun e => ihy (h4 e) K F0 H0 μ0 F μ a w hs)
    · exact (stuckC_out h).elim
  | block id c ih =>
    intro ts H k h K F0 H0 μ0 F μ a w hs
    rw [vc_block] at h
    refine wp_block (wp_mono (ih h K F0 H0 μ0 F μ a w hs) ?_)
    rintro e a' w' ⟨ts', H', F', μ', hs', he⟩
    cases e with
    | normal => exact ⟨ts', H', F', μ', hs', he⟩
    | exit id' =>
      simp only [Exit.inBlock]
      simp only [exOk] at he
      cases hb : Nat.beq id' id with
      | true =>
        have : id' = id := Nat.eq_of_beq_eq_true hb
        simp only [hb] at he
        rw [if_pos this]
        exact ⟨ts', H', F', μ', hs', he⟩
      | false =>
        have : id' ≠ id := fun e => by subst e; simp at hb
        simp only [hb] at he
        rw [if_neg this]
        exact ⟨ts', H', F', μ', hs', he⟩
    | ret => exact ⟨ts', H', F', μ', hs', he⟩
    | goto l => exact he.elim
    | panic ch => exact he.elim
    | outgrown => exact he.elim
  | loop c _ => intro ts H k h; exact Lp.out h
  | exit id => intro ts H k h K F0 H0 μ0 F μ a w hs; exact wp_exit ⟨ts, H, F, μ, hs, h⟩
  | ret => intro ts H k h K F0 H0 μ0 F μ a w hs; exact wp_ret ⟨ts, H, F, μ, hs, h⟩
  | label l => intro ts H k h K F0 H0 μ0 F μ a w hs; exact wp_label ⟨ts, H, F, μ, hs, h⟩
  | scope c ih =>
    intro ts H k h K F0 H0 μ0 F μ a w hs
    refine wp_scope_straight (wp_mono (ih (show vc X c ts H k from h) K F0 H0 μ0 F μ a w hs) ?_)
    rintro e a' w' ⟨ts', H', F', μ', hs', he⟩
    cases e with
    | normal => exact ⟨ts', H', F', μ', hs', he⟩
    | exit id => exact ⟨ts', H', F', μ', hs', he⟩
    | ret => exact ⟨ts', H', F', μ', hs', he⟩
    | goto l => exact he.elim
    | panic ch => exact he.elim
    | outgrown => exact he.elim
  | _ => intro ts H k h; exact (stuckC_out h).elim

end
end Go.Am
end
