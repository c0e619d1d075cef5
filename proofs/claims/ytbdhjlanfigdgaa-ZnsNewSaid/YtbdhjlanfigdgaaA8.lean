import Derived.Test.YtbdhjlanfigdgaaA7
/- THE ABSTRACT MACHINE, PART 8: what is tracked, when it changes. -/
namespace Go.Am

def upd (μ : Nat → Value) (id : Nat) (v : Value) : Nat → Value := fun i => if i = id then v else μ i

theorem OSat.other {F : Mem} {H H' : List O} {μ μ' : Nat → Value} {w w' : World} {i : Nat} {o : O} (h : OSat F H μ w i o) (hE : Ext H μ H' μ') (hμ : μ' i = μ i)
    (hk : ∀ b, b < w.heap.size → blk (μ i) = some b → w'.heap[b]? = w.heap[b]?) : OSat F H' μ' w' i o := by
  cases o with
  | vr cs =>
    obtain ⟨b, c, T, h1, h2, h3⟩ := h
    have hb : b < w.heap.size := (Array.getElem?_eq_some_iff.1 h2).1
    exact ⟨b, c, T, hμ.trans h1, by rw [hk b hb (by rw [h1]; rfl)]; exact h2, h3.mono (Mem.le_refl F) hE⟩
  | arr e es n g =>
    obtain ⟨xs, h1, h2, h3⟩ := h
    refine ⟨xs, ?_, h2, fun k hk' j hj => ?_⟩
    · rw [hμ]
      refine ⟨h1.1, ?_⟩
      rcases h1.2 with h | ⟨b, cap, cur, q1, q2, q3, rest⟩
      · exact .inl h
      · have hb : b < w.heap.size := (Array.getElem?_eq_some_iff.1 q3).1
        exact .inr ⟨b, cap, cur, q1, q2, by rw [hk b hb (by rw [q1]; rfl)]; exact q3, rest⟩
    · obtain ⟨v, v1, v2⟩ := h3 k hk' j hj
      exact ⟨v, v1, RepC.mono (Mem.le_refl F) hE _ _ v2⟩
  | dead => trivial

/-- One object is new, or has changed. -/
theorem HSat.step {K : Keep} {F : Mem} {H H' : List O} {μ : Nat → Value} {w w' : World} (hw : HSat K F H μ w) (id : Nat) (o' : O) (v' : Value) (hid : getL H' id = some o')
    (hoth : ∀ i, i ≠ id → getL H' i = getL H i) (hE : Ext H μ H' (upd μ id v')) {row : Option Nat} (hg : w.grownBy w' row) (hrow : ∀ k, row = some k → owned H μ id k)
    (hv : ∀ b, blk v' = some b → owned H μ id b ∨ w.heap.size ≤ b) (ho : OSat F H' (upd μ id v') w' id o') : HSat K F H' (upd μ id v') w' := by
  have keep : ∀ b o, w.heap[b]? = some o → row ≠ some b → w'.heap[b]? = some o := by
    intro b o hb hr
    rw [hg.block b (Array.getElem?_eq_some_iff.1 hb).1 (fun e => hr e.symm)]
    exact hb
  have own : ∀ i b, owned H' (upd μ id v') i b → (i = id ∧ (owned H μ id b ∨ w.heap.size ≤ b)) ∨ (i ≠ id ∧ owned H μ i b) := by
    intro i b ⟨⟨o, o1, o2⟩, hb⟩
    by_cases e : i = id
    · subst e
      left
      refine ⟨rfl, hv b ?_⟩
      simpa [upd] using hb
    · right
      rw [hoth i e] at o1
      refine ⟨e, ⟨o, o1, o2⟩, ?_⟩
      simpa [upd, e] using hb
  have lt : ∀ i b, owned H μ i b → b < w.heap.size := by
    intro i b ⟨⟨o, o1, o2⟩, hb⟩
    have := hw.ob i o o1
    cases o with
    | vr cs =>
      obtain ⟨b', c, T, h1, h2, _⟩ := this
      rw [h1] at hb
      cases hb
      exact (Array.getElem?_eq_some_iff.1 h2).1
    | arr e es n g =>
      obtain ⟨xs, h1, _, _⟩ := this
      rcases h1.2 with ⟨q, _⟩ | ⟨g', cap, cur, q, _, q3, _⟩
      · rw [q] at hb; cases hb
      · rw [q] at hb; cases hb
        exact (Array.getElem?_eq_some_iff.1 q3).1
    | dead => exact absurd rfl o2
  refine ⟨hg.os.trans hw.os, hg.tape.trans hw.tape, hg.output.trans hw.output, fun b o hb => ?_, fun b o hb => ?_, fun i o hi => ?_, fun i b hb => ?_, fun i j b hi hj => ?_, hw.dj⟩
  · refine keep b o (hw.fr b o hb) (fun e => ?_)
    have := (hw.sp id b (hrow b e)).1
    rw [this] at hb; cases hb
  · refine keep b o (hw.kp b o hb) (fun e => ?_)
    have := (hw.sp id b (hrow b e)).2
    rw [this] at hb; cases hb
  · by_cases e : i = id
    · subst e
      rw [hid] at hi
      cases hi
      exact ho
    · have hi' := hi
      rw [hoth i e] at hi'
      by_cases hd : o = .dead
      · subst hd; trivial
      · refine (hw.ob i o hi').other hE (by simp [upd, e]) (fun b hb hblk => hg.block b hb (fun q => ?_))
        exact e (hw.ij i id b ⟨⟨o, hi', hd⟩, hblk⟩ (hrow b q.symm))
  · rcases own i b hb with ⟨_, h | h⟩ | ⟨_, h⟩
    · exact hw.sp id b h
    · refine ⟨?_, ?_⟩
      · cases hf : F b with
        | none => rfl
        | some o => have := (Array.getElem?_eq_some_iff.1 (hw.fr b o hf)).1; omega
      · cases hf : K.mem b with
        | none => rfl
        | some o => have := (Array.getElem?_eq_some_iff.1 (hw.kp b o hf)).1; omega
    · exact hw.sp i b h
  · rcases own i b hi with ⟨ei, h | h⟩ | ⟨ei, h⟩ <;> rcases own j b hj with ⟨ej, k | k⟩ | ⟨ej, k⟩
    · rw [ei, ej]
    · rw [ei, ej]
    · rw [ei]; exact (hw.ij id j b h k)
    · rw [ei, ej]
    · rw [ei, ej]
    · have := lt j b k; omega
    · rw [ej]; exact (hw.ij i id b h k)
    · have := lt i b h; omega
    · exact hw.ij i j b h k

theorem getL_append_lt {α : Type} (l : List α) (x : α) (i : Nat) (h : i ≠ l.length) : getL (l ++ [x]) i = getL l i := by
  rw [getL_eq, getL_eq]
  by_cases hi : i < l.length
  · rw [List.getElem?_append_left hi]
  · rw [List.getElem?_append_right (by omega), List.getElem?_eq_none (by omega : l.length ≤ i)]
    exact List.getElem?_eq_none (by simp; omega)

theorem getL_append_eq {α : Type} (l : List α) (x : α) : getL (l ++ [x]) l.length = some x := by
  rw [getL_eq]; simp

theorem getL_lt {α : Type} {l : List α} {i : Nat} {x : α} (h : getL l i = some x) : i < l.length := by
  rw [getL_eq] at h; exact (List.getElem?_eq_some_iff.1 h).1

theorem Ext.push (H : List O) (μ : Nat → Value) (o : O) (v : Value) : Ext H μ (H ++ [o]) (upd μ H.length v) := by
  refine ⟨fun id cs h => ?_, fun id e es n g h => ?_⟩
  · have := getL_lt h
    exact ⟨⟨cs, by rw [getL_append_lt _ _ _ (by omega)]; exact h⟩, by simp [upd]; omega⟩
  · have := getL_lt h
    exact ⟨n, g, by rw [getL_append_lt _ _ _ (by omega)]; exact h, Nat.le_refl _, fun _ => by simp [upd]; omega⟩

/-- A new object. -/
theorem HSat.push {K : Keep} {F : Mem} {H : List O} {μ : Nat → Value} {w w' : World} (hw : HSat K F H μ w) (o : O) (v : Value) (hg : w.grownBy w' none)
    (hv : ∀ b, blk v = some b → w.heap.size ≤ b) (ho : OSat F (H ++ [o]) (upd μ H.length v) w' H.length o) : HSat K F (H ++ [o]) (upd μ H.length v) w' :=
  hw.step H.length o v (getL_append_eq H o) (fun i hi => getL_append_lt H o i hi) (Ext.push H μ o v) hg (fun k e => by cases e) (fun b hb => .inr (hv b hb)) ho

theorem getL_set {H H' : List O} {id : Nat} {o' : O} (h : setL H id o' = some H') : getL H' id = some o' ∧ ∀ i, i ≠ id → getL H' i = getL H i := by
  obtain ⟨h1, h2⟩ := setL_eq _ _ _ _ h
  subst h2
  refine ⟨by rw [getL_eq]; simp [h1], fun i hi => ?_⟩
  rw [getL_eq, getL_eq, List.getElem?_set_ne (Ne.symm hi)]

theorem upd_self (μ : Nat → Value) (id : Nat) : upd μ id (μ id) = μ := by
  funext i; by_cases e : i = id <;> simp [upd, e]

/-- A variable of zeros, or of given cells. -/
theorem newVar_ok {P : Program} {K : Keep} {F : Mem} {H : List O} {μ : Nat → Value} {w : World} (hw : HSat K F H μ w) (t : TypeId) (v : Value) {cs : List C} (hl : RepL F H μ cs v.cells) :
    ∃ r w' v', (do pure (Value.pointer (some (← newVar t v))) : Sem Value).run P w = .ok r w' ∧ HSat K F (H ++ [.vr cs]) (upd μ H.length v') w' ∧ Ext H μ (H ++ [.vr cs]) (upd μ H.length v') ∧
      RepC F (H ++ [.vr cs]) (upd μ H.length v') (.ptr H.length 0) r := by
  refine ⟨.pointer (some ⟨w.heap.size, 0, none⟩), w.alloc (.cells v.cells t), .pointer (some ⟨w.heap.size, 0, none⟩), ?_, ?_, Ext.push _ _ _ _, ?_⟩
  · simp [newVar, newRow, newObj, Sem.run]
  · refine hw.push _ _ (World.grownBy_alloc w _ none) (fun b hb => by cases hb; exact Nat.le_refl _) ?_
    exact ⟨w.heap.size, v.cells, t, by simp [upd], heap_alloc_new w _, hl.mono (Mem.le_refl F) (Ext.push _ _ _ _)⟩
  · exact ⟨⟨cs, getL_append_eq _ _⟩, w.heap.size, by simp [upd], rfl⟩

/-- What an operation yields that changes what is tracked. -/
def updG (g : Nat → Nat → C) (k j : Nat) (ys : List C) : Nat → Nat → C := fun i l =>
  if i = k ∧ j ≤ l ∧ l < j + ys.length then lget ys (l - j) else g i l

def appG (g : Nat → Nat → C) (n : Nat) (g' : Nat → Nat → C) : Nat → Nat → C := fun i j => if i < n then g i j else g' (i - n) j

def copyG (g : Nat → Nat → C) (m : Nat) (g' : Nat → Nat → C) : Nat → Nat → C := fun i j => if i < m then g' i j else g i j

def zeroG (xs : List C) : Nat → Nat → C := fun _ j => lget xs j

def flatG (es : Nat) (xs : List C) : Nat → Nat → C := fun i j => lget xs (i * es + j)

def storeK (H : List O) (p : C) (ys : List C) : Option (List Prop × List O) :=
  match p with
  | .ptr id off => match getL H id with
    | some (.vr cs) => match splice cs off ys with
      | some cs' => match setL H id (.vr cs') with
        | some H' => some ([], H')
        | none => none
      | none => none
    | _ => none
  | .ep id k j tot => match getL H id with
    | some (.arr e es n g) => match setL H id (.arr e es n (updG g k j ys)) with
      | some H' => some ([tot = n, j + ys.length ≤ es], H')
      | none => none
    | _ => none
  | _ => none

theorem ext_same {H H' : List O} {μ : Nat → Value} (h : ∀ id o, getL H id = some o → match o with
    | .vr _ => ∃ cs', getL H' id = some (.vr cs')
    | .arr e es n _ => ∃ g', getL H' id = some (.arr e es n g')
    | .dead => True) : Ext H μ H' μ :=
  ⟨fun id _ hc => ⟨h id _ hc, rfl⟩, fun id _ _ n _ hc => let ⟨g', hg⟩ := h id _ hc; ⟨n, g', hg, Nat.le_refl _, fun _ => rfl⟩⟩

theorem setRow_grown (w : World) (g : Nat) (cs : Array Value) : w.grownBy (w.setRow g cs) (some g) :=
  ⟨rfl, rfl, rfl, by simp, fun k _ hk => setRow_other w g k _ (fun e => hk (by rw [e]))⟩

theorem list_mid {α : Type} (l vs : List α) (o : Nat) (h : o + vs.length ≤ l.length) (j : Nat) :
    (l.take o ++ vs ++ l.drop (o + vs.length))[j]? = if o ≤ j ∧ j < o + vs.length then vs[j - o]? else l[j]? := by
  simp only [List.append_assoc, List.getElem?_append, List.length_take, List.getElem?_take, List.getElem?_drop]
  have hm : min o l.length = o := by omega
  rw [hm]
  by_cases c1 : j < o
  · rw [if_pos c1, if_pos c1, if_neg (by omega)]
  · rw [if_neg c1]
    by_cases c2 : j - o < vs.length
    · rw [if_pos c2, if_pos (by omega)]
    · rw [if_neg c2, if_neg (by omega)]
      congr 1; omega

theorem storeVar_ok {P : Program} {t : Nat} {i : TI} (ht : TIok P t i) {v : Value} (hsz : v.cells.size = i.size) (h1 : ∀ x ∈ v.cells.toList, x.oneCell' = true) {g o : Nat} {cur : Array Value} {T : TypeId} {w : World}
    (hg : w.heap[g]? = some (.cells cur T (0, 0))) (hfit : o + v.cells.size ≤ cur.size) :
    (Instr.storeAt t (.pointer (some ⟨g, o, none⟩)) v).run P w = .ok () (w.setRow g (cur.toList.take o ++ v.cells.toList ++ cur.toList.drop (o + v.cells.size)).toArray) := by
  have hs := sizeOf_ok ht w
  have := run_storeCells_at P g o T v.cells.toList 0 cur w hg (by simpa using hfit) h1
  simp only [Instr.storeAt, Instr.sureAddr]
  show (do let a ← (pure (⟨g, o, none⟩ : Addr) : Sem Addr); storeVar t a v : Sem Unit).run P w = _
  rw [bind_ok (show (pure (⟨g, o, none⟩ : Addr) : Sem Addr).run P w = .ok _ w from rfl)]
  unfold storeVar
  rw [bind_ok hs]
  simp only [hsz, ne_eq, not_true, if_false]
  simpa [hsz] using this

theorem storeK_ok {P : Program} {K : Keep} {F : Mem} {H H' : List O} {μ : Nat → Value} {w : World} (hw : HSat K F H μ w) {t : Nat} {i : TI} (ht : TIok P t i) {p : C} {pv v : Value} {ys : List C} {ns : List Prop}
    (hp : RepC F H μ p pv) (hy : RepL F H μ ys v.cells) (hl : ys.length = i.size) (h : storeK H p ys = some (ns, H')) (hn : ∀ q ∈ ns, q) :
    ∃ w', (Instr.storeAt t pv v).run P w = .ok () w' ∧ HSat K F H' μ w' ∧ Ext H μ H' μ := by
  have hsz : v.cells.size = i.size := by rw [hy.1]; exact hl
  have h1 : ∀ x ∈ v.cells.toList, x.oneCell' = true := by
    intro x hx
    obtain ⟨j, hj, hjx⟩ := List.mem_iff_getElem.1 hx
    have hj' : j < ys.length := by rw [← hy.1]; simpa using hj
    obtain ⟨u, u1, u2⟩ := hy.2 j ys[j] (by rw [getL_eq]; simp [hj'])
    have : u = x := by
      rw [← Array.getElem?_toList] at u1
      rw [List.getElem?_eq_getElem hj] at u1
      cases u1
      exact hjx
    subst this
    exact RepC.one _ _ u2
  cases p with
  | ptr id off =>
    obtain ⟨⟨cs, g1⟩, b, g2, rfl⟩ := hp
    simp only [storeK, g1] at h
    cases hs : splice cs off ys with
    | none => simp [hs] at h
    | some cs' =>
      cases hset : setL H id (.vr cs') with
      | none => simp [hs, hset] at h
      | some H'' =>
        simp only [hs, hset, Option.some.injEq, Prod.mk.injEq] at h
        obtain ⟨_, rfl⟩ := h
        obtain ⟨s1, s2, s3⟩ := splice_ok _ _ _ _ hs
        obtain ⟨e1, e2⟩ := getL_set hset
        obtain ⟨b', c, T, k1, k2, k3⟩ := hw.ob id _ g1
        rw [g2] at k1
        cases k1
        have hfit : off + v.cells.size ≤ c.size := by rw [hsz, ← hl, k3.1]; exact s2
        have hE : Ext H μ H'' μ := ext_same (fun id' o ho => by
          by_cases e : id' = id
          · subst e
            rw [g1] at ho
            cases ho
            exact ⟨cs', e1⟩
          · rw [← e2 id' e] at ho
            cases o with
            | vr c' => exact ⟨c', ho⟩
            | arr e es n g => exact ⟨g, ho⟩
            | dead => trivial)
        refine ⟨_, storeVar_ok (P := P) ht hsz h1 k2 hfit, ?_, hE⟩
        have hE' := hE
        rw [← upd_self μ id] at hE' ⊢
        have := hw.step id (.vr cs') (μ id) (w' := w.setRow b (c.toList.take off ++ v.cells.toList ++ c.toList.drop (off + v.cells.size)).toArray) e1 e2 (by rw [upd_self]; exact hE) (setRow_grown w b _)
          (fun k e => by cases e; exact ⟨⟨_, g1, by simp⟩, by rw [g2]; rfl⟩) (fun k e => .inl ⟨⟨_, g1, by simp⟩, e⟩) ?_
        · simpa [upd_self] using this
        · refine ⟨b, _, T, by simp [upd, g2], setRow_heap w b c _ T (0, 0) k2, ?_, fun j x hx => ?_⟩
          · have := k3.1
            simp only [List.size_toArray, List.length_append, List.length_take, List.length_drop, Array.length_toList]
            omega
          · rw [s3 j] at hx
            have hm := list_mid c.toList v.cells.toList off (by simpa using hfit) j
            simp only [Array.length_toList] at hm
            simp only [List.getElem?_toArray, hm]
            rw [upd_self]
            by_cases cc : off ≤ j ∧ j < off + ys.length
            · rw [if_pos cc] at hx
              rw [if_pos (by omega)]
              obtain ⟨u, u1, u2⟩ := hy.2 _ x hx
              exact ⟨u, by simpa using u1, RepC.mono (Mem.le_refl F) hE _ _ u2⟩
            · rw [if_neg cc] at hx
              rw [if_neg (by omega)]
              obtain ⟨u, u1, u2⟩ := k3.2 _ x hx
              exact ⟨u, by simpa using u1, RepC.mono (Mem.le_refl F) hE _ _ u2⟩
  | ep id k j tot =>
    obtain ⟨_, e, es, n, g, g1, g2, g3⟩ := hp
    simp only [storeK, g1] at h
    cases hset : setL H id (.arr e es n (updG g k j ys)) with
    | none => simp [hset] at h
    | some H'' =>
      simp only [hset, Option.some.injEq, Prod.mk.injEq] at h
      obtain ⟨rfl, rfl⟩ := h
      obtain ⟨e1, e2⟩ := getL_set hset
      have hq : tot = n := hn _ (by simp)
      have hes : j + ys.length ≤ es := hn _ (by simp)
      obtain ⟨b, cap, m1, m2, rfl⟩ := g3 hq
      obtain ⟨xs, o1, o2, o3⟩ := hw.ob id _ g1
      rcases o1.2 with ⟨q1, _⟩ | ⟨b', cap', cur, q1, q2, q3, q4, q5, q6, q7⟩
      · rw [m1] at q1; simp at q1
      · rw [m1] at q1
        simp only [Value.slice.injEq, Option.some.injEq, Addr.mk.injEq, and_true, true_and] at q1
        obtain ⟨rfl, rfl⟩ := q1
        have hE : Ext H μ H'' μ := ext_same (fun id' o ho => by
          by_cases ee : id' = id
          · subst ee
            rw [g1] at ho
            cases ho
            exact ⟨_, e1⟩
          · rw [← e2 id' ee] at ho
            cases o with
            | vr c' => exact ⟨c', ho⟩
            | arr e es n g => exact ⟨g, ho⟩
            | dead => trivial)
        have hkn : k * es + es ≤ n * es := by rw [← Nat.succ_mul]; exact Nat.mul_le_mul_right es m2
        have hnc : n * es ≤ cap * es := Nat.mul_le_mul_right es q4
        have hfit : (k * es + j) + v.cells.size ≤ cur.size := by rw [hsz, ← hl, q6]; omega
        refine ⟨_, storeVar_ok (P := P) ht hsz h1 q3 hfit, ?_, hE⟩
        have := hw.step id (.arr e es n (updG g k j ys)) (μ id) (w' := w.setRow b (cur.toList.take (k * es + j) ++ v.cells.toList ++ cur.toList.drop (k * es + j + v.cells.size)).toArray) e1 e2 (by rw [upd_self]; exact hE) (setRow_grown w b _)
          (fun k' ee => by cases ee; exact ⟨⟨_, g1, by simp⟩, by rw [m1]; rfl⟩) (fun k' ee => .inl ⟨⟨_, g1, by simp⟩, ee⟩) ?_
        · simpa [upd_self] using this
        · have hm := fun q => list_mid cur.toList v.cells.toList (k * es + j) (by simpa using hfit) q
          simp only [Array.length_toList] at hm
          refine ⟨((cur.toList.take (k * es + j) ++ v.cells.toList ++ cur.toList.drop (k * es + j + v.cells.size))).take (n * es), ⟨?_, .inr ⟨b, cap, _, by simp [upd, m1], Nat.zero_le _, setRow_heap w b cur _ e (0, 0) q3, q4, q5, ?_, by simp⟩⟩, o2, fun i' hi' l hl' => ?_⟩
          · have h0 : (cur.toList.take (k * es + j) ++ v.cells.toList ++ cur.toList.drop (k * es + j + v.cells.size)).length = cur.size := by
              simp only [List.length_append, List.length_take, List.length_drop, Array.length_toList]; omega
            rw [List.length_take, h0, q6]; omega
          · simp only [List.size_toArray, List.length_append, List.length_take, List.length_drop, Array.length_toList]
            omega
          · rw [upd_self]
            have hi2 : i' * es + es ≤ n * es := by rw [← Nat.succ_mul]; exact Nat.mul_le_mul_right es hi'
            rw [List.getElem?_take, if_pos (by omega), hm]
            simp only [updG]
            have hys := hy.1
            by_cases cc : i' = k ∧ j ≤ l ∧ l < j + ys.length
            · obtain ⟨rfl, c2, c3⟩ := cc
              rw [if_pos (by omega), if_pos ⟨rfl, c2, c3⟩]
              have hlt : l - j < ys.length := by omega
              obtain ⟨u, u1, u2⟩ := hy.2 (l - j) ys[l - j] (by rw [getL_eq]; simp [hlt])
              refine ⟨u, ?_, ?_⟩
              · rw [show i' * es + l - (i' * es + j) = l - j by omega]; simpa using u1
              · simp only [lget, getL_eq]
                rw [List.getElem?_eq_getElem hlt]
                exact RepC.mono (Mem.le_refl F) hE _ _ u2
            · rw [if_neg cc]
              have hne : ¬ (k * es + j ≤ i' * es + l ∧ i' * es + l < k * es + j + v.cells.size) := by
                intro ⟨a1, a2⟩
                rw [hsz, ← hl] at a2
                rcases Nat.lt_trichotomy i' k with c | c | c
                · have : i' * es + es ≤ k * es := by rw [← Nat.succ_mul]; exact Nat.mul_le_mul_right es c
                  omega
                · subst c; exact cc ⟨rfl, by omega, by omega⟩
                · have : k * es + es ≤ i' * es := by rw [← Nat.succ_mul]; exact Nat.mul_le_mul_right es c
                  omega
              rw [if_neg hne]
              obtain ⟨u, u1, u2⟩ := o3 i' hi' l hl'
              refine ⟨u, ?_, RepC.mono (Mem.le_refl F) hE _ _ u2⟩
              rw [← q7, List.getElem?_take, if_pos (by omega)] at u1
              exact u1
  | _ => simp [storeK] at h

end Go.Am
