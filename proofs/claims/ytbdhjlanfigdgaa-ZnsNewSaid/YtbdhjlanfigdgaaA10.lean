import Derived.Test.YtbdhjlanfigdgaaA9
/- THE ABSTRACT MACHINE, PART 10: make, copy, slice literals. -/
namespace Go.Am

def makeK (e : Nat) (te : TI) (H : List O) (l c : Int) (x : Bool) : List Prop × C × List O :=
  ([0 ≤ l, l ≤ c, c * te.bytes ≤ 140737488355328, c ≤ 9223372036854775807, x = true → l = c], .sl H.length te.size l.toNat l.toNat x, H ++ [.arr e te.size l.toNat (zeroG (zeroL te))])

theorem mod_lt_self {es : Nat} (i j : Nat) (hj : j < es) : (i * es + j) % es = j := by
  rw [Nat.add_comm, Nat.mul_comm, Nat.add_mul_mod_self_left]; exact Nat.mod_eq_of_lt hj

theorem makeK_ok {P : Program} {K : Keep} {F : Mem} {H : List O} {μ : Nat → Value} {w : World} (hw : HSat K F H μ w) {t e : Nat} {te : TI} (hu : P.underlying t = some (.slice e)) (hte : TIok P e te) (hzl : te.zero.length = te.size)
    {l c : Int} {xq : Bool} {kl kc : IntKind} (hn : ∀ q ∈ (makeK e te H l c xq).1, q) :
    ∃ r w' μ', (Instr.makeSlice t (.int kl l) (.int kc c)).run P w = .ok r w' ∧ HSat K F (makeK e te H l c xq).2.2 μ' w' ∧ Ext H μ (makeK e te H l c xq).2.2 μ' ∧ RepC F (makeK e te H l c xq).2.2 μ' (makeK e te H l c xq).2.1 r := by
  have c0 : 0 ≤ l := hn _ (by simp [makeK])
  have c1 : l ≤ c := hn _ (by simp [makeK])
  have c2 : c * te.bytes ≤ 140737488355328 := hn _ (by simp [makeK])
  have c3 : c ≤ 9223372036854775807 := hn _ (by simp [makeK])
  have c4 : xq = true → l = c := hn (xq = true → l = c) (by simp only [makeK, List.mem_cons]; simp)
  obtain ⟨z, _, z2, x, x1, x2⟩ := zeroL_ok (P := P) (F := F) (H := H) (μ := μ) hte w
  obtain ⟨x', i1, i2, i3, _⟩ := hte.info
  rw [x1] at i1
  cases i1
  have hzs : z.cells.size = te.size := by rw [z2.1]; simp [zeroL, hzl]
  have run := run_make (P := P) w t e x z hu x1 x2 kl kc l c c0 c1 (by rw [i3]; rw [Int.mul_comm]; omega) c3
  have hE := Ext.push H μ (.arr e te.size l.toNat (zeroG (zeroL te))) (.slice (some ⟨w.heap.size, 0, none⟩) l.toNat c.toNat)
  refine ⟨_, _, upd μ H.length (.slice (some ⟨w.heap.size, 0, none⟩) l.toNat c.toNat), run, hw.push _ _ (World.grownBy_alloc w _ none) (fun b hb => by cases hb; exact Nat.le_refl _) ?_, hE, rfl, e, l.toNat, _, getL_append_eq _ _, Nat.le_refl _, Nat.le_refl _, fun _ => ⟨_, _, by simp [upd], rfl, fun e => by rw [c4 e]⟩⟩
  have hlc : l.toNat ≤ c.toNat := by omega
  have hmul : l.toNat * te.size ≤ c.toNat * te.size := Nat.mul_le_mul_right _ hlc
  refine ⟨(madeCells z.cells (c.toNat * x.size)).toList.take (l.toNat * te.size), ⟨?_, .inr ⟨w.heap.size, c.toNat, madeCells z.cells (c.toNat * x.size), by simp [upd], Nat.zero_le _, heap_alloc_new w _, hlc, by unfold maxLen; omega, by rw [size_madeCells, i2], rfl⟩⟩, by unfold maxLen; omega, fun i hi j hj => ?_⟩
  · rw [List.length_take, Array.length_toList, size_madeCells, i2]; omega
  · have hlt : i * te.size + te.size ≤ l.toNat * te.size := by rw [← Nat.succ_mul]; exact Nat.mul_le_mul_right _ hi
    have hj' : j < (zeroL te).length := by simp [zeroL, hzl, hj]
    obtain ⟨u, u1, u2⟩ := z2.2 j (zeroL te)[j] (by rw [getL_eq]; simp [hj'])
    refine ⟨u, ?_, ?_⟩
    · rw [List.getElem?_take, if_pos (by omega)]
      simp only [madeCells, i2]
      have hq : i * te.size + j < c.toNat * te.size := by omega
      rw [Array.getElem?_toList, Array.getElem?_map, Array.getElem?_range, if_pos hq]
      simp only [Option.map_some, hzs, mod_lt_self i j hj]
      have hjz : j < z.cells.size := by omega
      rw [getElem!_pos z.cells j hjz]
      rw [Array.getElem?_eq_getElem hjz] at u1
      exact u1
    · simp only [zeroG, lget, getL_eq]
      rw [List.getElem?_eq_getElem hj']
      exact RepC.mono (Mem.le_refl F) hE _ _ u2

/-- copy. -/
def copyK (te : TI) (H : List O) (x y : C) : Option (List Prop × C × List O) :=
  match srcK te.size H y with
  | some (ns, m, g2) => match x with
    | .sl id es len tot _ => match Nat.beq es te.size with
      | true => match getL H id with
        | some (.arr e _ n g) => match setL H id (.arr e te.size n (copyG g (min m len) g2)) with
          | some H' => some (ns ++ [tot = n], .int .i64 (min m len : Nat), H')
          | none => none
        | _ => none
      | false => none
    | _ => none
  | none => none

theorem copyK_ok {P : Program} {K : Keep} {F : Mem} {H H' : List O} {μ : Nat → Value} {w : World} (hw : HSat K F H μ w) {t t2 e ty : Nat} {te : TI} (hu : P.underlying t = some (.slice e)) (hte : TIok P e te)
    {x y c : C} {u v : Value} {ns : List Prop} (hx : RepC F H μ x u) (hy : RepC F H μ y v) (h : copyK te H x y = some (ns, c, H')) (hn : ∀ q ∈ ns, q) :
    ∃ r w', (Builtin.copy_ #[t, t2] ty #[u, v]).run P w = .ok r w' ∧ HSat K F H' μ w' ∧ Ext H μ H' μ ∧ RepC F H' μ c r := by
  unfold copyK at h
  cases hsrc : srcK te.size H y with
  | none => simp [hsrc] at h
  | some p =>
    obtain ⟨ns', m, g2⟩ := p
    simp only [hsrc] at h
    cases x with
    | sl id es len tot xq =>
      simp only at h
      cases hb : Nat.beq es te.size with
      | false => simp [hb] at h
      | true =>
        have : es = te.size := Nat.eq_of_beq_eq_true hb
        subst this
        obtain ⟨_, e', n, g, h1, h2, h3, h4⟩ := hx
        simp only [hb, h1] at h
        cases hset : setL H id (.arr e' te.size n (copyG g (min m len) g2)) with
        | none => simp [hset] at h
        | some H'' =>
          simp only [hset, Option.some.injEq, Prod.mk.injEq] at h
          obtain ⟨rfl, rfl, rfl⟩ := h
          have c1 : tot = n := all_right hn _ (by simp)
          obtain ⟨news, hs⟩ := srcK_ok hw hy hsrc (all_left hn)
          obtain ⟨a, cap, m1, rfl, _⟩ := h4 c1
          obtain ⟨e1, e2⟩ := getL_set hset
          obtain ⟨xs, o1, o2, o3⟩ := hw.ob id _ h1
          have hE : Ext H μ H'' μ := ext_same (fun id' o ho => by
            by_cases ee : id' = id
            · subst ee
              rw [h1] at ho
              cases ho
              exact ⟨_, e1⟩
            · rw [← e2 id' ee] at ho
              cases o with
              | vr c' => exact ⟨c', ho⟩
              | arr e es n g => exact ⟨g, ho⟩
              | dead => trivial)
          have hf := hs.first P w (fun _ => rfl) (min m len) (Nat.min_le_left _ _)
          have hsz := sizeOf_ok hte w
          have hlen : (Builtin.lenOf v).run P w = .ok m w := by
            rcases hs.val with ⟨rfl, rfl⟩ | ⟨a, c, rfl, _⟩ <;> simp [Builtin.lenOf]
          have hmin : Nat.min m len = min m len := rfl
          have hcl : (news.take (min m len * te.size)).length = min m len * te.size := by
            rw [List.length_take, hs.len]; exact Nat.min_eq_left (Nat.mul_le_mul_right _ (Nat.min_le_left _ _))
          rcases o1.2 with ⟨q1, q2⟩ | ⟨b, cap', cur, q1, q2, q3, q4, q5, q6, q7⟩
          · rw [m1] at q1
            simp only [Value.slice.injEq] at q1
            obtain ⟨rfl, _, rfl⟩ := q1
            have hl0 : len = 0 := by omega
            subst hl0
            refine ⟨goInt (min m 0 : Nat), w, ?_, ?_, hE, rfl⟩
            · have hf0 := hs.first P w (fun _ => rfl) 0 (Nat.zero_le _)
              simp at hf0
              simp [Builtin.copy_, run_underlying hu, hlen, hsz, hf0]
            · have := hw.step id _ (μ id) (w' := w) (row := none) e1 e2 (by rw [upd_self]; exact hE) ⟨rfl, rfl, rfl, Nat.le_refl _, fun _ _ _ => rfl⟩ (fun k hk => by cases hk) (fun k ee => .inl ⟨⟨_, h1, by simp⟩, ee⟩) (by
                rw [upd_self]
                exact ⟨xs, o1, o2, fun i hi => by omega⟩)
              simpa [upd_self] using this
          · rw [m1] at q1
            simp only [Value.slice.injEq, true_and] at q1
            obtain ⟨rfl, rfl⟩ := q1
            have hle : min m len * te.size ≤ n * te.size := Nat.mul_le_mul_right _ (by omega)
            have hnc : n * te.size ≤ cap * te.size := Nat.mul_le_mul_right _ q4
            have hfit : 0 + (news.take (min m len * te.size)).length ≤ cur.size := by rw [hcl, q6]; omega
            have hone : ∀ v ∈ news.take (min m len * te.size), v.oneCell' = true := fun v hv => hs.one v (List.mem_of_mem_take hv)
            have hst := run_storeCells_at P b 0 e' (news.take (min m len * te.size)) 0 cur w q3 (by simpa using hfit) hone
            refine ⟨goInt (min m len : Nat), w.setRow b (cur.toList.take 0 ++ news.take (min m len * te.size) ++ cur.toList.drop (0 + (news.take (min m len * te.size)).length)).toArray, ?_, ?_, hE, rfl⟩
            · have hst' := hst
              simp only [Nat.add_zero] at hst'
              simp [Builtin.copy_, run_underlying hu, hlen, hsz, hmin, hf, hst']
            · have := hw.step id (.arr e' te.size n (copyG g (min m len) g2)) (μ id) (w' := w.setRow b (cur.toList.take 0 ++ news.take (min m len * te.size) ++ cur.toList.drop (0 + (news.take (min m len * te.size)).length)).toArray) e1 e2 (by rw [upd_self]; exact hE) (setRow_grown w b _)
                (fun k' ee => by cases ee; exact ⟨⟨_, h1, by simp⟩, by rw [m1]; rfl⟩) (fun k' ee => .inl ⟨⟨_, h1, by simp⟩, ee⟩) ?_
              · simpa [upd_self] using this
              · have hm := fun q => list_mid cur.toList (news.take (min m len * te.size)) 0 (by simpa using hfit) q
                refine ⟨(cur.toList.take 0 ++ news.take (min m len * te.size) ++ cur.toList.drop (0 + (news.take (min m len * te.size)).length)).take (n * te.size), ⟨?_, .inr ⟨b, cap, _, by simp [upd, m1], Nat.zero_le _, setRow_heap w b cur _ e' (0, 0) q3, q4, q5, ?_, by simp⟩⟩, o2, fun i hi j hj => ?_⟩
                · rw [List.length_take]
                  simp only [List.length_append, List.length_take, List.length_drop, Array.length_toList] at hfit ⊢
                  omega
                · simp only [List.size_toArray, List.length_append, List.length_take, List.length_drop, Array.length_toList] at hfit ⊢
                  omega
                · rw [upd_self]
                  have hi2 : i * te.size + te.size ≤ n * te.size := by rw [← Nat.succ_mul]; exact Nat.mul_le_mul_right _ hi
                  rw [List.getElem?_take, if_pos (by omega), hm]
                  simp only [copyG]
                  by_cases cc : i < min m len
                  · have hi3 : i * te.size + te.size ≤ min m len * te.size := by rw [← Nat.succ_mul]; exact Nat.mul_le_mul_right _ cc
                    rw [if_pos (by rw [hcl]; omega), if_pos cc]
                    obtain ⟨u, u1, u2⟩ := hs.rep i (by omega) j hj
                    refine ⟨u, ?_, RepC.mono (Mem.le_refl F) hE _ _ u2⟩
                    rw [Nat.sub_zero, List.getElem?_take, if_pos (by omega)]
                    exact u1
                  · have hi3 : min m len * te.size ≤ i * te.size := Nat.mul_le_mul_right _ (by omega)
                    rw [if_neg (by rw [hcl]; omega), if_neg cc]
                    obtain ⟨u, u1, u2⟩ := o3 i hi j hj
                    refine ⟨u, ?_, RepC.mono (Mem.le_refl F) hE _ _ u2⟩
                    rw [← q7, List.getElem?_take, if_pos (by omega)] at u1
                    exact u1
    | _ => simp at h

/-- A slice literal's elements. -/
def buildP (es : Nat) (ts : Ts) : List (Nat × Operand) → List C → Option (List C)
  | [], cells => some cells
  | (i, x) :: r, cells => match (opnd ts x).cells with
    | some ys => match Nat.beq ys.length es with
      | true => match splice cells (i * es) ys with
        | some cells' => buildP es ts r cells'
        | none => none
      | false => none
    | none => none

def repL : Nat → List C → List C
  | 0, _ => []
  | n + 1, l => l ++ repL n l

def buildSK (e : Nat) (te : TI) (ts : Ts) (H : List O) (len : Nat) (parts : List (Nat × Operand)) : Option (C × List O) :=
  match Nat.ble (len * te.size) 1000 && Nat.ble len 1000 with
  | true => match buildP te.size ts parts (repL len (zeroL te)) with
    | some cs => some (.sl H.length te.size len len true, H ++ [.arr e te.size len (flatG te.size cs)])
    | none => none
  | false => none

theorem repL_len (l : List C) : ∀ n, (repL n l).length = n * l.length
  | 0 => by simp [repL]
  | n + 1 => by simp [repL, repL_len l n, Nat.succ_mul, Nat.add_comm]

theorem repL_get (l : List C) : ∀ (n q : Nat) (x : C), getL (repL n l) q = some x → 0 < l.length ∧ getL l (q % l.length) = some x
  | 0, q, x, h => by simp [repL, getL] at h
  | n + 1, q, x, h => by
    rw [repL, getL_eq] at h
    by_cases c : q < l.length
    · rw [List.getElem?_append_left c] at h
      exact ⟨by omega, by rw [getL_eq, Nat.mod_eq_of_lt c]; exact h⟩
    · rw [List.getElem?_append_right (by omega), ← getL_eq] at h
      obtain ⟨h1, h2⟩ := repL_get l n _ x h
      refine ⟨h1, ?_⟩
      rw [Nat.mod_eq_sub_mod (by omega)]
      exact h2

theorem buildSK_ok {P : Program} {K : Keep} {F : Mem} {H H' : List O} {μ : Nat → Value} {w : World} (hw : HSat K F H μ w) {ts : Ts} {a : Act} (hT : TSat F H μ ts a.tmps) {t e : Nat} {te : TI} (hu : P.underlying t = some (.slice e)) (hte : TIok P e te)
    (hzl : te.zero.length = te.size) {len : Nat} {parts : Array (Nat × Operand)} {c : C} (h : buildSK e te ts H len parts.toList = some (c, H')) :
    ∃ r w' μ', (Instr.buildSlice t len (parts.map fun (i, x) => (i, a.eval x))).run P w = .ok r w' ∧ HSat K F H' μ' w' ∧ Ext H μ H' μ' ∧ RepC F H' μ' c r := by
  unfold buildSK at h
  cases hb : Nat.ble (len * te.size) 1000 && Nat.ble len 1000 with
  | false => simp [hb] at h
  | true =>
    simp only [hb] at h
    rw [Bool.and_eq_true] at hb
    have hle := Nat.le_of_ble_eq_true hb.1
    have hle2 := Nat.le_of_ble_eq_true hb.2
    cases hp : buildP te.size ts parts.toList (repL len (zeroL te)) with
    | none => simp [hp] at h
    | some cs =>
      simp only [hp, Option.some.injEq, Prod.mk.injEq] at h
      obtain ⟨rfl, rfl⟩ := h
      obtain ⟨z, z1, z2, x, x1, x2⟩ := zeroL_ok (P := P) (F := F) (H := H) (μ := μ) hte w
      have hzs : z.cells.size = te.size := by rw [z2.1]; simp [zeroL, hzl]
      have hzl' : (zeroL te).length = te.size := by simp [zeroL, hzl]
      have hsz := sizeOf_ok hte w
      let zero : Array Value := if len * te.size = 0 then #[] else z.cells
      let start : Array Value := (Array.range (len * te.size)).map (zero[· % zero.size]!)
      have hstart : RepL F H μ (repL len (zeroL te)) start := by
        refine ⟨by simp [start, repL_len, hzl'], fun q y hq => ?_⟩
        have hlt := getL_lt hq
        rw [repL_len, hzl'] at hlt
        obtain ⟨h1, h2⟩ := repL_get _ _ _ _ hq
        rw [hzl'] at h1 h2
        obtain ⟨u, u1, u2⟩ := z2.2 _ y h2
        refine ⟨u, ?_, u2⟩
        have hz0 : zero = z.cells := by simp only [zero]; rw [if_neg (by omega)]
        simp only [start, hz0, hzs]
        rw [Array.getElem?_map, Array.getElem?_range, if_pos hlt]
        simp only [Option.map_some]
        have hjz : q % te.size < z.cells.size := by rw [hzs]; exact Nat.mod_lt _ h1
        rw [getElem!_pos z.cells _ hjz]
        rw [Array.getElem?_eq_getElem hjz] at u1
        exact u1
      have fill : ∀ (ps : List (Nat × Operand)) (cells r : List C) (vs : Array Value), buildP te.size ts ps cells = some r → RepL F H μ cells vs →
          ∃ us, Instr.fill (fun i => some (i * te.size, te.size)) vs (ps.map fun x => (x.1, a.eval x.2)) = some us ∧ RepL F H μ r us := by
        intro ps
        induction ps with
        | nil => intro cells r vs h hl; simp only [buildP, Option.some.injEq] at h; subst h; exact ⟨vs, rfl, hl⟩
        | cons p ps ih =>
          obtain ⟨i, x⟩ := p
          intro cells r vs h hl
          simp only [buildP] at h
          cases h3 : (opnd ts x).cells with
          | none => simp [h3] at h
          | some ys =>
            cases h4 : Nat.beq ys.length te.size with
            | false => simp only [h3, h4] at h; cases h
            | true =>
              cases h5 : Am.splice cells (i * te.size) ys with
              | none => simp only [h3, h4, h5] at h; cases h
              | some cells' =>
                simp only [h3, h4, h5] at h
                have hys := cells_ok (opnd_ok hT x) h3
                obtain ⟨us, u1, u2⟩ := ih cells' r _ h (hl.splice hys h5)
                have hsz' : (a.eval x).cells.size = te.size := by rw [hys.1]; exact Nat.eq_of_beq_eq_true h4
                have hfit := (splice_ok _ _ _ _ h5).2.1
                refine ⟨us, ?_, u2⟩
                simp only [List.map_cons, Instr.fill]
                rw [if_neg]
                · exact u1
                · have q1 := hl.1
                  have q2 := hys.1
                  simp [hsz']
                  omega
      obtain ⟨us, u1, u2⟩ := fill parts.toList _ cs start hp hstart
      have hcl : cs.length = len * te.size := by
        have : ∀ (ps : List (Nat × Operand)) (cells r : List C), buildP te.size ts ps cells = some r → r.length = cells.length := by
          intro ps
          induction ps with
          | nil => intro cells r h; simp only [buildP, Option.some.injEq] at h; rw [h]
          | cons p ps ih =>
            obtain ⟨i, x⟩ := p
            intro cells r h
            simp only [buildP] at h
            split at h
            · split at h
              · split at h
                · rename_i h5
                  rw [ih _ _ h, (splice_ok _ _ _ _ h5).1]
                · cases h
              · cases h
            · cases h
        rw [this _ _ _ hp, repL_len, hzl']
      have hE := Ext.push H μ (.arr e te.size len (flatG te.size cs)) (.slice (some ⟨w.heap.size, 0, none⟩) len len)
      have hmax : len ≤ maxLen := by
        unfold maxLen; omega
      refine ⟨.slice (some ⟨w.heap.size, 0, none⟩) len len, w.alloc (.cells us e), upd μ H.length (.slice (some ⟨w.heap.size, 0, none⟩) len len), ?_, hw.push _ _ (World.grownBy_alloc w _ none) (fun b hb => by cases hb; exact Nat.le_refl _) ?_, hE, rfl, e, len, _, getL_append_eq _ _, Nat.le_refl _, Nat.le_refl _, fun _ => ⟨_, _, by simp [upd], rfl, fun _ => rfl⟩⟩
      · have hfill : Instr.fill (fun i => some (i * te.size, te.size)) ((Array.range (len * te.size)).map (zero[· % zero.size]!)) (parts.map fun (i, x) => (i, a.eval x)).toList = some us := by
          simpa using u1
        unfold Instr.buildSlice
        rw [bind_ok (run_underlying hu w)]
        simp only
        rw [bind_ok hsz]
        rw [if_neg (by omega)]
        by_cases c : len * te.size = 0
        · have hz0 : zero = #[] := by simp only [zero, if_pos c]
          rw [hz0] at hfill
          simp only [if_pos c]
          rw [bind_ok (show (pure #[] : Sem (Array Value)).run P w = .ok _ w from rfl)]
          simp only [hfill]
          simp [newRow, newObj, Sem.run]
        · have hz0 : zero = z.cells := by simp only [zero, if_neg c]
          rw [hz0] at hfill
          simp only [if_neg c]
          rw [bind_ok z1]
          rw [bind_ok (show (pure z.cells : Sem (Array Value)).run P w = .ok _ w from rfl)]
          simp only [hfill]
          simp [newRow, newObj, Sem.run]
      · refine ⟨us.toList, ⟨by rw [Array.length_toList, u2.1, hcl], .inr ⟨w.heap.size, len, us, by simp [upd], Nat.zero_le _, heap_alloc_new w _, Nat.le_refl _, hmax, by rw [u2.1, hcl], ?_⟩⟩, hmax, fun i hi j hj => ?_⟩
        · rw [List.take_of_length_le]; rw [Array.length_toList, u2.1, hcl]; exact Nat.le_refl _
        · have hlt : i * te.size + te.size ≤ len * te.size := by rw [← Nat.succ_mul]; exact Nat.mul_le_mul_right _ hi
          have hq : i * te.size + j < cs.length := by rw [hcl]; omega
          obtain ⟨u, v1, v2⟩ := u2.2 (i * te.size + j) cs[i * te.size + j] (by rw [getL_eq]; simp [hq])
          refine ⟨u, by simpa using v1, ?_⟩
          simp only [flatG, lget, getL_eq]
          rw [List.getElem?_eq_getElem hq]
          exact RepC.mono (Mem.le_refl F) hE _ _ v2

end Go.Am
