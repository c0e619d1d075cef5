import Derived.Test.YtbdhjlanfigdgaaA8
import Derived.Laws.AppendOwnNone
/- THE ABSTRACT MACHINE, PART 9: make, append, copy, slice literals. -/
namespace Go.Am

/-- What is read in an append or a copy: what is needed, how many elements, which. -/
def srcK (es : Nat) (H : List O) (y : C) : Option (List Prop × Nat × (Nat → Nat → C)) :=
  match y with
  | .nils => some ([], 0, fun _ _ => .junk)
  | .isl es' m g _ => match Nat.beq es' es with
    | true => some ([], m, g)
    | false => none
  | .sl id es' len tot _ => match Nat.beq es' es with
    | true => match getL H id with
      | some (.arr _ _ n g) => some ([tot = n], len, g)
      | _ => none
    | false => none
  | _ => none

structure Src (F : Mem) (H : List O) (μ : Nat → Value) (w : World) (es m : Nat) (g : Nat → Nat → C) (v : Value) (news : List Value) : Prop where
  le : m ≤ maxLen
  len : news.length = m * es
  val : (v = .slice none 0 0 ∧ m = 0) ∨ ∃ a c, v = .slice (some a) m c ∧ ∀ (j : Nat) u, news[j]? = some u → w.cell? (a.add j) = some u
  rep : ∀ i, i < m → ∀ j, j < es → ∃ u, news[i * es + j]? = some u ∧ RepC F H μ (g i j) u

theorem Src.one {F : Mem} {H : List O} {μ : Nat → Value} {w : World} {es m : Nat} {g : Nat → Nat → C} {v : Value} {news : List Value} (h : Src F H μ w es m g v news) : ∀ u ∈ news, u.oneCell' = true := by
  intro u hu
  obtain ⟨q, hq, e⟩ := List.mem_iff_getElem.1 hu
  rw [h.len] at hq
  have hes : 0 < es := by
    rcases Nat.eq_zero_or_pos es with z | z
    · subst z; simp at hq
    · exact z
  have h1 : q / es < m := (Nat.div_lt_iff_lt_mul hes).2 hq
  obtain ⟨u', u1, u2⟩ := h.rep (q / es) h1 (q % es) (Nat.mod_lt _ hes)
  rw [Nat.div_add_mod' q es] at u1
  rw [List.getElem?_eq_getElem (by rw [h.len]; exact hq), e] at u1
  cases u1
  exact RepC.one _ _ u2

theorem Src.first {F : Mem} {H : List O} {μ : Nat → Value} {w : World} {es m : Nat} {g : Nat → Nat → C} {v : Value} {news : List Value} (h : Src F H μ w es m g v news) (P : Program) (w' : World) (hw : ∀ a, w'.cell? a = w.cell? a)
    (k : Nat) (hk : k ≤ m) : (Builtin.firstCells es k v).run P w' = .ok (news.take (k * es)).toArray w' := by
  rcases h.val with ⟨rfl, rfl⟩ | ⟨a, c, rfl, hc⟩
  · have : k = 0 := by omega
    subst this
    have : news = [] := List.eq_nil_of_length_eq_zero (by rw [h.len]; simp)
    subst this
    simp [Builtin.firstCells]
  · have hlen : (news.take (k * es)).length = k * es := by
      rw [List.length_take, h.len]; exact Nat.min_eq_left (Nat.mul_le_mul_right es hk)
    exact run_firstCells_some w' es k a m c _ hlen (fun j u hu => by
      rw [hw]
      refine hc j u ?_
      rw [List.getElem?_take] at hu
      split at hu
      · exact hu
      · cases hu)

theorem srcK_ok {K : Keep} {F : Mem} {H : List O} {μ : Nat → Value} {w : World} (hw : HSat K F H μ w) {es : Nat} {y : C} {v : Value} {ns : List Prop} {m : Nat} {g : Nat → Nat → C}
    (hy : RepC F H μ y v) (h : srcK es H y = some (ns, m, g)) (hn : ∀ q ∈ ns, q) : ∃ news, Src F H μ w es m g v news := by
  cases y with
  | nils =>
    simp only [srcK, Option.some.injEq, Prod.mk.injEq] at h
    obtain ⟨_, rfl, rfl⟩ := h
    exact ⟨[], Nat.zero_le _, by simp, .inl ⟨hy, rfl⟩, fun i hi => by omega⟩
  | isl es' n get tight =>
    simp only [srcK] at h
    cases hb : Nat.beq es' es with
    | false => simp [hb] at h
    | true =>
      have : es' = es := Nat.eq_of_beq_eq_true hb
      subst this
      simp only [hb, Option.some.injEq, Prod.mk.injEq] at h
      obtain ⟨_, rfl, rfl⟩ := h
      obtain ⟨a, cap, rfl, q1, q2, q3, q3', q4⟩ := hy
      by_cases hn0 : n = 0
      · subst hn0
        cases a with
        | none => exact ⟨[], Nat.zero_le _, by simp, .inl ⟨by rw [q3' rfl], rfl⟩, fun i hi => by omega⟩
        | some a => exact ⟨[], Nat.zero_le _, by simp, .inr ⟨a, cap, rfl, fun j u hu => by simp at hu⟩, fun i hi => by omega⟩
      · rcases q4 with q4 | ⟨b, off, rfl, hc⟩
        · exact absurd q4 hn0
        · refine ⟨(List.range (n * es')).map fun q => (w.cell? ⟨b, off + q, none⟩).getD undef, q1, by simp, .inr ⟨⟨b, off, none⟩, cap, rfl, fun j u hu => ?_⟩, fun i hi j hj => ?_⟩
          · have hj : j < n * es' := by have := (List.getElem?_eq_some_iff.1 hu).1; simpa using this
            have hes : 0 < es' := by
              rcases Nat.eq_zero_or_pos es' with z | z
              · subst z; simp at hj
              · exact z
            obtain ⟨x, x1, _⟩ := hc (j / es') ((Nat.div_lt_iff_lt_mul hes).2 hj) (j % es') (Nat.mod_lt _ hes)
            rw [Nat.add_assoc, Nat.div_add_mod' j es'] at x1
            have hcell : w.cell? ⟨b, off + j, none⟩ = some x := by
              unfold Mem.cell at x1
              cases hf : F b with
              | none => simp [hf] at x1
              | some o =>
                rw [hf] at x1
                cases o with
                | cells c T fz => rw [cell_of_row w b _ c T fz (hw.fr b _ hf)]; exact x1
                | _ => simp at x1
            simp [hj, hcell] at hu
            rw [add_at, hcell, hu]
          · obtain ⟨x, x1, x2⟩ := hc i hi j hj
            have hlt : i * es' + j < n * es' := by
              have : i * es' + es' ≤ n * es' := by rw [← Nat.succ_mul]; exact Nat.mul_le_mul_right es' hi
              omega
            have hcell : w.cell? ⟨b, off + (i * es' + j), none⟩ = some x := by
              rw [Nat.add_assoc] at x1
              unfold Mem.cell at x1
              cases hf : F b with
              | none => simp [hf] at x1
              | some o =>
                rw [hf] at x1
                cases o with
                | cells c T fz => rw [cell_of_row w b _ c T fz (hw.fr b _ hf)]; exact x1
                | _ => simp at x1
            exact ⟨x, by simp [hlt, hcell], RepF.toC H μ _ _ x2⟩
  | sl id es' len tot xq =>
    simp only [srcK] at h
    cases hb : Nat.beq es' es with
    | false => simp [hb] at h
    | true =>
      have : es' = es := Nat.eq_of_beq_eq_true hb
      subst this
      obtain ⟨_, e, n, g', h1, h2, h3, h4⟩ := hy
      simp only [hb, h1, Option.some.injEq, Prod.mk.injEq] at h
      obtain ⟨rfl, rfl, rfl⟩ := h
      have ht : tot = n := hn _ (by simp)
      obtain ⟨a, cap, m1, rfl, _⟩ := h4 ht
      obtain ⟨xs, o1, o2, o3⟩ := hw.ob id _ h1
      have hln : len * es' ≤ n * es' := Nat.mul_le_mul_right es' (by omega)
      refine ⟨xs.take (len * es'), by omega, by rw [List.length_take, o1.1]; omega, ?_, fun i hi j hj => ?_⟩
      · rcases o1.2 with ⟨q1, q2⟩ | ⟨b, cap', cur, q1, _⟩
        · rw [m1] at q1
          simp only [Value.slice.injEq] at q1
          obtain ⟨rfl, _, rfl⟩ := q1
          have : len = 0 := by omega
          subst this
          exact .inl ⟨rfl, rfl⟩
        · rw [m1] at q1
          simp only [Value.slice.injEq, true_and] at q1
          obtain ⟨rfl, rfl⟩ := q1
          refine .inr ⟨⟨b, 0, none⟩, cap, rfl, fun j u hu => ?_⟩
          have := o1.cells (g := b) (by rw [m1]; rfl) j u (by
            rw [List.getElem?_take] at hu
            split at hu
            · exact hu
            · cases hu)
          exact this
      · obtain ⟨u, u1, u2⟩ := o3 i (by omega) j hj
        refine ⟨u, ?_, u2⟩
        have : i * es' + es' ≤ len * es' := by rw [← Nat.succ_mul]; exact Nat.mul_le_mul_right es' hi
        rw [List.getElem?_take, if_pos (by omega)]
        exact u1
  | _ => simp [srcK] at h

/-- append. -/
def appK (e : Nat) (te : TI) (H : List O) (x y : C) : Option (List Prop × C × List O) :=
  match srcK te.size H y with
  | some (ns, m, g2) => match x with
    | .nils => some (ns ++ [m * te.bytes ≤ 140737488355328], .sl H.length te.size m m false, H ++ [.arr e te.size m g2])
    | .isl es n g tight => match Nat.beq es te.size with
      | true => some (ns ++ [tight = true, 1 ≤ m, n + m ≤ 9223372036854775807, (n + m) * te.bytes ≤ 140737488355328], .sl H.length te.size (n + m) (n + m) false, H ++ [.arr e te.size (n + m) (appG g n g2)])
      | false => none
    | .sl id es len tot _ => match Nat.beq es te.size with
      | true => match getL H id with
        | some (.arr e' _ n g) => match Nat.beq e' e with
          | true => match setL H id (.arr e te.size (n + m) (appG g n g2)) with
            | some H' => some (ns ++ [tot = n, len = n, n + m ≤ 9223372036854775807, (n + m) * te.bytes ≤ 140737488355328], .sl id te.size (n + m) (n + m) false, H')
            | none => none
          | false => none
        | _ => none
      | false => none
    | _ => none
  | none => none

theorem zsize {P : Program} {t : Nat} {i : TI} (ht : TIok P t i) : ∃ x z, P.info? t = some x ∧ x.size = i.size ∧ x.bytes = i.bytes ∧ x.zero = some z ∧ z.cells.size = i.zero.length := by
  obtain ⟨x, h1, h2, h3, z, h4, h5⟩ := ht.info
  exact ⟨x, z, h1, h2, h3, h4, by rw [← Array.length_toList, h5]; simp⟩

theorem getD_list {α : Type} (l : List α) (i : Nat) (h : i < l.length) : l[i]? = some l[i] := List.getElem?_eq_getElem h

theorem run_append_new {P : Program} {w : World} {t ty e : TypeId} {x : TypeInfo} {z : Value} (ht : P.underlying t = some (.slice e)) (hi : P.info? e = some x) (hz : x.zero = some z) (base : Option Addr) (n cap m : Nat) (v : Value) (hv : ∃ a c, v = .slice a m c)
    (old news : List Value) (ho : (Builtin.firstCells x.size n (.slice base n cap)).run P w.drew = .ok old.toArray w.drew) (hnw : (Builtin.firstCells x.size m v).run P w.drew = .ok news.toArray w.drew)
    (hgrow : cap < n + m) (h63 : n + m ≤ 9223372036854775807) (hb : (n + m) * x.bytes ≤ 140737488355328) :
    (Builtin.append_ #[t, t] ty #[.slice base n cap, v]).run P w =
      .ok (.slice (some ⟨w.heap.size, 0, none⟩) (n + m) (grownCap w (n + m) cap e)) (w.drew.alloc (.cells (old.toArray ++ news.toArray ++ Builtin.zeroCells z.cells (grownCap w (n + m) cap e - (n + m))) e)) := by
  obtain ⟨a, c, rfl⟩ := hv
  have hne : ¬ (n + m ≤ cap) := by omega
  have hq : Builtin.nextslicecap (n + m) cap * x.bytes ≤ 281474976710656 := by
    have h1 := nextslicecap_le hgrow
    have h2 : Builtin.nextslicecap (n + m) cap * x.bytes ≤ 2 * (n + m) * x.bytes := Nat.mul_le_mul_right _ h1
    rw [Nat.mul_assoc] at h2
    omega
  have h48' : ¬ (281474976710656 < Builtin.nextslicecap (n + m) cap * x.bytes) := by omega
  have h63'' : ¬ (9223372036854775807 < (n : Int) + (m : Int)) := by omega
  simp [Builtin.append_, run_underlying ht, sizeOf, typeInfo, zeroValue, hi, hz, Builtin.lenOf, hne, h63'', h48', ho, hnw, Question.forced, newRow, grownCap]
  congr 2
  rw [← Array.append_assoc]
  simp

set_option maxHeartbeats 2000000 in
theorem appK_ok {P : Program} {K : Keep} {F : Mem} {H H' : List O} {μ : Nat → Value} {w : World} (hw : HSat K F H μ w) {t e ty : Nat} {te : TI} (hu : P.underlying t = some (.slice e)) (hte : TIok P e te) (hzl : te.zero.length = te.size) (hpos : 0 < te.size)
    {x y c : C} {u v : Value} {ns : List Prop} (hx : RepC F H μ x u) (hy : RepC F H μ y v) (h : appK e te H x y = some (ns, c, H')) (hn : ∀ q ∈ ns, q) :
    ∃ r w' μ', (Builtin.append_ #[t, t] ty #[u, v]).run P w = .ok r w' ∧ HSat K F H' μ' w' ∧ Ext H μ H' μ' ∧ RepC F H' μ' c r := by
  unfold appK at h
  cases hsrc : srcK te.size H y with
  | none => simp [hsrc] at h
  | some p =>
    obtain ⟨ns', m, g2⟩ := p
    simp only [hsrc] at h
    obtain ⟨xi, z, i1, i2, i3, i4, i5⟩ := zsize hte
    have hzs : z.cells.size = te.size := by rw [i5, hzl]
    -- what an append to something of the call's own gives
    have own : ∀ (id n : Nat) (g : Nat → Nat → C) (old : List Value) (vv : Value) (H'' : List O), w.ownsRow 0 e te.size vv n old → n ≤ maxLen →
        (∀ i, i < n → ∀ j, j < te.size → ∃ u, old[i * te.size + j]? = some u ∧ RepC F H μ (g i j) u) → n + m ≤ 9223372036854775807 → (n + m) * te.bytes ≤ 140737488355328 →
        (∀ q ∈ ns', q) → getL H'' id = some (.arr e te.size (n + m) (appG g n g2)) → (∀ i, i ≠ id → getL H'' i = getL H i) →
        (∀ v', (m = 0 → v' = vv) → Ext H μ H'' (upd μ id v')) → (∀ k, vv.ownBlock = some k → owned H μ id k) →
        ∃ r w' μ', (Builtin.append_ #[t, t] ty #[vv, v]).run P w = .ok r w' ∧ HSat K F H'' μ' w' ∧ Ext H μ H'' μ' ∧ RepC F H'' μ' (.sl id te.size (n + m) (n + m) false) r := by
      intro id n g old vv H'' hown hnm hrep h63 hby hns hid hoth hE hob
      obtain ⟨news, hs⟩ := srcK_ok hw hy hsrc hns
      have key : ∃ v' w', (Builtin.append_ #[t, t] ty #[vv, v]).run P w = .ok v' w' ∧ w'.ownsRow 0 e te.size v' (n + m) (old ++ news) ∧ w.grownBy w' vv.ownBlock ∧ (m = 0 → v' = vv) ∧ (∀ b, blk v' = some b → vv.ownBlock = some b ∨ w.heap.size ≤ b) := by
        rcases hs.val with ⟨rfl, rfl⟩ | ⟨a, cc, rfl, hc⟩
        · have hnew : news = [] := List.eq_nil_of_length_eq_zero (by rw [hs.len]; simp)
          subst hnew
          refine ⟨vv, w, ?_, by simpa using hown, ⟨rfl, rfl, rfl, Nat.le_refl _, fun _ _ _ => rfl⟩, fun _ => rfl, fun b hb => .inl ?_⟩
          · exact run_append_owned_none (P := P) (w := w) 0 t ty e xi te.size hu i1 vv n old hown
          · rcases hown.2 with ⟨rfl, _⟩ | ⟨_, _, _, rfl, _⟩
            · cases hb
            · exact hb
        · obtain ⟨v', w', r1, r2, r3, r4⟩ := run_append_own (P := P) w 0 t ty e xi z te.size te.bytes hu i1 i4 i2 i3 hzs hpos vv n old hown a m cc news hs.len hc hs.one (by unfold maxLen; omega) (by omega) (Nat.zero_le _)
          refine ⟨v', w', r1, r2, r3, ?_, ?_⟩
          · intro hm
            subst hm
            rcases hown.2 with ⟨rfl, rfl⟩ | ⟨b, cap, cur, rfl, _, q3, q4, q5, q6, q7⟩
            · exact r4.2 ⟨rfl, rfl⟩
            · have : (Builtin.append_ #[t, t] ty #[.slice (some ⟨b, 0, none⟩) n cap, .slice (some a) 0 cc]).run P w = .ok (.slice (some ⟨b, 0, none⟩) (n + 0) cap) (w.setRow b (cur.toList.take (n * xi.size) ++ news ++ cur.toList.drop (n * xi.size + news.length)).toArray) :=
                run_append_room (P := P) w t ty e xi hu i1 b n cap cur q3 a 0 cc news (by rw [hs.len, i2]) hc hs.one (by omega) (by
                  rw [hs.len, i2, q6]
                  have := Nat.mul_le_mul_right te.size q4
                  omega)
              rw [this] at r1
              cases r1
              rfl
          · intro b hb
            rcases hown.2 with ⟨rfl, rfl⟩ | ⟨b', cap, cur, rfl, _, q3, q4, q5, q6, q7⟩
            · by_cases hm : m = 0
              · have := r4.2 ⟨rfl, hm⟩
                rw [this] at hb; cases hb
              · right
                have := run_append_nil (P := P) w t ty e xi z hu i1 i4 a m cc news (by rw [hs.len, i2]) hc (by omega) (by omega) (by rw [i3]; rw [Nat.zero_add] at hby; omega)
                rw [this] at r1
                cases r1
                cases hb
                exact Nat.le_refl _
            · by_cases hroom : n + m ≤ cap
              · left
                have : (Builtin.append_ #[t, t] ty #[.slice (some ⟨b', 0, none⟩) n cap, .slice (some a) m cc]).run P w = .ok (.slice (some ⟨b', 0, none⟩) (n + m) cap) (w.setRow b' (cur.toList.take (n * xi.size) ++ news ++ cur.toList.drop (n * xi.size + news.length)).toArray) :=
                  run_append_room (P := P) w t ty e xi hu i1 b' n cap cur q3 a m cc news (by rw [hs.len, i2]) hc hs.one hroom (by
                    rw [hs.len, i2, q6, ← Nat.add_mul]
                    exact Nat.mul_le_mul_right te.size hroom)
                rw [this] at r1
                cases r1
                cases hb
                rfl
              · right
                have hf1 : (Builtin.firstCells xi.size n (.slice (some ⟨b', 0, none⟩) n cap)).run P w.drew = .ok old.toArray w.drew := by
                  refine run_firstCells_some w.drew xi.size n ⟨b', 0, none⟩ n cap old (by rw [hown.1, i2]) (fun j u hu => ?_)
                  exact hown.cells (g := b') rfl j u hu
                have hf2 : (Builtin.firstCells xi.size m (.slice (some a) m cc)).run P w.drew = .ok news.toArray w.drew :=
                  run_firstCells_some w.drew xi.size m a m cc news (by rw [hs.len, i2]) (fun j u hu => hc j u hu)
                have := run_append_new (P := P) (w := w) (ty := ty) hu i1 i4 (some ⟨b', 0, none⟩) n cap m (.slice (some a) m cc) ⟨_, _, rfl⟩ old news hf1 hf2 (by omega) (by omega) (by rw [i3]; exact hby)
                rw [this] at r1
                cases r1
                cases hb
                exact Nat.le_refl _
      obtain ⟨v', w', r1, r2, r3, r4, r5⟩ := key
      have hE' := hE v' r4
      have hsat := hw.step id _ v' hid hoth hE' r3 hob (fun b hb => (r5 b hb).imp (hob b) fun q => q) (show OSat F H'' (upd μ id v') w' id (.arr e te.size (n + m) (appG g n g2)) from by
        refine ⟨old ++ news, by simp only [upd, if_true]; exact r2, by unfold maxLen; omega, fun i hi j hj => ?_⟩
        by_cases c : i < n
        · obtain ⟨u, u1, u2⟩ := hrep i c j hj
          have : i * te.size + te.size ≤ n * te.size := by rw [← Nat.succ_mul]; exact Nat.mul_le_mul_right _ c
          refine ⟨u, ?_, by simp only [appG, if_pos c]; exact RepC.mono (Mem.le_refl F) hE' _ _ u2⟩
          rw [List.getElem?_append_left (by rw [hown.1]; omega)]
          exact u1
        · obtain ⟨u, u1, u2⟩ := hs.rep (i - n) (by omega) j hj
          refine ⟨u, ?_, by simp only [appG, if_neg c]; exact RepC.mono (Mem.le_refl F) hE' _ _ u2⟩
          have : n * te.size ≤ i * te.size := Nat.mul_le_mul_right _ (by omega)
          rw [List.getElem?_append_right (by rw [hown.1]; omega), hown.1]
          rw [show i * te.size + j - n * te.size = (i - n) * te.size + j by rw [Nat.sub_mul]; omega]
          exact u1)
      refine ⟨v', w', _, r1, hsat, hE', ?_, e, n + m, _, hid, Nat.le_refl _, Nat.le_refl _, fun _ => ?_⟩
      · rcases r2.2 with ⟨rfl, _⟩ | ⟨_, _, _, rfl, _⟩ <;> rfl
      · rcases r2.2 with ⟨rfl, q⟩ | ⟨b, cap, _, rfl, _⟩
        · exact ⟨none, 0, by simp [upd, q], by simp [q], fun e => by cases e⟩
        · exact ⟨some ⟨b, 0, none⟩, cap, by simp [upd], rfl, fun e => by cases e⟩
    cases x with
    | nils =>
      simp only [Option.some.injEq, Prod.mk.injEq] at h
      obtain ⟨rfl, rfl, rfl⟩ := h
      rw [show u = _ from hx]
      obtain ⟨news, hs⟩ := srcK_ok hw hy hsrc (all_left hn)
      have hm := hs.le
      have hg2 : appG (fun _ _ => C.junk) 0 g2 = g2 := by funext i j; simp [appG]
      have := own H.length 0 (fun _ _ => .junk) [] (.slice none 0 0) (H ++ [.arr e te.size m g2]) (World.ownsRow_nil w 0 e te.size) (Nat.zero_le _) (fun i hi => by omega) (by unfold maxLen at hm; omega) (by rw [Nat.zero_add]; exact all_right hn _ (by simp)) (all_left hn)
        (by rw [Nat.zero_add, hg2]; exact getL_append_eq _ _) (fun i hi => getL_append_lt _ _ _ hi) (fun v' _ => Ext.push H μ _ v') (fun k hk => by cases hk)
      simpa using this
    | isl es n g tight =>
      simp only at h
      cases hb : Nat.beq es te.size with
      | false => simp [hb] at h
      | true =>
        have : es = te.size := Nat.eq_of_beq_eq_true hb
        subst this
        simp only [hb, Option.some.injEq, Prod.mk.injEq] at h
        obtain ⟨rfl, rfl, rfl⟩ := h
        have c1 : tight = true := all_right hn _ (by simp)
        have c2 : 1 ≤ m := all_right hn _ (by simp)
        have c3 : n + m ≤ 9223372036854775807 := all_right hn _ (by simp)
        have c4 : (n + m) * te.bytes ≤ 140737488355328 := all_right hn _ (by simp)
        obtain ⟨news, hs⟩ := srcK_ok hw hy hsrc (all_left hn)
        obtain ⟨olds, hos⟩ := srcK_ok hw (y := .isl te.size n g tight) (es := te.size) (ns := []) (m := n) (g := g) hx (by simp [srcK]) (by simp)
        obtain ⟨a, cap, rfl, q1, q2, q3, q3', q4⟩ := hx
        have hcap := q3 c1
        subst hcap
        have hf1 := hos.first P w.drew (fun _ => rfl) cap (Nat.le_refl _)
        have hf2 := hs.first P w.drew (fun _ => rfl) m (Nat.le_refl _)
        rw [List.take_of_length_le (by rw [hos.len]; exact Nat.le_refl _)] at hf1
        rw [List.take_of_length_le (by rw [hs.len]; exact Nat.le_refl _)] at hf2
        have hv : ∃ a c, v = .slice a m c := by
          rcases hs.val with ⟨rfl, rfl⟩ | ⟨a, c, rfl, _⟩
          · exact ⟨none, 0, rfl⟩
          · exact ⟨_, _, rfl⟩
        have run := run_append_new (P := P) (w := w) (ty := ty) hu i1 i4 a cap cap m v hv olds news (by rw [i2]; exact hf1) (by rw [i2]; exact hf2) (by omega) c3 (by rw [i3]; exact c4)
        have hge := grownCap_ge w (cap + m) cap e
        have hcm : grownCap w (cap + m) cap e ≤ maxLen := grownCap_le_maxLen w (cap + m) cap e (by unfold maxLen; omega)
        have hE := Ext.push H μ (.arr e te.size (cap + m) (appG g cap g2)) (.slice (some ⟨w.heap.size, 0, none⟩) (cap + m) (grownCap w (cap + m) cap e))
        refine ⟨_, _, _, run, hw.push _ _ ⟨rfl, rfl, rfl, by simp, fun k hk _ => heap_alloc_old w.drew _ k hk⟩ (fun b hb => by cases hb; exact Nat.le_refl _) ?_, hE, rfl, e, cap + m, _, getL_append_eq _ _, Nat.le_refl _, Nat.le_refl _, fun _ => ⟨_, _, by simp [upd], rfl, fun e => by cases e⟩⟩
        refine ⟨olds ++ news, ⟨by rw [List.length_append, hos.len, hs.len, Nat.add_mul], .inr ⟨w.heap.size, grownCap w (cap + m) cap e, _, by simp [upd], Nat.zero_le _, heap_alloc_new w.drew _, hge, hcm, ?_, ?_⟩⟩, by unfold maxLen; omega, fun i hi j hj => ?_⟩
        · simp only [Array.size_append, List.size_toArray, size_zeroCells, hzs, hos.len, hs.len, ← Nat.add_mul]
          congr 1
          omega
        · simp only [Array.toList_append, List.append_assoc]
          rw [← List.append_assoc]
          exact List.take_left' (by rw [List.length_append, hos.len, hs.len, Nat.add_mul])
        · by_cases c : i < cap
          · obtain ⟨u, u1, u2⟩ := hos.rep i c j hj
            have : i * te.size + te.size ≤ cap * te.size := by rw [← Nat.succ_mul]; exact Nat.mul_le_mul_right _ c
            refine ⟨u, ?_, by simp only [appG, if_pos c]; exact RepC.mono (Mem.le_refl F) hE _ _ u2⟩
            rw [List.getElem?_append_left (by rw [hos.len]; omega)]
            exact u1
          · obtain ⟨u, u1, u2⟩ := hs.rep (i - cap) (by omega) j hj
            refine ⟨u, ?_, by simp only [appG, if_neg c]; exact RepC.mono (Mem.le_refl F) hE _ _ u2⟩
            have : cap * te.size ≤ i * te.size := Nat.mul_le_mul_right _ (by omega)
            rw [List.getElem?_append_right (by rw [hos.len]; omega), hos.len]
            rw [show i * te.size + j - cap * te.size = (i - cap) * te.size + j by rw [Nat.sub_mul]; omega]
            exact u1
    | sl id es len tot xq =>
      simp only at h
      cases hb : Nat.beq es te.size with
      | false => simp [hb] at h
      | true =>
        have : es = te.size := Nat.eq_of_beq_eq_true hb
        subst this
        obtain ⟨_, e', n, g, h1, h2, h3, h4⟩ := hx
        simp only [hb, h1] at h
        cases hbe : Nat.beq e' e with
        | false => simp [hbe] at h
        | true =>
          have : e' = e := Nat.eq_of_beq_eq_true hbe
          subst this
          cases hset : setL H id (.arr e' te.size (n + m) (appG g n g2)) with
          | none => simp [hset] at h
          | some H'' =>
            simp only [hbe, hset, Option.some.injEq, Prod.mk.injEq] at h
            obtain ⟨rfl, rfl, rfl⟩ := h
            have c1 : tot = n := all_right hn _ (by simp)
            have c2 : len = n := all_right hn _ (by simp)
            have c3 : n + m ≤ 9223372036854775807 := all_right hn _ (by simp)
            have c4 : (n + m) * te.bytes ≤ 140737488355328 := all_right hn _ (by simp)
            obtain ⟨a, cap, m1, rfl, _⟩ := h4 c1
            subst c2
            obtain ⟨xs, o1, o2, o3⟩ := hw.ob id _ h1
            obtain ⟨e1, e2⟩ := getL_set hset
            rw [← m1]
            refine own id len g xs (μ id) H'' o1 o2 o3 c3 c4 (all_left hn) e1 e2 ?_ ?_
            · intro v' hv'
              refine ⟨fun id' cs hc => ?_, fun id' e0 es0 n0 g0 hc => ?_⟩
              · have hne : id' ≠ id := fun ee => by subst ee; rw [h1] at hc; cases hc
                exact ⟨⟨cs, by rw [e2 id' hne]; exact hc⟩, by simp [upd, hne]⟩
              · by_cases ee : id' = id
                · subst ee
                  rw [h1] at hc
                  cases hc
                  exact ⟨_, _, e1, by omega, fun q => by simp only [upd, if_true]; exact hv' (by omega)⟩
                · exact ⟨n0, g0, by rw [e2 id' ee]; exact hc, Nat.le_refl _, fun _ => by simp [upd, ee]⟩
            · intro k hk
              refine ⟨⟨_, h1, by simp⟩, ?_⟩
              rw [m1] at hk ⊢
              cases a with
              | none => cases hk
              | some a => exact hk
    | _ => simp at h

end Go.Am
