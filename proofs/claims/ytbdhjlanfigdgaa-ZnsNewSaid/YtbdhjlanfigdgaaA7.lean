import Derived.Test.YtbdhjlanfigdgaaA6
/- THE ABSTRACT MACHINE, PART 7: 'val' says what the model does. -/
namespace Go.Am

theorem val1 {P : Program} {s : Sem Value} {w w' : World} {r : Value} (h : s.run P w = .ok r w') : (do pure (Next.value (← s)) : Sem Next).run P w = .ok (.value r) w' := by
  rw [bind_ok h]; rfl

theorem all_left {p q : List Prop} (h : ∀ x ∈ p ++ q, x) : ∀ x ∈ p, x := fun x hx => h x (List.mem_append.2 (.inl hx))
theorem all_right {p q : List Prop} (h : ∀ x ∈ p ++ q, x) : ∀ x ∈ q, x := fun x hx => h x (List.mem_append.2 (.inr hx))

theorem optInt_ok {F : Mem} {H : List O} {μ : Nat → Value} {ts : Ts} {a : Act} (hT : TSat F H μ ts a.tmps) {x : Option Operand} {r : Option Int} (h : optInt ts x = some r) : kindI r (x.map a.eval) := by
  cases x with
  | none => simp only [optInt, Option.some.injEq] at h; subst h; trivial
  | some x =>
    simp only [optInt] at h
    have hx := opnd_ok hT x
    split at h
    · rename_i k n ho
      cases h
      rw [ho] at hx
      exact ⟨k, hx⟩
    · cases h

theorem bytes_run {P : Program} {src dst e : TypeId} (hs : P.underlying src = some (.slice e)) (he : P.underlying e = some (.int .u8)) (hd : P.underlying dst = some .string) (w : World) (a : Option Addr) (n cap : Nat) (get : Nat → Nat → C)
    (hg : ∀ i, i < n → ∃ v, get i 0 = .int .u8 v) (hc : n = 0 ∨ ∃ b off, a = some ⟨b, off, none⟩ ∧ ∀ i, i < n → ∃ v, get i 0 = .int .u8 v ∧ w.cell? ⟨b, off + i, none⟩ = some (.int .u8 v)) (hnil : a = none → n = 0) :
    (convert src dst (.slice a n cap)).run P w = .ok (.string (bytesOf n get)) w := by
  rw [run_convert_bytes_string w src dst e a n cap hs he hd]
  cases a with
  | none =>
    have := hnil rfl
    subst this
    simp [Conv.bytesToString, bytesOf]
    rfl
  | some a =>
    let xs : List Int := (List.range n).map fun i => match get i 0 with | .int _ v => v | _ => 0
    have hl : (loadCells a n).run P w = .ok (xs.map (Value.int .u8)).toArray w := by
      have := run_loadCells_list (P := P) w a (xs.map (Value.int .u8)) (fun j v hj => by
        have hjn : j < n := by
          have := (List.getElem?_eq_some_iff.1 hj).1
          simpa [xs] using this
        rcases hc with hc | ⟨b, off, rfl', hc⟩
        · omega
        · cases rfl'
          obtain ⟨u, u1, u2⟩ := hc j hjn
          rw [add_at, u2]
          simp [xs, hjn, u1] at hj
          rw [hj])
      simpa [xs] using this
    rw [run_bytesToString w a n cap xs hl, foldl_push_bytes]
    congr 2
    simp only [bytesOf, xs, List.map_map]
    have : ∀ l : List Nat, (∀ i ∈ l, i < n) → l.map ((fun n : Int => UInt8.ofNat n.toNat) ∘ fun i => match get i 0 with | .int _ v => v | _ => 0) = l.map fun i => byteC (get i 0) := by
      intro l hl
      apply List.map_congr_left
      intro i hi
      obtain ⟨v, hv⟩ := hg i (hl i hi)
      simp [hv, byteC]
    rw [this _ (fun i hi => List.mem_range.1 hi)]
    show (⟨#[] ++ _⟩ : ByteArray) = _
    simp

theorem convC_ok {P : Program} {Γ : Env} (hΓ : EnvOk P Γ) {K : Keep} {F : Mem} {H : List O} {μ : Nat → Value} {w : World} (hw : HSat K F H μ w) {src dst : Nat} {x c : C} {v : Value} {ns : List Prop}
    (hx : RepC F H μ x v) (h : convC Γ src dst H x = some (ns, c)) (hn : ∀ q ∈ ns, q) : ∃ r, (convert src dst v).run P w = .ok r w ∧ RepC F H μ c r := by
  have bsz : ∀ n get, n ≤ maxLen → (bytesOf n get).size ≤ maxLen := by intro n get h; simpa [bytesOf, ByteArray.size] using h
  cases x with
  | int k n =>
    rw [show v = _ from hx]
    simp only [convC] at h
    cases h1 : isIntT Γ src with
    | none => simp [h1] at h
    | some k1 =>
      cases h2 : isIntT Γ dst with
      | none => simp [h1, h2] at h
      | some k2 =>
        simp only [h1, h2, Option.some.injEq, Prod.mk.injEq] at h
        obtain ⟨rfl, rfl⟩ := h
        refine ⟨.int k2 (k2.wrap n), ?_, rfl⟩
        unfold convert
        rw [bind_ok (run_underlying (isIntT_ok hΓ h1) w), bind_ok (run_underlying (isIntT_ok hΓ h2) w)]
        rfl
  | isl es n get tight =>
    obtain ⟨a, cap, rfl, q1, q2, q3, q3', q4⟩ := hx
    simp only [convC] at h
    cases h1 : elemOf Γ src with
    | none => simp [h1] at h
    | some p =>
      obtain ⟨e, te⟩ := p
      obtain ⟨u1, u2⟩ := elemOf_ok hΓ h1
      simp only [h1] at h
      split at h
      · rename_i hk
        cases h3 : isStrT Γ dst with
        | false => simp [h3] at h
        | true =>
          simp only [h3] at h
          split at h
          · rename_i hb
            simp only [Option.some.injEq, Prod.mk.injEq] at h
            obtain ⟨rfl, rfl⟩ := h
            have hg : ∀ i, i < n → ∃ v, get i 0 = .int .u8 v := hn _ (by simp)
            refine ⟨_, bytes_run u1 (isIntT_ok hΓ hk) (isStrT_ok hΓ h3) w a n cap get hg ?_ ?_, rfl, bsz _ _ q1⟩
            · rcases q4 with q4 | ⟨b, off, rfl, hc⟩
              · exact .inl q4
              · have hes : es = 1 := Nat.eq_of_beq_eq_true hb
                subst hes
                refine .inr ⟨b, off, rfl, fun i hi => ?_⟩
                obtain ⟨u, hu⟩ := hg i hi
                obtain ⟨y, y1, y2⟩ := hc i hi 0 (by omega)
                rw [hu] at y2
                refine ⟨u, hu, ?_⟩
                rw [show y = _ from y2] at y1
                unfold Mem.cell at y1
                cases hf : F b with
                | none => simp [hf] at y1
                | some o =>
                  rw [hf] at y1
                  cases o with
                  | cells c T fz => rw [cell_of_row w b _ c T fz (hw.fr b _ hf)]; simpa using y1
                  | _ => simp at y1
            · intro ha
              rcases q4 with q4 | ⟨b, off, rfl, hc⟩
              · exact q4
              · cases ha
          · cases h
      · cases h
  | sl id es len tot xq =>
    obtain ⟨_, e', n, g, h1', h2', h3', h4'⟩ := hx
    simp only [convC] at h
    cases h1 : elemOf Γ src with
    | none => simp [h1] at h
    | some p =>
      obtain ⟨e, te⟩ := p
      obtain ⟨u1, u2⟩ := elemOf_ok hΓ h1
      simp only [h1] at h
      split at h
      · rename_i hk
        cases h3 : isStrT Γ dst with
        | false => simp [h3] at h
        | true =>
          simp only [h3] at h
          split at h
          · rename_i hb
            simp only [h1', Option.some.injEq, Prod.mk.injEq] at h
            obtain ⟨rfl, rfl⟩ := h
            have hes : es = 1 := Nat.eq_of_beq_eq_true hb
            subst hes
            have ht : tot = n := hn _ (by simp)
            have hg : ∀ i, i < len → ∃ v, g i 0 = .int .u8 v := hn _ (by simp)
            obtain ⟨a, cap, m1, rfl, _⟩ := h4' ht
            obtain ⟨xs, o1, o2, o3⟩ := hw.ob id _ h1'
            refine ⟨_, bytes_run u1 (isIntT_ok hΓ hk) (isStrT_ok hΓ h3) w a len cap g hg ?_ ?_, rfl, bsz _ _ (by omega)⟩
            · rcases o1.2 with ⟨q1, q2⟩ | ⟨b, cap', cur, q1, _⟩
              · exact .inl (by omega)
              · rw [m1] at q1
                simp only [Value.slice.injEq, true_and] at q1
                obtain ⟨rfl, rfl⟩ := q1
                refine .inr ⟨b, 0, rfl, fun i hi => ?_⟩
                obtain ⟨u, hu⟩ := hg i hi
                obtain ⟨y, y1, y2⟩ := o3 i (by omega) 0 (by omega)
                rw [hu] at y2
                refine ⟨u, hu, ?_⟩
                rw [show y = _ from y2] at y1
                have := o1.cells (g := b) (by rw [m1]; rfl) _ _ y1
                rw [add_at] at this
                simpa using this
            · intro ha
              subst ha
              rcases o1.2 with ⟨q1, q2⟩ | ⟨b, cap', cur, q1, _⟩
              · omega
              · rw [m1] at q1; simp at q1
          · cases h
      · cases h
  | _ => simp [convC] at h

theorem nilOk_ok {P : Program} {F : Mem} {H : List O} {μ : Nat → Value} (w : World) {c : C} {v : Value} {ns : List Prop} (hc : RepC F H μ c v) (h : nilOk H c = some ns) (hn : ∀ q ∈ ns, q) (ρ : Operand → Value) (o : Oper) {x : Operand} (ho : o.op = .nilCheck x) (hx : ρ x = v) :
    (execOp ρ o).run P w = .ok (.value v) w := by
  unfold execOp
  rw [ho]
  simp only [hx]
  cases c with
  | ptr id off => obtain ⟨_, b, _, rfl⟩ := hc; rfl
  | ip n get => obtain ⟨b, off, rfl, _⟩ := hc; rfl
  | fn f n get =>
    obtain ⟨cs, rfl, _⟩ := hc
    cases f <;> simp [nilOk] at h
    rfl
  | ep id i j tot =>
    obtain ⟨_, e, es, n, g, h1, h2, h3⟩ := hc
    simp only [nilOk, h1, Option.some.injEq] at h
    subst h
    obtain ⟨b, cap, _, _, rfl⟩ := h3 (hn _ (by simp))
    rfl
  | _ => simp [nilOk] at h

theorem val_ok {P : Program} {Γ : Env} (hΓ : EnvOk P Γ) {K : Keep} {F : Mem} {H : List O} {μ : Nat → Value} {w : World} (hw : HSat K F H μ w) {ts : Ts} {a : Act} (hT : TSat F H μ ts a.tmps) (o : Oper) {ns : List Prop} {s : S}
    (h : val Γ ts H o.op = some (ns, s)) (hn : ∀ q ∈ ns, q) : ∃ r, (execOp a.eval o).run P w = .ok (.value r) w ∧ RepS F H μ s r := by
  have O := opnd_ok hT
  have B : ∀ {x : Operand} {p : List Prop} {s' : S}, bare (opnd ts x) = (p, s') → (∀ q ∈ p, q) → RepS F H μ s' (a.eval x) := fun hb hp => bare_ok (O _) hb hp
  unfold val at h
  split at h
  · -- move
    rename_i x ho
    cases h
    exact ⟨_, by unfold execOp; rw [ho]; rfl, O x⟩
  · -- assign
    rename_i x ho
    cases h
    exact ⟨_, by unfold execOp; rw [ho]; rfl, O x⟩
  · -- pick
    rename_i c x y ho
    split at h
    · rename_i pc b hb1
      split at h
      · rename_i pa u hb2
        split at h
        · rename_i pb v hb3
          split at h
          · rename_i r hr
            cases h
            have hc : a.eval c = .bool b := B hb1 (fun q hq => hn q (by simp [hq]))
            have := pickC_ok (F := F) (H := H) (μ := μ) hr (fun e => B hb2 (fun q hq => hn (b = true → q) (by
                simp only [List.mem_append, List.mem_map]; exact .inl (.inr ⟨q, hq, rfl⟩)) e)) (fun e => B hb3 (fun q hq => hn (b = false → q) (by
                simp only [List.mem_append, List.mem_map]; exact .inr ⟨q, hq, rfl⟩) e))
            refine ⟨_, ?_, this⟩
            unfold execOp
            rw [ho]
            simp only [hc, asBool]
            cases b <;> rfl
          · cases h
        · cases h
      · cases h
    · cases h
  · -- load
    rename_i t x ho
    split at h
    · rename_i i hi
      split at h
      · rename_i p c hb
        split at h
        · rename_i q s' hl
          cases h
          obtain ⟨r, r1, r2⟩ := loadK_ok (P := P) (hΓ t i hi) hw (B hb (all_left hn)) hl (all_right hn)
          exact ⟨r, by unfold execOp; rw [ho]; exact val1 r1, r2⟩
        · cases h
      · cases h
    · cases h
  · -- nilCheck
    rename_i x ho
    split at h
    · rename_i p c hb
      split at h
      · rename_i q hq
        cases h
        have hc := B hb (all_left hn)
        exact ⟨a.eval x, nilOk_ok w hc hq (all_right hn) a.eval o ho rfl, hc⟩
      · cases h
    · cases h
  · -- fieldAddr
    rename_i t x f ho
    split at h
    · rename_i off hf
      split at h
      · rename_i p c hb
        split at h
        · rename_i r hr
          split at h
          · rename_i q hq
            cases h
            obtain ⟨v, v1, v2⟩ := fieldK_ok (P := P) hΓ hf w (B hb (all_left hn)) hr (by
              intro id i j tot e e' es n g hg
              subst e
              simp only [fieldN, hg, Option.some.injEq] at hq
              subst hq
              exact all_right hn _ (by simp))
            exact ⟨v, by unfold execOp; rw [ho]; exact val1 v1, v2⟩
          · cases h
        · cases h
      · cases h
    · cases h
  · -- field
    rename_i t x f ho
    split at h
    · rename_i p cs hb
      split at h
      · rename_i s' hf
        cases h
        obtain ⟨vs, v1, v2⟩ := B hb hn
        obtain ⟨r, r1, r2⟩ := fieldV_ok (P := P) hΓ w v2 hf
        exact ⟨r, by unfold execOp; rw [ho]; simp only [v1]; exact val1 r1, r2⟩
      · cases h
    · cases h
  · -- indexAddr
    rename_i t x i ho
    split at h
    · rename_i e te he
      split at h
      · rename_i p x' hb1
        split at h
        · rename_i q k i' hb2
          split at h
          · rename_i r c hc
            cases h
            have hi : a.eval i = .int k i' := B hb2 (all_right (all_left hn))
            obtain ⟨v, v1, v2⟩ := indexK_ok (P := P) hΓ hw he (k := k) (B hb1 (all_left (all_left hn))) hc (all_right hn)
            exact ⟨v, by unfold execOp; rw [ho]; simp only [hi]; exact val1 v1, v2⟩
          · cases h
        · cases h
      · cases h
    · cases h
  · -- index
    rename_i t x i ho
    split at h
    · rename_i ht
      split at h
      · rename_i p s' hb1
        split at h
        · rename_i q k i' hb2
          cases h
          have hi : a.eval i = .int k i' := B hb2 (all_right (all_left hn))
          have hx := B hb1 (all_left (all_left hn))
          have h0 : 0 ≤ i' := all_right hn _ (by simp)
          have h1 : i' < s'.size := all_right hn _ (by simp)
          have hlt : i'.toNat < s'.size := by omega
          refine ⟨.int .u8 (s'[i'.toNat]).toNat, ?_, ?_⟩
          · unfold execOp
            rw [ho]
            simp only [hi, hx.1]
            apply val1
            simp [Instr.index, asIntOf, run_underlying (isStrT_ok hΓ ht), h0, hlt]
          · show Value.int .u8 _ = Value.int .u8 _
            congr 3
            simp [List.getD, ByteArray.getElem_eq_getElem_data, hlt]
        · cases h
      · cases h
    · cases h
  · -- binOp
    rename_i op t x y yt ho
    split at h
    · rename_i p x' hb1
      split at h
      · rename_i q y' hb2
        split at h
        · rename_i r v hv
          have key : ∀ (hns : ns = p ++ q ++ r) (hs : s = .c v) (ht : (∃ b, x' = .bool b) → P.underlying t = some .bool), ∃ r, (execOp a.eval o).run P w = .ok (.value r) w ∧ RepS F H μ s r := by
            intro hns hs ht
            subst hns
            subst hs
            obtain ⟨u, u1, u2⟩ := binC_run (P := P) (F := F) (H := H) (μ := μ) w (t := t) (X := x) (Y := y) ht hv (all_right hn) (B hb1 (all_left (all_left hn))) (B hb2 (all_right (all_left hn)))
            exact ⟨u, by unfold execOp; rw [ho]; exact val1 u1, u2⟩
          split at h
          · split at h
            · rename_i hbt
              cases h
              exact key rfl rfl (fun _ => isBoolT_ok hΓ hbt)
            · cases h
          · rename_i hx'
            cases h
            exact key rfl rfl (fun ⟨b, e⟩ => absurd e (hx' b))
        · cases h
      · cases h
    · cases h
  · -- unOp
    rename_i op t x ho
    split at h
    · rename_i p x' hb1
      split at h
      · rename_i v hv
        cases h
        obtain ⟨u, u1, u2⟩ := unC_ok (P := P) w hv (B hb1 hn)
        exact ⟨u, by unfold execOp; rw [ho]; exact val1 u1, u2⟩
      · cases h
    · cases h
  · -- convert
    rename_i src dst x ho
    split at h
    · rename_i p x' hb1
      split at h
      · rename_i q v hv
        cases h
        obtain ⟨u, u1, u2⟩ := convC_ok (P := P) hΓ hw (B hb1 (all_left hn)) hv (all_right hn)
        exact ⟨u, by unfold execOp; rw [ho]; exact val1 u1, u2⟩
      · cases h
    · cases h
  · -- extract
    rename_i x i ho
    split at h
    · rename_i l hb
      have hx := O x
      rw [hb] at hx
      obtain ⟨vs, v1, v2, v3⟩ := hx
      split at h
      · rename_i c hc
        cases h
        obtain ⟨u, u1, u2⟩ := v3 i _ hc
        exact ⟨u, by unfold execOp; rw [ho]; simp only [v1]; apply val1; simp [Instr.extract, u1], u2⟩
      · rename_i cs hc
        cases h
        obtain ⟨u, u1, u2⟩ := v3 i _ hc
        exact ⟨u, by unfold execOp; rw [ho]; simp only [v1]; apply val1; simp [Instr.extract, u1], u2⟩
      · cases h
    · cases h
  · -- build
    rename_i t parts ho
    split at h
    · rename_i s' hs
      cases h
      obtain ⟨u, u1, u2⟩ := buildV_ok (P := P) hΓ hT w hs
      exact ⟨u, by unfold execOp; rw [ho]; exact val1 u1, u2⟩
    · cases h
  · -- makeFunc
    rename_i f first captured ho
    split at h
    · rename_i hf
      split at h
      · rename_i cs hc
        cases h
        obtain ⟨c1, c2⟩ := opndCs_ok hT _ _ hc
        have hfe : first = #[] := by simpa using hf
        refine ⟨.func f #[] (captured.map a.eval), ?_, captured.map a.eval, rfl, by simpa using c1.symm, fun j hj => ?_⟩
        · unfold execOp
          rw [ho, hfe]
          apply val1
          simp [Instr.makeFunc]
        · obtain ⟨u, u1, u2⟩ := c2 j cs[j] (by rw [getL_eq]; simp [hj])
          refine ⟨u, by simpa using u1, ?_⟩
          simp only [lget, getL_eq]
          simpa [hj] using u2
      · cases h
    · cases h
  · -- slice
    rename_i t x lo hi mx ho
    split at h
    · rename_i p x' hb
      split at h
      · rename_i lo' hlo
        split at h
        · rename_i hi' hhi
          split at h
          · rename_i mx' hmx
            split at h
            · rename_i q c hc
              have key : sliceT P Γ t x' → (∀ y ∈ p ++ q, y) → ∃ r, (execOp a.eval o).run P w = .ok (.value r) w ∧ RepS F H μ (.c c) r := by
                intro ht hn'
                obtain ⟨u, u1, u2⟩ := sliceK_ok (P := P) hΓ w (B hb (all_left hn')) hc (all_right hn') (optInt_ok hT hlo) (optInt_ok hT hhi) (optInt_ok hT hmx) ht
                exact ⟨u, by unfold execOp; rw [ho]; exact val1 u1, u2⟩
              cases x' with
              | isl es n g tt =>
                simp only at h
                cases he : elemOf Γ t with
                | none => simp [he] at h
                | some pr =>
                  simp only [he] at h
                  cases hes : Nat.beq es pr.2.size with
                  | false => simp [hes] at h
                  | true =>
                    simp only [hes, Option.some.injEq, Prod.mk.injEq] at h
                    obtain ⟨rfl, rfl⟩ := h
                    exact key ⟨pr.1, pr.2, he, Nat.eq_of_beq_eq_true hes⟩ hn
              | str s' =>
                simp only at h
                cases hst : isStrT Γ t with
                | false => simp [hst] at h
                | true =>
                  simp only [hst, Option.some.injEq, Prod.mk.injEq] at h
                  obtain ⟨rfl, rfl⟩ := h
                  exact key (isStrT_ok hΓ hst) hn
              | _ => simp at h
            · cases h
          · cases h
        · cases h
      · cases h
    · cases h
  · -- len
    rename_i args argTypes ho
    split at h
    · rename_i x hargs
      split at h
      · rename_i t htypes
        have ha : args = #[x] := by apply Array.toList_inj.1; simpa using hargs
        have hty : argTypes = #[t] := by apply Array.toList_inj.1; simpa using htypes
        subst ha
        subst hty
        split at h
        · rename_i p c hb
          split at h
          · rename_i n hlen
            have run : ∀ v, (Builtin.len_ #[t] o.type #[a.eval x]).run P w = .ok v w → (execOp a.eval o).run P w = .ok (.value v) w := by
              intro v hv
              have e : (#[x] : Array Operand).map a.eval = #[a.eval x] := by simp
              unfold execOp
              rw [ho]
              show (do let d ← resolve a.eval _ o.type; invoke d.target d.args : Sem Next).run P w = _
              simp only [resolve, invoke, builtin, e]
              exact val1 hv
            split at h
            · rename_i s'
              split at h
              · rename_i hst
                cases h
                have hx := B hb hn
                cases hlen
                refine ⟨_, run (goInt s'.size) ?_, rfl⟩
                rw [hx.1]
                simp [Builtin.len_, run_underlying (isStrT_ok hΓ hst)]
              · cases h
            · rename_i id es len tot xq
              split at h
              · rename_i pr he
                split at h
                · rename_i e' es' n' g hg
                  cases h
                  obtain ⟨_, e2, n2, g2, h1, h2, h3, h4⟩ := B hb (all_left hn)
                  rw [hg] at h1
                  cases h1
                  obtain ⟨aa, cap, m1, m2, _⟩ := h4 (all_right hn _ (by simp))
                  cases hlen
                  refine ⟨_, run (goInt n) ?_, rfl⟩
                  rw [m2]
                  obtain ⟨u1, _⟩ := elemOf_ok (P := P) hΓ (show elemOf Γ t = some (pr.1, pr.2) from he)
                  simp [Builtin.len_, run_underlying u1]
                · cases h
              · cases h
            · rename_i hne1 hne2
              split at h
              · rename_i pr he
                cases h
                have hx := B hb hn
                cases c with
                | isl es n' get tight =>
                  cases hlen
                  obtain ⟨aa, cap, e1, _⟩ := hx
                  refine ⟨_, run (goInt n) ?_, rfl⟩
                  rw [e1]
                  obtain ⟨u1, _⟩ := elemOf_ok (P := P) hΓ (show elemOf Γ t = some (pr.1, pr.2) from he)
                  simp [Builtin.len_, run_underlying u1]
                | nils =>
                  cases hlen
                  refine ⟨_, run (goInt 0) ?_, rfl⟩
                  rw [show a.eval x = _ from hx]
                  obtain ⟨u1, _⟩ := elemOf_ok (P := P) hΓ (show elemOf Γ t = some (pr.1, pr.2) from he)
                  simp [Builtin.len_, run_underlying u1]
                | str s' => exact absurd rfl (hne1 s')
                | sl id es len tot xq => exact absurd rfl (hne2 id es len tot xq)
                | _ => simp [lenC] at hlen
              · cases h
          · cases h
        · cases h
      · cases h
    · cases h
  · -- max
    rename_i args argTypes ho
    split at h
    · rename_i x y hargs
      have ha : args = #[x, y] := by apply Array.toList_inj.1; simpa using hargs
      subst ha
      split at h
      · rename_i p k u hb1
        split at h
        · rename_i q k' v hb2
          cases h
          have h1 : a.eval x = .int k u := B hb1 (all_left hn)
          have h2 : a.eval y = .int k' v := B hb2 (all_right hn)
          refine ⟨.int k (if v > u then v else u), ?_, ?_⟩
          · unfold execOp
            rw [ho]
            have e : (#[x, y] : Array Operand).map a.eval = #[.int k u, .int k' v] := by simp [h1, h2]
            show (do let d ← resolve a.eval _ o.type; invoke d.target d.args : Sem Next).run P w = _
            simp only [resolve, invoke, builtin, e]
            refine val1 (s := Builtin.max_ _ _ _) ?_
            simp [Builtin.max_, Builtin.max2]
          · show Value.int k _ = Value.int k _
            congr 1
            omega
        · cases h
      · cases h
    · cases h
  · -- min
    rename_i args argTypes ho
    split at h
    · rename_i x y hargs
      have ha : args = #[x, y] := by apply Array.toList_inj.1; simpa using hargs
      subst ha
      split at h
      · rename_i p k u hb1
        split at h
        · rename_i q k' v hb2
          cases h
          have h1 : a.eval x = .int k u := B hb1 (all_left hn)
          have h2 : a.eval y = .int k' v := B hb2 (all_right hn)
          refine ⟨.int k (if v < u then v else u), ?_, ?_⟩
          · unfold execOp
            rw [ho]
            have e : (#[x, y] : Array Operand).map a.eval = #[.int k u, .int k' v] := by simp [h1, h2]
            show (do let d ← resolve a.eval _ o.type; invoke d.target d.args : Sem Next).run P w = _
            simp only [resolve, invoke, builtin, e]
            refine val1 (s := Builtin.min_ _ _ _) ?_
            simp [Builtin.min_, Builtin.min2]
          · show Value.int k _ = Value.int k _
            congr 1
            omega
        · cases h
      · cases h
    · cases h
  · cases h

end Go.Am
