import Derived.Test.YtbdhjlanfigdgaaA12
/- THE ABSTRACT MACHINE, PART 13: soundness. -/
namespace Go.Am

section
variable {X : Cx} {K : Keep} {F0 : Mem} {H0 : List O} {μ0 : Nat → Value}

theorem CallN.out {f : FuncId} {args : List S} {dst : Option Tmp} {ts : Ts} {H : List O} {k : Ts → List O → Prop} (h : CallN X f args dst ts H k) :
    HasBody X.P f ∧ ∀ K F0 H0 μ0 F μ a w vs, Sat X K F0 H0 μ0 ts H F μ a w → RepA F H μ args vs →
      Calls X.P f vs w fun e w' => ∃ v, e = .returned v ∧ ∃ ts' H' F' μ', k ts' H' ∧ Sat X K F0 H0 μ0 ts' H' F' μ' (a.put dst v) w' := ⟨h.body, h.run⟩

/-- A call by a contract. -/
theorem CallN.spec {f : FuncId} {args : List S} {dst : Option Tmp} {ts : Ts} {H : List O} {k : Ts → List O → Prop} (hb : HasBody X.P f)
    (h : CSpec X.P f args H fun s H' => forceH H' fun H'' => forceS s fun s' => putK X.nt dst s' ts fun ts' => k ts' H'') : CallN X f args dst ts H k := by
  refine ⟨hb, fun K F0 H0 μ0 F μ a w vs hs hA => (h K F μ w vs hs.hs hA).mono ?_⟩
  rintro e w' ⟨v, F', μ', s, H', rfl, g1, g2, g3, g4, g5⟩
  rw [forceH_eq, forceS_eq] at g5
  obtain ⟨ts', p1, p2⟩ := hs.put g1 g3 g2 g4 g5
  exact ⟨v, rfl, ts', H', F', μ', p1, p2⟩

theorem RepA.ext {F : Mem} {H : List O} {μ : Nat → Value} {l : List S} {vs : Array Value} (h : RepA F H μ l vs) : RepA F H μ l vs := h

theorem vcOp_sound (hΓ : EnvOk X.P X.Γ) {o : Oper} {ts : Ts} {H : List O} {k : Ts → List O → Prop} {F : Mem} {μ : Nat → Value} {a : Act} {w : World} (h : vcOp X o ts H k) (hs : Sat X K F0 H0 μ0 ts H F μ a w)
    {next : Act → World → Prop} {Q : Exit → Act → World → Prop} (hn : ∀ ts' H' F' μ' a' w', k ts' H' → Sat X K F0 H0 μ0 ts' H' F' μ' a' w' → next a' w') : o.wp X.P a w next Q := by
  unfold vcOp at h
  unfold Oper.wp
  cases hc : isCall o.op with
  | true =>
    simp only [hc] at h
    cases hco : callOf ts o.op with
    | none => simp only [hco] at h; exact (stuck_out h).elim
    | some y =>
      obtain ⟨q, f, l⟩ := y
      simp only [hco] at h
      obtain ⟨h1, h2⟩ := needs_out h
      obtain ⟨⟨fn, f1, f2, f3⟩, hspec⟩ := h2.out
      obtain ⟨vs, r1, r2⟩ := callOf_ok (P := X.P) hs.tp o hco h1 f1 f2 f3 w
      rw [r1, Oper.upon_enter]
      refine (hspec K F0 H0 μ0 F μ a w vs hs r2).mono ?_
      rintro e w' ⟨v, rfl, ts', H', F', μ', p1, p2⟩
      exact hn _ _ _ _ _ _ p1 p2
  | false =>
    simp only [hc] at h
    cases hv : val X.Γ ts H o.op with
    | some y =>
      obtain ⟨ns, s⟩ := y
      simp only [hv] at h
      obtain ⟨h1, h2⟩ := needs_out (haves_out h (facts_ok hs.tp o.op))
      have h3 := frcK_out h2
      rw [forceS_eq] at h3
      obtain ⟨r, r1, r2⟩ := val_ok (P := X.P) hΓ hs.hs hs.tp o hv h1
      rw [r1, Oper.upon_value]
      obtain ⟨ts', p1, p2⟩ := hs.put (Mem.le_refl F) (Ext.refl H μ) hs.hs r2 h3
      exact hn _ _ _ _ _ _ p1 p2
    | none =>
      simp only [hv] at h
      cases he : eff X.Γ ts H o.op with
      | none => simp only [he] at h; exact (stuck_out h).elim
      | some y =>
        obtain ⟨ns, s, H'⟩ := y
        simp only [he] at h
        obtain ⟨h1, h2⟩ := needs_out h
        rw [forceH_eq, forceS_eq] at h2
        obtain ⟨nx, w', μ', r1, r2, r3, r4, r5⟩ := eff_ok (P := X.P) hΓ hs.hs hs.tp o he h1
        rw [r1]
        obtain ⟨ts', p1, p2⟩ := hs.put (Mem.le_refl F) r4 r3 r5 h2
        rcases r2 with rfl | ⟨v, rfl⟩
        · rw [Oper.upon_skip]; exact hn _ _ _ _ _ _ p1 p2
        · rw [Oper.upon_value]; exact hn _ _ _ _ _ _ p1 p2

theorem guardB_ok {F : Mem} {H : List O} {μ : Nat → Value} {want : Bool} : ∀ {s : S} {g : Bool} {v : Value}, guardB want s = some g → RepS F H μ s v →
    (g = true ↔ v = .bool want)
  | .c (.bool b), g, v, h, hv => by
    rw [show v = .bool b from hv]
    cases want <;> simp only [guardB, Option.some.injEq] at h <;> subst h <;> simp
  | .lz g0 s, g, v, h, hv => by
    simp only [guardB] at h
    cases hs : guardB want s with
    | none => simp [hs] at h
    | some b =>
      simp only [hs, Option.some.injEq] at h
      subst h
      cases g0 with
      | false =>
        rw [hv.2 rfl]
        simp [undef]
      | true => simpa using guardB_ok hs (hv.1 rfl)
  | .u, _, _, h, _ => by simp [guardB] at h
  | .a _, _, _, h, _ => by simp [guardB] at h
  | .t _, _, _, h, _ => by simp [guardB] at h
  | .c .junk, _, _, h, _ => by simp [guardB] at h
  | .c (.int _ _), _, _, h, _ => by simp [guardB] at h
  | .c (.str _), _, _, h, _ => by simp [guardB] at h
  | .c .nilp, _, _, h, _ => by simp [guardB] at h
  | .c (.ptr _ _), _, _, h, _ => by simp [guardB] at h
  | .c (.ep _ _ _ _), _, _, h, _ => by simp [guardB] at h
  | .c (.ip _ _), _, _, h, _ => by simp [guardB] at h
  | .c (.sl _ _ _ _ _), _, _, h, _ => by simp [guardB] at h
  | .c (.isl _ _ _ _), _, _, h, _ => by simp [guardB] at h
  | .c (.fn _ _ _), _, _, h, _ => by simp [guardB] at h
  | .c .nilfn, _, _, h, _ => by simp [guardB] at h
  | .c .nils, _, _, h, _ => by simp [guardB] at h

theorem vcG_sound (hΓ : EnvOk X.P X.Γ) {o : Oper} {g : Bool} {ts : Ts} {H : List O} {k : Ts → List O → Prop} {F : Mem} {μ : Nat → Value} {a : Act} {w : World} (h : vcG X o g ts H k) (hs : Sat X K F0 H0 μ0 ts H F μ a w)
    {next : Act → World → Prop} {Q : Exit → Act → World → Prop} (hn : ∀ ts' H' F' μ' a' w', k ts' H' → Sat X K F0 H0 μ0 ts' H' F' μ' a' w' → next a' w') :
    if g = true then o.wp X.P a w next Q else next (a.put o.dst undef) w := by
  unfold vcG at h
  have skip : ∀ {s : S} {kk : Ts → Prop}, g = false → RepS F H μ s undef → putK X.nt o.dst s ts kk → (∀ ts', kk ts' → k ts' H) → next (a.put o.dst undef) w := by
    intro s kk _ hr hp hkk
    obtain ⟨ts', p1, p2⟩ := hs.put (Mem.le_refl F) (Ext.refl H μ) hs.hs hr hp
    exact hn _ _ _ _ _ _ (hkk _ p1) p2
  cases hc : isCall o.op with
  | true =>
    simp only [hc] at h
    cases hco : callOf ts o.op with
    | none => simp only [hco] at h; exact (stuck_out h).elim
    | some y =>
      obtain ⟨q, f, l⟩ := y
      simp only [hco] at h
      obtain ⟨h1, h2⟩ := needsG_out h
      obtain ⟨s, h3, h4⟩ := h2.out
      rw [forceS_eq] at h4
      cases hg : g with
      | false =>
        simp only [Bool.false_eq_true, if_false]
        subst hg
        exact skip (s := .lz false s) rfl ⟨fun e => by (cases e), fun _ => rfl⟩ h4 (fun _ h => h)
      | true =>
        subst hg
        simp only [if_true]
        unfold Oper.wp
        obtain ⟨⟨fn, f1, f2, f3⟩, hspec⟩ := h3 rfl
        obtain ⟨vs, r1, r2⟩ := callOf_ok (P := X.P) hs.tp o hco (h1 rfl) f1 f2 f3 w
        rw [r1, Oper.upon_enter]
        refine (hspec K F μ w vs hs.hs r2).mono ?_
        rintro e w' ⟨v, F', μ', s', H', rfl, g1, g2, g3, g4, rfl, rfl⟩
        obtain ⟨ts', p1, p2⟩ := hs.put (s := .lz true s') g1 g3 g2 ⟨fun _ => g4, fun e => by cases e⟩ h4
        exact hn _ _ _ _ _ _ p1 p2
  | false =>
    simp only [hc] at h
    cases hv : val X.Γ ts H o.op with
    | some y =>
      obtain ⟨ns, s⟩ := y
      simp only [hv] at h
      obtain ⟨h1, h2⟩ := needsG_out h
      replace h2 := frcK_out h2
      rw [forceS_eq] at h2
      cases hg : g with
      | false =>
        simp only [Bool.false_eq_true, if_false]
        subst hg
        exact skip (s := .lz false s) rfl ⟨fun e => by (cases e), fun _ => rfl⟩ h2 (fun _ h => h)
      | true =>
        subst hg
        simp only [if_true]
        unfold Oper.wp
        obtain ⟨r, r1, r2⟩ := val_ok (P := X.P) hΓ hs.hs hs.tp o hv (h1 rfl)
        rw [r1, Oper.upon_value]
        obtain ⟨ts', p1, p2⟩ := hs.put (s := .lz true s) (Mem.le_refl F) (Ext.refl H μ) hs.hs ⟨fun _ => r2, fun e => by cases e⟩ h2
        exact hn _ _ _ _ _ _ p1 p2
    | none =>
      simp only [hv] at h
      obtain ⟨h1, h2⟩ := h.out
      cases hg : g with
      | false =>
        simp only [Bool.false_eq_true, if_false]
        exact skip hg (s := .u) trivial (h2 hg) (fun _ h => h)
      | true =>
        simp only [if_true]
        exact vcOp_sound hΓ (h1 hg) hs hn

theorem vcOps_sound (hΓ : EnvOk X.P X.Γ) (all : List Oper) {Q : Exit → Act → World → Prop} : ∀ (l : List Oper) {ts : Ts} {H : List O} {k : Ts → List O → Prop} {F : Mem} {μ : Nat → Value} {a : Act} {w : World}, vcOps X all l ts H k → Sat X K F0 H0 μ0 ts H F μ a w →
    (∀ ts' H' F' μ' a' w', k ts' H' → Sat X K F0 H0 μ0 ts' H' F' μ' a' w' → Q .normal a' w') → wpList X.P all.toArray Q l a w
  | [], _, _, _, _, _, _, _, h, hs, hn => hn _ _ _ _ _ _ (by rw [vcOps_nil] at h; exact h) hs
  | o :: r, ts, H, k, F, μ, a, w, h, hs, hn => by
    rw [vcOps_cons] at h
    refine wpList_step fun kk hkk => ?_
    cases hg : o.guard with
    | none =>
      simp only [hg] at h
      simp only [Region.wanted, hg, if_true]
      exact vcOp_sound hΓ h hs fun ts' H' F' μ' a' w' h1 h2 => hkk _ _ (vcOps_sound hΓ all r h1 h2 hn)
    | some y =>
      obtain ⟨j, want⟩ := y
      simp only [hg] at h
      cases hj : getL all j with
      | none => simp only [hj] at h; exact (stuck_out h).elim
      | some oj =>
        cases hd : oj.dst with
        | none => simp only [hj, hd] at h; exact (stuck_out h).elim
        | some d =>
          cases hgb : guardB want (find d ts) with
          | none => simp only [hj, hd, hgb] at h; exact (stuck_out h).elim
          | some g =>
            cases hlt : Nat.blt d X.nt with
            | false => simp only [hj, hd, hgb, hlt] at h; exact (stuck_out h).elim
            | true =>
              simp only [hj, hd, hgb, hlt] at h
              have hw := vcG_sound hΓ (next := kk) (Q := Q) h hs fun ts' H' F' μ' a' w' h1 h2 => hkk _ _ (vcOps_sound hΓ all r h1 h2 hn)
              have hdlt : d < a.tmps.size := by rw [hs.sz]; exact Nat.le_of_ble_eq_true hlt
              have hrep := guardB_ok hgb (hs.tp d)
              have hy : (Region.wanted o (yielded all.toArray a.tmps) = true) ↔ g = true := by
                rw [getL_eq] at hj
                simp only [Region.wanted, hg, yielded]
                simp only [List.getElem?_toArray, hj, Option.bind_some, hd]
                have : a.tmps[d]? = some a.tmps[d] := Array.getElem?_eq_getElem hdlt
                simp only [this]
                have he : a.tmps.getD d undef = a.tmps[d] := by simp [Array.getD, hdlt]
                rw [he] at hrep
                rw [hrep]
                generalize a.tmps[d] = vv
                cases vv <;> simp
              by_cases c : g = true
              · rw [if_pos c] at hw
                rw [if_pos (hy.2 c)]
                exact hw
              · rw [if_neg c] at hw
                rw [if_neg (fun e => c (hy.1 e))]
                exact hw

theorem vc_sound (hΓ : EnvOk X.P X.Γ) : ∀ (c : Code) {ts : Ts} {H : List O} {k : Kp}, vc X c ts H k → AW X c ts H k := by
  intro c
  induction c with
  | skip => intro ts H k h K F0 H0 μ0 F μ a w hs; exact wp_skip ⟨ts, H, F, μ, hs, h⟩
  | region id ops draw =>
    intro ts H k h
    cases draw with
    | false =>
      intro K F0 H0 μ0 F μ a w hs
      simp only [vc_region] at h
      refine wp_region_list ?_
      have := vcOps_sound (K := K) (F0 := F0) (H0 := H0) (μ0 := μ0) hΓ ops.toList (Q := Post X K F0 H0 μ0 k) ops.toList h hs fun ts' H' F' μ' a' w' h1 h2 => ⟨ts', H', F', μ', h2, h1⟩
      simpa using this
    | true =>
      simp only [vc_region] at h
      exact h.out
  | seq x y ihx ihy =>
    intro ts H k h K F0 H0 μ0 F μ a w hs
    rw [vc_seq] at h
    refine wp_seq (wp_mono (ihx h K F0 H0 μ0 F μ a w hs) ?_)
    rintro e a' w' ⟨ts', H', F', μ', hs', he⟩
    cases e with
    | normal => exact ihy he K F0 H0 μ0 F' μ' a' w' hs'
    | exit id => exact ⟨ts', H', F', μ', hs', he⟩
    | ret => exact ⟨ts', H', F', μ', hs', he⟩
    | goto l => exact he.elim
    | panic ch => exact he.elim
    | outgrown => exact he.elim
  | cond c x y ihx ihy =>
    intro ts H k h K F0 H0 μ0 F μ a w hs
    rw [vc_cond] at h
    split at h
    · rename_i p b hb
      obtain ⟨h1, h2⟩ := needs_out h
      obtain ⟨h3, h4⟩ := h2.out
      have hc : a.eval c = .bool b := bare_ok (opnd_ok hs.tp c) hb h1
      exact wp_cond_split hc (fun e => ihx (h3 e) K F0 H0 μ0 F μ a w hs) (fun e => ihy (h4 e) K F0 H0 μ0 F μ a w hs)
    · exact (stuckC_out h).elim
  | block id c ih =>
    intro ts H k h K F0 H0 μ0 F μ a w hs
    rw [vc_block] at h
    refine wp_block (wp_mono (ih h K F0 H0 μ0 F μ a w hs) ?_)
    rintro e a' w' ⟨ts', H', F', μ', hs', he⟩
    cases e with
    | normal => exact ⟨ts', H', F', μ', hs', he⟩
    | exit id' =>
      simp only [Exit.inBlock]
      simp only [exOk] at he
      cases hb : Nat.beq id' id with
      | true =>
        have : id' = id := Nat.eq_of_beq_eq_true hb
        simp only [hb] at he
        rw [if_pos this]
        exact ⟨ts', H', F', μ', hs', he⟩
      | false =>
        have : id' ≠ id := fun e => by subst e; simp at hb
        simp only [hb] at he
        rw [if_neg this]
        exact ⟨ts', H', F', μ', hs', he⟩
    | ret => exact ⟨ts', H', F', μ', hs', he⟩
    | goto l => exact he.elim
    | panic ch => exact he.elim
    | outgrown => exact he.elim
  | loop c _ => intro ts H k h; exact Lp.out h
  | exit id => intro ts H k h K F0 H0 μ0 F μ a w hs; exact wp_exit ⟨ts, H, F, μ, hs, h⟩
  | ret => intro ts H k h K F0 H0 μ0 F μ a w hs; exact wp_ret ⟨ts, H, F, μ, hs, h⟩
  | _ => intro ts H k h; exact (stuckC_out h).elim

end
end Go.Am
