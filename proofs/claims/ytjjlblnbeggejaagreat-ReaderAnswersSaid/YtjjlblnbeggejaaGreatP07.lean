/- Contracts, lemmas; no condition. -/
import Derived.Test.YtjjlblnbeggejaaGreatP06
import Derived.Scope
set_option linter.all false
section
namespace Go.Am
variable {f : FuncId} {args : List S} {dst : Option Tmp} {ts : Ts} {H : List O} {k : Ts → List O → Prop} {F : Mem} {μ : Nat → Value} {o : Oper} {a : Act} {w : World} {next : Act → World → Prop} {Q : Exit → Act → World → Prop} {n : Nat}
section
variable {X : Cx} {K : Keep} {F0 : Mem} {H0 : List O} {μ0 : Nat → Value}
theorem CallN.out (h : CallN X f args dst ts H k) :
  HasBody X.P f ∧ ∀ K F0 H0 μ0 F μ a w vs, Sat X K F0 H0 μ0 ts H F μ a w → RepA F H μ args vs →
   Calls X.P f vs w fun e w' => ∃ v, e = .returned v ∧ ∃ ts' H' F' μ', k ts' H' ∧ Sat X K F0 H0 μ0 ts' H' F' μ' (a.put dst v) w' := ⟨h.body, h.run⟩
theorem CallN.spec (hb : HasBody X.P f)
  (h : CSpec X.P f args H fun s H' => Qat H' fun H'' => Q4 s fun s' => putK X.nt dst s' ts fun ts' => k ts' H'') : CallN X f args dst ts H k := by
 refine ⟨hb, fun K F0 H0 μ0 F μ a w vs hs hA => (h K F μ w vs hs.hs hA).mono ?_⟩
 rintro e w' ⟨v, F', μ', s, H', rfl, g1, g2, g3, g4, g5⟩
 rw [QaO, Qag] at g5
 obtain ⟨ts', p1, p2⟩ := hs.put g1 g3 g2 g4 g5
 exact ⟨v, rfl, ts', H', F', μ', p1, p2⟩
theorem RepA.ext {l : List S} {vs : Array Value} (h : RepA F H μ l vs) : RepA F H μ l vs := h
theorem QnF (hΓ : Qw X.P X.Γ) (h : Qpt X o ts H k) (hs : Sat X K F0 H0 μ0 ts H F μ a w)
  (hn : ∀ ts' H' F' μ' a' w', k ts' H' → Sat X K F0 H0 μ0 ts' H' F' μ' a' w' → next a' w') : o.wp X.P a w next Q := by
 unfold Qpt at h
 unfold Oper.wp
 cases hc : Q3 o.op with
 | true =>
  simp only [hc] at h
  cases hco : Qa6 ts o.op with
  | none => simp only [hco] at h; exact (QZ h).elim
  | some y =>
   obtain ⟨q, f, l⟩ := y
   simp only [hco] at h
   obtain ⟨h1, h2⟩ := Qao h
   unfold QtD at h2
   split at h2
   ·obtain ⟨vs, r1, r2⟩ := Qjl (P := X.P) hs.tp o hco h1 w
    obtain ⟨v, w', g1, ts', H', F', μ', p1, p2⟩ := h2.run K F0 H0 μ0 F μ a w vs hs r2
    rw [r1, g1, Oper.upon_value]
    exact hn _ _ _ _ _ _ p1 p2
   ·obtain ⟨⟨fn, f1, f2, f3⟩, hspec⟩ := h2.out
    obtain ⟨vs, r1, r2⟩ := QdM (P := X.P) hs.tp o hco h1 f1 f2 f3 w
    rw [r1, Oper.upon_enter]
    refine (hspec K F0 H0 μ0 F μ a w vs hs r2).mono ?_
    rintro e w' ⟨v, rfl, ts', H', F', μ', p1, p2⟩
    exact hn _ _ _ _ _ _ p1 p2
 | false =>
  simp only [hc] at h
  cases hv : val X.Γ ts H o.op with
  | some y =>
   obtain ⟨ns, s⟩ := y
   simp only [hv] at h
   obtain ⟨h1, h2⟩ := Qao (Qk6 h (Qtn hs.tp o.op))
   have h3 := QfU h2
   rw [Qag] at h3
   obtain ⟨r, r1, r2⟩ := QjE (P := X.P) hΓ hs.hs hs.tp o hv h1
   rw [r1, Oper.upon_value]
   obtain ⟨ts', p1, p2⟩ := hs.put (Mem.le_refl F) (Ext.refl H μ) hs.hs r2 h3
   exact hn _ _ _ _ _ _ p1 p2
  | none =>
   simp only [hv] at h
   cases he : eff X.Γ ts H o.op with
   | none => simp only [he] at h; exact (QZ h).elim
   | some y =>
    obtain ⟨ns, s, H'⟩ := y
    simp only [he] at h
    obtain ⟨h1, h2⟩ := Qao h
    rw [QaO, Qag] at h2
    obtain ⟨nx, w', μ', r1, r2, r3, r4, r5⟩ := Qm9 (P := X.P) hΓ hs.hs hs.tp o he h1
    rw [r1]
    obtain ⟨ts', p1, p2⟩ := hs.put (Mem.le_refl F) r4 r3 r5 h2
    rcases r2 with rfl | ⟨v, rfl⟩
    ·rw [Oper.upon_skip]; exact hn _ _ _ _ _ _ p1 p2
    ·rw [Oper.upon_value]; exact hn _ _ _ _ _ _ p1 p2
theorem QtG {P : Program} (w : World) (t e : Nat) (a : Option Addr) (l c : Nat) (h : P.underlying t = some (.slice e)) : (binOp .eql t (.slice a l c) (.slice none 0 0)).run P w = .ok (.bool a.isNone) w := by
 have key : ∀ d, (Op.equalIn (d + 1) t (.slice a l c) (.slice none 0 0)).run P w = .ok a.isNone w := fun d => by
  cases a <;> simp [Op.equalIn, run_underlying h]
 have : (Op.equal t (.slice a l c) (.slice none 0 0)).run P w = .ok a.isNone w := key 9999
 simp [binOp, this]
theorem Qit (hΓ : Qw X.P X.Γ) {t yt : Nat} {x y : Operand} {ad : Option Addr} {cap : Nat} (ho : o.op = .binOp .eql t x y yt) {i : Nat × TI} (he : Q2 X.Γ t = some i) (hv : a.eval x = .slice ad n cap) (hz : a.eval y = .slice none 0 0) (w : World) :
  (execOp a.eval o).run X.P w = .ok (.value (.bool ad.isNone)) w := by
 obtain ⟨hu, -⟩ := Qab (P := X.P) hΓ he
 unfold execOp
 rw [ho]
 refine val1 ?_
 rw [hv, hz]
 rw [Qg (show (eqGuard .eql t x y (.slice ad n cap) (.slice none 0 0)).run X.P w = .ok () w from rfl)]
 exact QtG w t _ ad n cap hu
theorem QqR (hΓ : Qw X.P X.Γ) {p : List Prop} (h : QiX X.Γ ts H o.op = some (p, n)) (hw : HSat K F H μ w) (hT : TSat F H μ ts a.tmps) (hp : ∀ q ∈ p, q) :
  ∃ b : Bool, (0 < n → b = false) ∧ (execOp a.eval o).run X.P w = .ok (.value (.bool b)) w := by
 unfold QiX at h
 split at h
 ·rename_i t x y yt ho
  split at h
  ·rename_i p' es n' g tt hb
   split at h
   ·rename_i hy
    split at h
    ·rename_i i he
     cases h
     obtain ⟨ad, cap, hv, h1, h2, h3, h4, h5⟩ : RepS F H μ (.c (.isl es n g tt)) (a.eval x) := Qaq (Q9 hT x) hb hp
     have hz : a.eval y = .slice none 0 0 := by
      have : RepS F H μ (.c .nils) (a.eval y) := by rw [← hy]; exact Q9 hT y
      exact this
     refine ⟨ad.isNone, fun hn => ?_, Qit hΓ ho he hv hz w⟩
     cases ad with
     | none => exact absurd (h4 rfl) om
     | some _ => rfl
    ·cases h
   ·cases h
  ·rename_i p' id es len tot tt hb
   split at h
   ·rename_i hy
    split at h
    ·rename_i i he
     split at h
     ·rename_i e' es' n' g hg
      cases h
      obtain ⟨_, e2, n2, g2, h1, h2, h3, h4⟩ : RepS F H μ (.c (.sl id es n tot tt)) (a.eval x) := Qaq (Q9 hT x) hb (Qd hp)
      rw [hg] at h1
      cases h1
      obtain ⟨ad, cap, m1, m2, _⟩ := h4 (Qb hp _ (by simp))
      have hz : a.eval y = .slice none 0 0 := by
       have : RepS F H μ (.c .nils) (a.eval y) := by rw [← hy]; exact Q9 hT y
       exact this
      refine ⟨ad.isNone, fun hn => ?_, Qit hΓ ho he m2 hz w⟩
      obtain ⟨xs, o1, _⟩ := hw.ob id _ hg
      rcases o1.2 with ⟨q1, q2⟩ | ⟨b, cap', cur, q1, _⟩
      ·omega
      ·rw [q1] at m1; cases m1; rfl
     ·cases h
    ·cases h
   ·cases h
  ·cases h
 ·cases h
theorem QiW (hΓ : Qw X.P X.Γ) (h : vcOp X o ts H k) (hs : Sat X K F0 H0 μ0 ts H F μ a w)
  (hn : ∀ ts' H' F' μ' a' w', k ts' H' → Sat X K F0 H0 μ0 ts' H' F' μ' a' w' → next a' w') : o.wp X.P a w next Q := by
 unfold vcOp at h
 cases hc : QiX X.Γ ts H o.op with
 | none => rw [hc] at h; exact QnF hΓ h hs hn
 | some y =>
  obtain ⟨p, n⟩ := y
  simp only [hc] at h
  obtain ⟨h1, h2⟩ := Qao h
  obtain ⟨b, b1, b2⟩ := QqR hΓ hc hs.hs hs.tp h1
  unfold Oper.wp
  rw [b2, Oper.upon_value]
  obtain ⟨ts', p1, p2⟩ := hs.put (s := .c (.bool b)) (Mem.le_refl F) (Ext.refl H μ) hs.hs rfl (h2 b b1)
  exact hn _ _ _ _ _ _ p1 p2
theorem QgS {F : Mem} {H : List O} {μ : Nat → Value} {want : Bool} : ∀ {s : S} {g : Bool} {v : Value}, Q6 want s = some g → RepS F H μ s v →
  (g = true ↔ v = .bool want)
 | .c (.bool b), g, v, h, hv => by
  rw [show v = .bool b from hv]
  cases want <;> simp only [Q6, Qxv] at h <;> subst h <;> simp
 | .lz g0 s, g, v, h, hv => by
  simp only [Q6] at h
  cases hs : Q6 want s with
  | none => simp [hs] at h
  | some b =>
   simp only [hs, Qxv] at h
   subst h
   cases g0 with
   | false =>
    rw [hv.2 rfl]
    simp [undef]
   | true => simpa using QgS hs (hv.1 rfl)
 | .u, _, _, h, _ => by simp [Q6] at h
 | .a _, _, _, h, _ => by simp [Q6] at h
 | .t _, _, _, h, _ => by simp [Q6] at h
 | .c .junk, _, _, h, _ => by simp [Q6] at h
 | .c (.int _ _), _, _, h, _ => by simp [Q6] at h
 | .c (.str _), _, _, h, _ => by simp [Q6] at h
 | .c .nilp, _, _, h, _ => by simp [Q6] at h
 | .c (.ptr _ _), _, _, h, _ => by simp [Q6] at h
 | .c (.ep _ _ _ _), _, _, h, _ => by simp [Q6] at h
 | .c (.ip _ _), _, _, h, _ => by simp [Q6] at h
 | .c (.sl _ _ _ _ _), _, _, h, _ => by simp [Q6] at h
 | .c (.isl _ _ _ _), _, _, h, _ => by simp [Q6] at h
 | .c (.fn _ _ _), _, _, h, _ => by simp [Q6] at h
 | .c .nilfn, _, _, h, _ => by simp [Q6] at h
 | .c .nils, _, _, h, _ => by simp [Q6] at h
theorem QqP (hΓ : Qw X.P X.Γ) {g : Bool} (h : vcG X o g ts H k) (hs : Sat X K F0 H0 μ0 ts H F μ a w)
  (hn : ∀ ts' H' F' μ' a' w', k ts' H' → Sat X K F0 H0 μ0 ts' H' F' μ' a' w' → next a' w') :
  if g = true then o.wp X.P a w next Q else next (a.put o.dst undef) w := by
 unfold vcG at h
 have skip : ∀ {s : S} {kk : Ts → Prop}, g = false → RepS F H μ s undef → putK X.nt o.dst s ts kk → (∀ ts', kk ts' → k ts' H) → next (a.put o.dst undef) w := by
  intro s kk _ hr hp hkk
  obtain ⟨ts', p1, p2⟩ := hs.put (Mem.le_refl F) (Ext.refl H μ) hs.hs hr hp
  exact hn _ _ _ _ _ _ (hkk _ p1) p2
 cases hc : Q3 o.op with
 | true =>
  simp only [hc] at h
  cases hco : Qa6 ts o.op with
  | none => simp only [hco] at h; exact (QZ h).elim
  | some y =>
   obtain ⟨q, f, l⟩ := y
   simp only [hco] at h
   obtain ⟨h1, h2⟩ := QcV h
   obtain ⟨h3, h5⟩ := h2.out
   cases hg : g with
   | false =>
    simp only [Qy3, if_false]
    subst hg
    obtain ⟨s, h4⟩ := h5 rfl
    rw [QaO, Qag] at h4
    exact skip (s := .lz false s) rfl ⟨fun e => by (cases e), fun _ => rfl⟩ h4 (fun _ h => h)
   | true =>
    subst hg
    simp only [Qyo]
    unfold Oper.wp
    obtain ⟨⟨fn, f1, f2, f3⟩, hspec⟩ := h3 rfl
    obtain ⟨vs, r1, r2⟩ := QdM (P := X.P) hs.tp o hco (h1 rfl) f1 f2 f3 w
    rw [r1, Oper.upon_enter]
    refine (hspec K F μ w vs hs.hs r2).mono ?_
    rintro e w' ⟨v, F', μ', s', H', rfl, g1, g2, g3, g4, h4⟩
    rw [QaO, Qag] at h4
    obtain ⟨ts', p1, p2⟩ := hs.put (s := .lz true s') g1 g3 g2 ⟨fun _ => g4, fun e => by cases e⟩ h4
    exact hn _ _ _ _ _ _ p1 p2
 | false =>
  simp only [hc] at h
  cases hv : val X.Γ ts H o.op with
  | some y =>
   obtain ⟨ns, s⟩ := y
   simp only [hv] at h
   obtain ⟨h1, h2⟩ := QcV h
   replace h2 := QfU h2
   rw [Qag] at h2
   cases hg : g with
   | false =>
    simp only [Qy3, if_false]
    subst hg
    exact skip (s := .lz false s) rfl ⟨fun e => by (cases e), fun _ => rfl⟩ h2 (fun _ h => h)
   | true =>
    subst hg
    simp only [Qyo]
    unfold Oper.wp
    obtain ⟨r, r1, r2⟩ := QjE (P := X.P) hΓ hs.hs hs.tp o hv (h1 rfl)
    rw [r1, Oper.upon_value]
    obtain ⟨ts', p1, p2⟩ := hs.put (s := .lz true s) (Mem.le_refl F) (Ext.refl H μ) hs.hs ⟨fun _ => r2, fun e => by cases e⟩ h2
    exact hn _ _ _ _ _ _ p1 p2
  | none =>
   simp only [hv] at h
   obtain ⟨h1, h2⟩ := h.out
   cases hg : g with
   | false =>
    simp only [Qy3, if_false]
    exact skip hg (s := .u) trivial (h2 hg) (fun _ h => h)
   | true =>
    simp only [Qyo]
    exact QiW hΓ (h1 hg) hs hn
theorem Qc2 (hΓ : Qw X.P X.Γ) (all : List Oper) {Q : Exit → Act → World → Prop} (l2 : List Oper) : ∀ (l : List Oper) {ts : Ts} {H : List O} {k : Ts → List O → Prop} {F : Mem} {μ : Nat → Value} {a : Act} {w : World}, QcS X all l ts H k → Sat X K F0 H0 μ0 ts H F μ a w →
  (∀ ts' H' F' μ' a' w', k ts' H' → Sat X K F0 H0 μ0 ts' H' F' μ' a' w' → wpList X.P all.toArray Q l2 a' w') → wpList X.P all.toArray Q (l ++ l2) a w
 | [], _, _, _, _, _, _, _, h, hs, hn => hn _ _ _ _ _ _ (by rw [Qsa] at h; exact h) hs
 | o :: r, ts, H, k, F, μ, a, w, h, hs, hn => by
  rw [Qp5] at h
  rw [List.cons_append]
  refine wpList_step fun kk hkk => ?_
  cases hg : o.guard with
  | none =>
   simp only [hg] at h
   simp only [Region.wanted, hg, Qyo]
   exact QiW hΓ h hs fun ts' H' F' μ' a' w' h1 h2 => hkk _ _ (Qc2 hΓ all l2 r h1 h2 hn)
  | some y =>
   obtain ⟨j, want⟩ := y
   simp only [hg] at h
   cases hj : getL all j with
   | none => simp only [hj] at h; exact (QZ h).elim
   | some oj =>
    cases hd : oj.dst with
    | none => simp only [hj, hd] at h; exact (QZ h).elim
    | some d =>
     cases hgb : Q6 want (find d ts) with
     | none => simp only [hj, hd, hgb] at h; exact (QZ h).elim
     | some g =>
      cases hlt : Nat.blt d X.nt with
      | false => simp only [hj, hd, hgb, hlt] at h; exact (QZ h).elim
      | true =>
       simp only [hj, hd, hgb, hlt] at h
       have hw := QqP hΓ (next := kk) (Q := Q) h hs fun ts' H' F' μ' a' w' h1 h2 => hkk _ _ (Qc2 hΓ all l2 r h1 h2 hn)
       have hdlt : d < a.tmps.size := by rw [hs.sz]; exact QxJ hlt
       have hrep := QgS hgb (hs.tp d)
       have hy : (Region.wanted o (yielded all.toArray a.tmps) = true) ↔ g = true := by
        rw [Qc] at hj
        simp only [Region.wanted, hg, yielded]
        simp only [QyU, hj, Option.bind_some, hd]
        have : a.tmps[d]? = some a.tmps[d] := Qx9 hdlt
        simp only [this]
        have he : a.tmps.getD d undef = a.tmps[d] := by simp [Array.getD, hdlt]
        rw [he] at hrep
        rw [hrep]
        generalize a.tmps[d] = vv
        cases vv <;> simp
       by_cases c : g = true
       ·rw [Qxt c] at hw
        rw [Qxt (hy.2 c)]
        exact hw
       ·rw [Qxu c] at hw
        rw [Qxu (fun e => c (hy.1 e))]
        exact hw
theorem Qnv (hΓ : Qw X.P X.Γ) (all : List Oper) (l : List Oper) (h : QcS X all l ts H k) (hs : Sat X K F0 H0 μ0 ts H F μ a w)
  (hn : ∀ ts' H' F' μ' a' w', k ts' H' → Sat X K F0 H0 μ0 ts' H' F' μ' a' w' → Q .normal a' w') : wpList X.P all.toArray Q l a w := by
 have := Qc2 hΓ all (Q := Q) [] l h hs hn
 rwa [Qy1] at this
theorem Qdf (hΓ : Qw X.P X.Γ) : ∀ (c : Code) {ts : Ts} {H : List O} {k : Kp}, vc X c ts H k → AW X c ts H k := by
 intro c
 induction c with
 | skip => intro ts H k h K F0 H0 μ0 F μ a w hs; exact wp_skip ⟨ts, H, F, μ, hs, h⟩
 | region id ops draw =>
  intro ts H k h
  cases draw with
  | false =>
   intro K F0 H0 μ0 F μ a w hs
   simp only [Qk0] at h
   refine wp_region_list ?_
   have := Qnv (K := K) (F0 := F0) (H0 := H0) (μ0 := μ0) hΓ ops.toList (Q := Post X K F0 H0 μ0 k) ops.toList h hs fun ts' H' F' μ' a' w' h1 h2 => ⟨ts', H', F', μ', h2, h1⟩
   simpa using this
  | true =>
   simp only [Qk0] at h
   exact h.out
 | seq x y ihx ihy =>
  intro ts H k h K F0 H0 μ0 F μ a w hs
  rw [Qum] at h
  refine wp_seq (wp_mono (ihx h K F0 H0 μ0 F μ a w hs) ?_)
  rintro e a' w' ⟨ts', H', F', μ', hs', he⟩
  cases e with
  | normal => exact ihy he K F0 H0 μ0 F' μ' a' w' hs'
  | exit id => exact ⟨ts', H', F', μ', hs', he⟩
  | ret => exact ⟨ts', H', F', μ', hs', he⟩
  | goto l => exact he.elim
  | panic ch => exact he.elim
  | outgrown => exact he.elim
 | cond c x y ihx ihy =>
  intro ts H k h K F0 H0 μ0 F μ a w hs
  rw [QtS] at h
  split at h
  ·rename_i p b hb
   obtain ⟨h1, h2⟩ := Qao h
   obtain ⟨h3, h4⟩ := h2.out
   have hc : a.eval c = .bool b := Qaq (Q9 hs.tp c) hb h1
   exact wp_cond_split hc (fun e => ihx (h3 e) K F0 H0 μ0 F μ a w hs) (fun e => ihy (h4 e) K F0 H0 μ0 F μ a w hs)
  ·exact (Qc3 h).elim
 | block id c ih =>
  intro ts H k h K F0 H0 μ0 F μ a w hs
  rw [QsT] at h
  refine wp_block (wp_mono (ih h K F0 H0 μ0 F μ a w hs) ?_)
  rintro e a' w' ⟨ts', H', F', μ', hs', he⟩
  cases e with
  | normal => exact ⟨ts', H', F', μ', hs', he⟩
  | exit id' =>
   simp only [Exit.inBlock]
   simp only [exOk] at he
   cases hb : Nat.beq id' id with
   | true =>
    have : id' = id := QxD hb
    simp only [hb] at he
    rw [Qxt this]
    exact ⟨ts', H', F', μ', hs', he⟩
   | false =>
    have : id' ≠ id := fun e => by subst e; simp at hb
    simp only [hb] at he
    rw [Qxu this]
    exact ⟨ts', H', F', μ', hs', he⟩
  | ret => exact ⟨ts', H', F', μ', hs', he⟩
  | goto l => exact he.elim
  | panic ch => exact he.elim
  | outgrown => exact he.elim
 | loop c _ => intro ts H k h; exact Lp.out h
 | exit id => intro ts H k h K F0 H0 μ0 F μ a w hs; exact wp_exit ⟨ts, H, F, μ, hs, h⟩
 | ret => intro ts H k h K F0 H0 μ0 F μ a w hs; exact wp_ret ⟨ts, H, F, μ, hs, h⟩
 | label l => intro ts H k h K F0 H0 μ0 F μ a w hs; exact wp_label ⟨ts, H, F, μ, hs, h⟩
 | scope c ih =>
  intro ts H k h K F0 H0 μ0 F μ a w hs
  refine wp_scope_straight (wp_mono (ih (show vc X c ts H k from h) K F0 H0 μ0 F μ a w hs) ?_)
  rintro e a' w' ⟨ts', H', F', μ', hs', he⟩
  cases e with
  | normal => exact ⟨ts', H', F', μ', hs', he⟩
  | exit id => exact ⟨ts', H', F', μ', hs', he⟩
  | ret => exact ⟨ts', H', F', μ', hs', he⟩
  | goto l => exact he.elim
  | panic ch => exact he.elim
  | outgrown => exact he.elim
 | _ => intro ts H k h; exact (Qc3 h).elim
end
end Go.Am
end

section
namespace Go.Am
variable {F : Mem} {va : Bool} {cs tmps : Array Value} {v : Value} {ρ : Nat → Nat} {H H' H'' : List O} {b : Nat} {μ μ' : Nat → Value} {xs : List C} {ts : Ts} {X : Cx} {c : Code} {P : Program} {Γ : Env} {K : Keep} {w : World} {fn : Func} {Q : S → List O → Prop} {f : FuncId} {args : List S}
def wkC (ρ : Nat → Nat) (n : Nat) : C → C → Prop
 | .ptr a o, .ptr b o' => a = ρ b ∧ o = o' ∧ b < n
 | .ep a i j t, .ep b i' j' t' => a = ρ b ∧ i = i' ∧ j = j' ∧ t = t' ∧ b < n
 | .sl a es l t x, .sl b es' l' t' x' => a = ρ b ∧ es = es' ∧ l = l' ∧ t = t' ∧ b < n ∧ (x' = true → x = true)
 | .fn f m g, .fn f' m' g' => f = f' ∧ m = m' ∧ ∀ j, j < m → wkC ρ n (g j) (g' j)
 | .mpr a, .mpr b => a = ρ b ∧ b < n
 | _, .junk => True
 | c, c' => c.imm = true ∧ ∀ F v, RepF F c v → RepF F c' v
theorem RepV.wk {m : Nat} {cs cs' : Nat → C} (h : RepV F va m cs v) (hv : ∀ j, j < m → ∀ F v, RepF F (cs j) v → RepF F (cs' j) v) : RepV F va m cs' v :=
 ⟨h.1, h.2.1, h.2.2.1, fun j hj => let ⟨x, h1, h2⟩ := h.2.2.2 j hj; ⟨x, h1, hv j hj F x h2⟩⟩
theorem MRep.wk {F : Mem} {sh : KS} {z : List Z} {va : Bool} {ks : List Key} {val val' : Key → Nat → C} {es : List MapEntry} (h : MRep F sh z va ks val es) (hv : ∀ k j, k.sh = sh → j < z.length → ∀ F v, RepF F (val k j) v → RepF F (val' k j) v) : MRep F sh z va ks val' es :=
 ⟨h.nd, h.shp, h.keys, fun i e k h1 h2 => (h.vals i e k h1 h2).wk fun j hj => hv k j (h.shp k (Qx8 h2)) hj, fun k hs hk j hj => let ⟨x, h1, h2⟩ := h.none k hs hk j hj; ⟨x, h1, hv k j hs hj F x.toV h2⟩⟩
def O.wk (ρ : Nat → Nat) (n : Nat) : O → O → Prop
 | .vr cs, .vr cs' => cs.length = cs'.length ∧ ∀ (j : Nat) x y, getL cs j = some x → getL cs' j = some y → wkC ρ n x y
 | .arr e es m g, .arr e' es' m' g' => e = e' ∧ es = es' ∧ m = m' ∧ ∀ i, i < m → ∀ j, j < es → wkC ρ n (g i j) (g' i j)
 | .dead, .dead => True
 | .mp sh z va ks val, .mp sh' z' va' ks' val' => sh = sh' ∧ z = z' ∧ va = va' ∧ ks = ks' ∧ ∀ k j, k.sh = sh → j < z.length → ∀ F v, RepF F (val k j) v → RepF F (val' k j) v
 | _, _ => False
def wkE (ρ : Nat → Nat) (n : Nat) : C ⊕ List C → C ⊕ List C → Prop
 | .inl x, .inl y => wkC ρ n x y
 | .inr xs, .inr ys => xs.length = ys.length ∧ ∀ (j : Nat) x y, getL xs j = some x → getL ys j = some y → wkC ρ n x y
 | _, _ => False
def wkS (ρ : Nat → Nat) (n : Nat) : S → S → Prop
 | _, .u => True
 | .c x, .c y => wkC ρ n x y
 | .a xs, .a ys => xs.length = ys.length ∧ ∀ (j : Nat) x y, getL xs j = some x → getL ys j = some y → wkC ρ n x y
 | .t l, .t l' => l.length = l'.length ∧ ∀ (j : Nat) x y, getL l j = some x → getL l' j = some y → wkE ρ n x y
 | .lz g s, .lz g' s' => g = g' ∧ wkS ρ n s s'
 | _, _ => False
structure HWk (ρ : Nat → Nat) (H H' : List O) : Prop where
 ob : ∀ i o', getL H' i = some o' → ∃ o, getL H (ρ i) = some o ∧ O.wk ρ H'.length o o'
 inj : ∀ i j, i < H'.length → j < H'.length → ρ i = ρ j → i = j
theorem HWk.kind_vr (h : HWk ρ H H') (hb : b < H'.length) {cs : List C} (hc : getL H (ρ b) = some (.vr cs)) : ∃ cs', getL H' b = some (.vr cs') := by
 obtain ⟨o, h1, h2⟩ := h.ob b H'[b] (by rw [Qc]; simp [hb])
 rw [hc] at h1
 cases h1
 cases ho : H'[b] with
 | vr cs' => exact ⟨cs', by rw [Qc]; simp [hb, ho]⟩
 | _ => rw [ho] at h2; exact h2.elim
theorem HWk.kind_mp (h : HWk ρ H H') (hb : b < H'.length) {sh : KS} {z : List Z} {ks : List Key} {val : Key → Nat → C} (hc : getL H (ρ b) = some (.mp sh z va ks val)) : ∃ ks' val', getL H' b = some (.mp sh z va ks' val') := by
 obtain ⟨o, h1, h2⟩ := h.ob b H'[b] (by rw [Qc]; simp [hb])
 rw [hc] at h1
 cases h1
 cases ho : H'[b] with
 | mp sh' z' va' ks' val' =>
  rw [ho] at h2
  obtain ⟨rfl, rfl, rfl, _⟩ := h2
  exact ⟨ks', val', by rw [Qc]; simp [hb, ho]⟩
 | _ => rw [ho] at h2; exact h2.elim
theorem HWk.kind_arr (h : HWk ρ H H') (hb : b < H'.length) {e es n : Nat} {g : Nat → Nat → C} (hc : getL H (ρ b) = some (.arr e es n g)) : ∃ g', getL H' b = some (.arr e es n g') := by
 obtain ⟨o, h1, h2⟩ := h.ob b H'[b] (by rw [Qc]; simp [hb])
 rw [hc] at h1
 cases h1
 cases ho : H'[b] with
 | arr e' es' n' g' =>
  rw [ho] at h2
  obtain ⟨rfl, rfl, rfl, _⟩ := h2
  exact ⟨g', by rw [Qc]; simp [hb, ho]⟩
 | _ => rw [ho] at h2; exact h2.elim
theorem QfA (h : HWk ρ H H') : ∀ (c c' : C), wkC ρ H'.length c c' → ∀ v, RepC F H μ c v → RepC F H' (fun i => μ (ρ i)) c' v := by
 have plain : ∀ (c c' : C), (c.imm = true ∧ ∀ F v, RepF F c v → RepF F c' v) → ∀ v, RepC F H μ c v → RepC F H' (fun i => μ (ρ i)) c' v :=
  fun c c' hw v hv => RepF.toC _ _ c' v (hw.2 F v (Qcn hw.1 hv))
 have junk : ∀ (c : C), ∀ v, RepC F H μ c v → RepC F H' (fun i => μ (ρ i)) .junk v := fun c v hv => RepC.one c v hv
 intro c
 induction c with
 | fn f m g ih =>
  intro c' hw v hv
  cases c' with
  | fn f' m' g' =>
   obtain ⟨rfl, rfl, hg⟩ := hw
   obtain ⟨cs, h1, h2, h3⟩ := hv
   refine ⟨cs, h1, h2, fun j hj => ?_⟩
   obtain ⟨x, x1, x2⟩ := h3 j hj
   exact ⟨x, x1, ih j _ (hg j hj) x x2⟩
  | junk => exact junk _ v hv
  | _ => exact plain _ _ hw v hv
 | ptr a o =>
  intro c' hw v hv
  cases c' with
  | ptr b o' =>
   obtain ⟨rfl, rfl, hb⟩ := hw
   obtain ⟨⟨cs, h1⟩, b', h2, h3⟩ := hv
   exact ⟨h.kind_vr hb h1, b', h2, h3⟩
  | junk => exact junk _ v hv
  | _ => exact plain _ _ hw v hv
 | ep a i j t =>
  intro c' hw v hv
  cases c' with
  | ep b i' j' t' =>
   obtain ⟨rfl, rfl, rfl, rfl, hb⟩ := hw
   obtain ⟨h0, e, es, n, g, h1, h2, h3⟩ := hv
   obtain ⟨g', hg'⟩ := h.kind_arr hb h1
   exact ⟨h0, e, es, n, g', hg', h2, h3⟩
  | junk => exact junk _ v hv
  | _ => exact plain _ _ hw v hv
 | sl a es l t xq =>
  intro c' hw v hv
  cases c' with
  | sl b es' l' t' xq' =>
   obtain ⟨rfl, rfl, rfl, rfl, hb, hx⟩ := hw
   obtain ⟨h0, e, n, g, h1, h2, h3, h4⟩ := hv
   obtain ⟨g', hg'⟩ := h.kind_arr hb h1
   exact ⟨h0, e, n, g', hg', h2, h3, fun q => let ⟨a, cap, q1, q2, q3⟩ := h4 q; ⟨a, cap, q1, q2, fun e => q3 (hx e)⟩⟩
  | junk => exact junk _ v hv
  | _ => exact plain _ _ hw v hv
 | mpr a =>
  intro c' hw v hv
  cases c' with
  | mpr b =>
   obtain ⟨rfl, hb⟩ := hw
   obtain ⟨⟨sh, z, va, ks, val, h1⟩, b', h2, h3⟩ := hv
   obtain ⟨ks', val', hq⟩ := h.kind_mp hb h1
   exact ⟨⟨sh, z, va, ks', val', hq⟩, b', h2, h3⟩
  | junk => exact junk _ v hv
  | _ => exact plain _ _ hw v hv
 | _ =>
  intro c' hw v hv
  cases c' with
  | junk => exact junk _ v hv
  | _ => exact plain _ _ hw v hv
theorem Qnk (h : HWk ρ H H') {ys : List C} (hl : xs.length = ys.length)
  (hw : ∀ (j : Nat) x y, getL xs j = some x → getL ys j = some y → wkC ρ H'.length x y) (hx : RepL F H μ xs cs) : RepL F H' (fun i => μ (ρ i)) ys cs := by
 refine ⟨hx.1.trans hl, fun j y hy => ?_⟩
 have hj := Qt hy
 have hgx : getL xs j = some (xs[j]'om) := by rw [Qc]; simp
 obtain ⟨v, v1, v2⟩ := hx.2 j _ hgx
 exact ⟨v, v1, QfA h _ _ (hw j _ y hgx hy) v v2⟩
theorem Quo (h : HWk ρ H H') : ∀ (x y : C ⊕ List C), wkE ρ H'.length x y → ∀ v, RepE F H μ x v → RepE F H' (fun i => μ (ρ i)) y v
 | .inl _, .inl _, hw, v, hv => QfA h _ _ hw v hv
 | .inr _, .inr _, ⟨h1, h2⟩, _, ⟨cs, c1, c2⟩ => ⟨cs, c1, Qnk h h1 h2 c2⟩
 | .inl _, .inr _, hw, _, _ => hw.elim
 | .inr _, .inl _, hw, _, _ => hw.elim
theorem Qfx (h : HWk ρ H H') : ∀ (s s' : S), wkS ρ H'.length s s' → ∀ v, RepS F H μ s v → RepS F H' (fun i => μ (ρ i)) s' v := by
 intro s
 induction s with
 | u => intro s' hw v _; cases s' <;> first | trivial | exact hw.elim
 | c x => intro s' hw v hv; cases s' <;> first | trivial | exact QfA h _ _ hw v hv | exact hw.elim
 | a xs =>
  intro s' hw v hv
  cases s' with
  | u => trivial
  | a ys => obtain ⟨cs, c1, c2⟩ := hv; exact ⟨cs, c1, Qnk h hw.1 hw.2 c2⟩
  | _ => exact hw.elim
 | t l =>
  intro s' hw v hv
  cases s' with
  | u => trivial
  | t l' =>
   obtain ⟨vs, c1, c2, c3⟩ := hv
   refine ⟨vs, c1, c2.trans hw.1, fun j y hy => ?_⟩
   have hj := Qt hy
   have hl := hw.1
   have hgx : getL l j = some (l[j]'om) := by rw [Qc]; simp
   obtain ⟨v, v1, v2⟩ := c3 j _ hgx
   exact ⟨v, v1, Quo h _ _ (hw.2 j _ y hgx hy) v v2⟩
  | _ => exact hw.elim
 | lz g s ih =>
  intro s' hw v hv
  cases s' with
  | u => trivial
  | lz g' s'' =>
   obtain ⟨rfl, h2⟩ := hw
   exact ⟨fun hg => ih s'' h2 v (hv.1 hg), hv.2⟩
  | _ => exact hw.elim
 | so id es off len tot => intro s' hw v hv; cases s' <;> first | trivial | exact hw.elim
theorem HSat.wk {ρ : Nat → Nat} {K : Keep} {F : Mem} {H H' : List O} {μ : Nat → Value} {w : World} (hw : HSat K F H μ w) (h : HWk ρ H H') : HSat K F H' (fun i => μ (ρ i)) w := by
 have own : ∀ i b, QS H' (fun i => μ (ρ i)) i b → i < H'.length ∧ QS H μ (ρ i) b := by
  intro i b ⟨⟨o, o1, o2⟩, hb⟩
  obtain ⟨p, p1, p2⟩ := h.ob i o o1
  refine ⟨Qt o1, ⟨p, p1, fun e => ?_⟩, hb⟩
  subst e
  cases o with
  | dead => exact o2 rfl
  | vr => exact p2.elim
  | arr => exact p2.elim
  | mp => exact p2.elim
 refine ⟨hw.os, hw.tape, hw.output, hw.fr, hw.kp, fun i o hi => ?_, fun i b hb => hw.sp _ b (own i b hb).2, fun i j b hi hj => ?_, hw.dj⟩
 ·obtain ⟨p, p1, p2⟩ := h.ob i o hi
  have hp := hw.ob _ p p1
  cases o with
  | vr cs' =>
   cases p with
   | vr cs =>
    obtain ⟨b, c, T, q1, q2, q3⟩ := hp
    exact ⟨b, c, T, q1, q2, Qnk h p2.1 p2.2 q3⟩
   | _ => exact p2.elim
  | arr e es n g =>
   cases p with
   | arr e' es' n' g' =>
    obtain ⟨rfl, rfl, rfl, hg⟩ := p2
    obtain ⟨xs, q1, q2, q3, q4⟩ := hp
    refine ⟨xs, q1, q2, fun k hk j hj => ?_, q4⟩
    obtain ⟨v, v1, v2⟩ := q3 k hk j hj
    exact ⟨v, v1, QfA h _ _ (hg k hk j hj) v v2⟩
   | _ => exact p2.elim
  | dead => trivial
  | mp sh z va ks val =>
   cases p with
   | mp sh' z' va' ks' val' =>
    obtain ⟨rfl, rfl, rfl, rfl, hv⟩ := p2
    obtain ⟨b, es, ck, q1, q2, q3, q4⟩ := hp
    exact ⟨b, es, ck, q1, q2, q3.wk hv, q4⟩
   | _ => exact p2.elim
 ·obtain ⟨h1, h2⟩ := own i b hi
  obtain ⟨h3, h4⟩ := own j b hj
  exact h.inj i j h1 h3 (hw.ij _ _ b h2 h4)
def wkT (ρ : Nat → Nat) (n : Nat) (ts : Ts) : Ts → Prop
 | [] => True
 | (t, s) :: r => wkS ρ n (find t ts) s ∧ wkT ρ n ts r
theorem Qmz {ρ : Nat → Nat} {n : Nat} {ts : Ts} (t : Nat) : ∀ {ts' : Ts}, wkT ρ n ts ts' → wkS ρ n (find t ts) (find t ts')
 | [], _ => by simp only [find]; cases find t ts <;> trivial
 | (u, s) :: r, h => by
  simp only [find]
  cases hb : Nat.beq u t with
  | true =>
   have : u = t := QxD hb
   subst this
   exact h.1
  | false => exact Qmz t h.2
theorem TSat.wk (h : HWk ρ H H') {ts' : Ts} (hw : wkT ρ H'.length ts ts') (ht : TSat F H μ ts tmps) : TSat F H' (fun i => μ (ρ i)) ts' tmps :=
 fun t => Qfx h _ _ (Qmz t hw) _ (ht t)
structure Wk (n0 : Nat) (ts : Ts) (H : List O) (ts' : Ts) (H' : List O) : Prop where
 h : HWk (fun i => i) H H'
 t : wkT (fun i => i) H'.length ts ts'
 n : n0 ≤ H'.length
theorem Ext.wk {H0 : List O} {μ0 : Nat → Value} (h : Ext H0 μ0 H μ) (k : HWk (fun i => i) H H') (hn : H0.length ≤ H'.length) : Ext H0 μ0 H' μ := by
 refine ⟨fun id cs hc => ?_, fun id e es n g hc => ?_, fun id sh z va ks val hc => ?_⟩
 ·have := Qt hc
  obtain ⟨⟨cs', h1⟩, h2⟩ := h.1 id cs hc
  exact ⟨k.kind_vr (b := id) om h1, h2⟩
 ·have := Qt hc
  obtain ⟨n', g', h1, h2, h3⟩ := h.2.1 id e es n g hc
  obtain ⟨g'', h4⟩ := k.kind_arr (b := id) om h1
  exact ⟨n', g'', h4, h2, h3⟩
 ·have := Qt hc
  obtain ⟨⟨ks', val', h1⟩, h2⟩ := h.2.2 id sh z va ks val hc
  exact ⟨k.kind_mp (b := id) om h1, h2⟩
theorem Sat.wk {X : Cx} {K : Keep} {F0 : Mem} {H0 : List O} {μ0 : Nat → Value} {ts ts' : Ts} {H H' : List O} {F : Mem} {μ : Nat → Value} {a : Act} {w : World} (h : Sat X K F0 H0 μ0 ts H F μ a w) (hw : Wk X.n0 ts H ts' H') :
  Sat X K F0 H0 μ0 ts' H' F μ a w :=
 ⟨h.le, h.ext.wk hw.h (Qza h.n0 hw.n), h.hs.wk hw.h, h.tp.wk hw.h hw.t, h.sz, h.df, h.n0⟩
theorem Qbe {p : Nat → Prop} (h : ∃ n, p n) : ∃ n, p n ∧ ∀ m, p m → n ≤ m := by
 obtain ⟨n, hn⟩ := h
 induction n using Nat.strongRecOn with
 | _ n ih =>
  by_cases c : ∃ m, m < n ∧ p m
  ·obtain ⟨m, h1, h2⟩ := c
   exact ih m h1 h2
  ·exact ⟨n, hn, fun m hm => by
    rcases Nat.lt_or_ge m n with h | h
    ·exact absurd ⟨m, h, hm⟩ c
    ·exact h⟩
def Mv (X : Cx) (ts : Ts) (H : List O) (ts' : Ts) (H' : List O) : Prop :=
 ∀ K F0 H0 μ0 F μ a w, Sat X K F0 H0 μ0 ts H F μ a w → ∃ F' μ', Sat X K F0 H0 μ0 ts' H' F' μ' a w
theorem Mv.wk {X : Cx} {ts ts' : Ts} {H H' : List O} (h : Wk X.n0 ts H ts' H') : Mv X ts H ts' H' := fun _ _ _ _ F μ _ _ hs => ⟨F, μ, hs.wk h⟩
theorem Mv.trans {ts' ts'' : Ts} (h : Mv X ts H ts' H') (k : Mv X ts' H' ts'' H'') : Mv X ts H ts'' H'' := by
 intro K F0 H0 μ0 F μ a w hs
 obtain ⟨F', μ', hs'⟩ := h K F0 H0 μ0 F μ a w hs
 exact k K F0 H0 μ0 F' μ' a w hs'
theorem Lp.mk (hΓ : Qw X.P X.Γ) {k : Kp} {ι : Type} (st : ι → Ts) (Hs : ι → List O) (ok : ι → Prop) (m : ι → Nat) (i0 : ι) (h0 : ok i0) (hw : Mv X ts H (st i0) (Hs i0))
  (round : ∀ i, ok i → vc X c (st i) (Hs i) fun e ts' H' => match e with
   | .normal => ∃ j, ok j ∧ m j < m i ∧ Mv X ts' H' (st j) (Hs j)
   | .exit id => k (.exit id) ts' H'
   | .ret => k .ret ts' H') : Lp X c ts H k := by
 refine ⟨?_⟩
 intro K F0 H0 μ0 F μ a w hs
 let I : Nat → Act → World → Prop := fun n a w => ∃ i F μ, m i = n ∧ ok i ∧ Sat X K F0 H0 μ0 (st i) (Hs i) F μ a w
 have step : ∀ n a w, I n a w → c.wp X.P (Exit.then (fun a' w' => ∃ n', n' < n ∧ I n' a' w') (Post X K F0 H0 μ0 k)) a w := by
  rintro n a w ⟨i, F, μ, rfl, hi, hs⟩
  refine wp_mono (Qdf hΓ c (round i hi) K F0 H0 μ0 F μ a w hs) ?_
  rintro e a' w' ⟨ts', H', F', μ', hs', he⟩
  cases e with
  | normal =>
   obtain ⟨j, j1, j2, j3⟩ := he
   obtain ⟨F'', μ'', hs''⟩ := j3 _ _ _ _ _ _ _ _ hs'
   exact ⟨m j, j2, j, F'', μ'', rfl, j1, hs''⟩
  | exit id => exact ⟨ts', H', F', μ', hs', he⟩
  | ret => exact ⟨ts', H', F', μ', hs', he⟩
  | goto l => exact he.elim
  | panic ch => exact he.elim
  | outgrown => exact he.elim
 classical
 let least : Act → World → Nat := fun a w => if h : ∃ n, I n a w then (Qbe h).choose else 0
 obtain ⟨F1, μ1, hs1⟩ := hw _ _ _ _ _ _ _ _ hs
 refine wp_loop (fun a w => ∃ n, I n a w) least ⟨m i0, i0, F1, μ1, rfl, h0, hs1⟩ ?_
 intro a w hI
 have hl : least a w = (Qbe hI).choose := by simp only [least]; rw [dif_pos hI]
 refine wp_mono (step (least a w) a w (by rw [hl]; exact (Qbe hI).choose_spec.1)) ?_
 intro e a' w' he
 cases e with
 | normal =>
  obtain ⟨n', n1, n2⟩ := he
  have hI' : ∃ n, I n a' w' := ⟨n', n2⟩
  refine ⟨hI', ?_⟩
  have hl' : least a' w' = (Qbe hI').choose := by simp only [least]; rw [dif_pos hI']
  rw [hl']
  exact Nat.lt_of_le_of_lt ((Qbe hI').choose_spec.2 n' n2) n1
 | _ => exact he
theorem Qwu {k : Kp} (e es : Nat) (g : Nat → Nat → C) (t : Nat) (ht : find t ts = .c .nils)
  (h : Lp X c ((t, .c (.sl H.length es 0 0 false)) :: ts) (H ++ [.arr e es 0 g]) k) : Lp X c ts H k := by
 replace h := h.out
 refine ⟨?_⟩
 intro K F0 H0 μ0 F μ a w hs
 have hE := Ext.push H μ (.arr e es 0 g) (.slice none 0 0)
 have hw : HSat K F (H ++ [.arr e es 0 g]) (upd μ H.length (.slice none 0 0)) w := hs.hs.push _ _ ⟨rfl, rfl, rfl, QxB _, fun _ _ _ => rfl⟩ (fun b hb => by cases hb) (by
  refine ⟨[], ?_, Qxx _, fun i hi => by omega, Sp.none (by simp [upd, blk])⟩
  simp only [upd, Qyo]
  exact World.ownsRow_nil w 0 e es)
 refine h K F0 H0 μ0 F _ a w ⟨hs.le, hs.ext.trans hE, hw, ?_, hs.sz, hs.df, hs.n0⟩
 intro u
 simp only [find]
 cases hb : Nat.beq t u with
 | true =>
  have : t = u := QxD hb
  subst this
  have hv := hs.tp t
  rw [ht] at hv
  have hv' : a.tmps.getD t undef = .slice none 0 0 := hv
  rw [hv']
  exact ⟨rfl, e, 0, g, QW _ _, QxB _, QxB _, fun _ => ⟨none, 0, by simp [upd], rfl, fun e => by cases e⟩⟩
 | false => exact RepS.mono (Mem.le_refl F) hE _ _ (hs.tp u)
def params : Nat → List S → Ts
 | _, [] => []
 | i, s :: r => (i, s) :: params (i + 1) r
theorem Qdy : ∀ (l : List S) (i t : Nat), find t (params i l) = .u ∨ ∃ j s, t = i + j ∧ getL l j = some s ∧ find t (params i l) = s
 | [], _, _ => .inl rfl
 | s :: r, i, t => by
  simp only [params, find]
  cases hb : Nat.beq i t with
  | true =>
   have : i = t := QxD hb
   subst this
   exact .inr ⟨0, s, rfl, rfl, rfl⟩
  | false =>
   rcases Qdy r (i + 1) t with h | ⟨j, s', h1, h2, h3⟩
   ·exact .inl h
   ·exact .inr ⟨j + 1, s', om, h2, h3⟩
def resV (Γ : Env) (ts : Ts) (H : List O) : ResultVar → Option (List Prop × S)
 | .tmp t => some (bare (find t ts))
 | .cell a t => match Γ.at t with
  | some i => match find a ts with
   | .c p => Qb0 i H p
   | _ => none
  | none => none
def resE : S → Option (C ⊕ List C)
 | .c x => some (.inl x)
 | .a xs => some (.inr xs)
 | _ => none
def resL (Γ : Env) (ts : Ts) (H : List O) : List ResultVar → Option (List Prop × List (C ⊕ List C))
 | [] => some ([], [])
 | r :: rs => match resV Γ ts H r with
  | some (p, s) => match resE s with
   | some x => match resL Γ ts H rs with
    | some (q, l) => some (p ++ q, x :: l)
    | none => none
   | none => none
  | none => none
def resK (Γ : Env) (rs : List ResultVar) (ts : Ts) (H : List O) (Q : S → List O → Prop) : Prop :=
 match rs with
 | [r] => match resV Γ ts H r with
  | some (p, s) => Qbh p (Q4 s fun s' => Q s' H)
  | none => StuckC .ret ts H
 | rs => match resL Γ ts H rs with
  | some (p, l) => Qbh p (Q (.t l) H)
  | none => StuckC .ret ts H
def retK (Γ : Env) (rs : List ResultVar) (Q : S → List O → Prop) : Kp := fun e ts H => match e with
 | .exit _ => False
 | _ => resK Γ rs ts H Q
def resM (tmps : Array Value) : ResultVar → Sem Value
 | .tmp t => pure (tmps.getD t undef)
 | .cell a t => do loadVar t (← asAddr (tmps.getD a undef))
theorem QoI (hΓ : Qw P Γ) (hw : HSat K F H μ w) (hT : TSat F H μ ts tmps) {r : ResultVar} {p : List Prop} {s : S}
  (h : resV Γ ts H r = some (p, s)) (hp : ∀ q ∈ p, q) : ∃ v, (resM tmps r).run P w = .ok v w ∧ RepS F H μ s v := by
 cases r with
 | tmp t =>
  simp only [resV, Qxv] at h
  exact ⟨_, rfl, Qaq (hT t) h hp⟩
 | cell a t =>
  simp only [resV] at h
  split at h
  ·rename_i i hi
   split at h
   ·rename_i c hc
    have hv := hT a
    rw [hc] at hv
    obtain ⟨v, v1, v2⟩ := QmE (P := P) (hΓ t i hi) hw hv h hp
    refine ⟨v, ?_, v2⟩
    have hptr : ∃ b, tmps.getD a undef = .pointer (some b) := by
     cases c with
     | ptr id off => obtain ⟨_, b, _, h3⟩ := hv; exact ⟨_, h3⟩
     | ip n g => obtain ⟨b, off, h3, _⟩ := hv; exact ⟨_, h3⟩
     | ep id k j tot =>
      obtain ⟨_, e, es, n, g, h1, h2, h3⟩ := hv
      simp only [Qb0, h1] at h
      split at h
      ·rename_i s' hm
       simp only [Qxv, QxI] at h
       obtain ⟨rfl, _⟩ := h
       obtain ⟨b, cap, _, _, h4⟩ := h3 (hp _ (by simp))
       exact ⟨_, h4⟩
      ·cases h
     | _ => simp [Qb0] at h
    obtain ⟨b, hb⟩ := hptr
    rw [hb] at v1
    simp only [resM, hb]
    simpa [Instr.loadAt, Instr.sureAddr, asAddr] using v1
   ·cases h
  ·cases h
theorem Qpn (fn : Func) (tmps : Array Value) : results fn tmps = (do let vs ← fn.results.mapM (resM tmps); pure (if h : vs.size = 1 then vs[0] else .tuple vs)) := by
 unfold results
 have : (fun r : ResultVar => match r with
  | .tmp t => (pure (tmps.getD t undef) : Sem Value)
  | .cell a t => do loadVar t (← asAddr (tmps.getD a undef))) = resM tmps := by
  funext r; cases r <;> rfl
 rw [← this]
 rfl
theorem QoL {P : Program} {Γ : Env} (hΓ : Qw P Γ) {K : Keep} {F : Mem} {H : List O} {μ : Nat → Value} {w : World} (hw : HSat K F H μ w) {ts : Ts} {tmps : Array Value} (hT : TSat F H μ ts tmps) :
  ∀ (rs : List ResultVar) (p : List Prop) (l : List (C ⊕ List C)), resL Γ ts H rs = some (p, l) → (∀ q ∈ p, q) →
   ∃ vs : List Value, (rs.mapM (resM tmps)).run P w = .ok vs w ∧ vs.length = l.length ∧ rs.length = l.length ∧ ∀ (j : Nat) x, getL l j = some x → ∃ u, vs[j]? = some u ∧ RepE F H μ x u
 | [], p, l, h, _ => by
  simp only [resL, Qxv, QxI] at h
  obtain ⟨_, rfl⟩ := h
  exact ⟨[], rfl, rfl, rfl, by simp [getL]⟩
 | r :: rs, p, l, h, hp => by
  simp only [resL] at h
  split at h
  ·rename_i p1 s h1
   split at h
   ·rename_i x hx
    split at h
    ·rename_i q l' h2
     simp only [Qxv, QxI] at h
     obtain ⟨rfl, rfl⟩ := h
     obtain ⟨v, v1, v2⟩ := QoI (P := P) hΓ hw hT h1 (Qd hp)
     obtain ⟨vs, w1, w2, w3, w4⟩ := QoL hΓ hw hT rs q l' h2 (Qb hp)
     refine ⟨v :: vs, ?_, by simp [w2], by simp [w3], fun j y hy => ?_⟩
     ·rw [List.mapM_cons, Qg v1, Qg w1]; rfl
     ·cases j with
      | zero =>
       simp [getL] at hy
       subst hy
       refine ⟨v, by simp, ?_⟩
       cases s with
       | c c => simp only [resE, Qxv] at hx; subst hx; exact v2
       | a xs => simp only [resE, Qxv] at hx; subst hx; exact v2
       | _ => simp [resE] at hx
      | succ j => simp only [getL] at hy; simpa using w4 j y hy
    ·cases h
   ·cases h
  ·cases h
theorem QjO (hΓ : Qw P Γ) (hw : HSat K F H μ w) (hT : TSat F H μ ts tmps) 
  (h : resK Γ fn.results.toList ts H Q) : ∃ v s, (results fn tmps).run P w = .ok v w ∧ RepS F H μ s v ∧ Q s H := by
 rw [Qpn]
 unfold resK at h
 split at h
 ·rename_i r hr
  split at h
  ·rename_i p s hs
   obtain ⟨h1, h2⟩ := Qao h
   rw [Qag] at h2
   obtain ⟨v, v1, v2⟩ := QoI (P := P) hΓ hw hT hs h1
   refine ⟨v, s, ?_, v2, h2⟩
   have hres : fn.results = #[r] := by apply QxV.1; simpa using hr
   rw [hres]
   have : ((#[r] : Array ResultVar).mapM (resM tmps)).run P w = .ok #[v] w := by
    rw [Array.mapM_eq_mapM_toList]
    simp [v1]
   rw [Qg this]
   rfl
  ·exact (Qc3 h).elim
 ·rename_i hne
  split at h
  ·rename_i p l hl
   obtain ⟨h1, h2⟩ := Qao h
   obtain ⟨vs, w1, w2, w3, w4⟩ := QoL (P := P) hΓ hw hT _ p l hl h1
   refine ⟨.tuple vs.toArray, .t l, ?_, ⟨vs.toArray, rfl, by simpa using w2, fun j x hx => by simpa using w4 j x hx⟩, h2⟩
   have : (fn.results.mapM (resM tmps)).run P w = .ok vs.toArray w := by
    rw [Array.mapM_eq_mapM_toList]
    simp [w1]
   rw [Qg this]
   have hsz : ¬ vs.toArray.size = 1 := by
    intro e
    have : fn.results.toList.length = 1 := by rw [w3, ← w2]; simpa using e
    match hq : fn.results.toList, this with
    | [r], _ => exact hne r hq
   rw [dif_neg hsz]
   rfl
  ·exact (Qc3 h).elim
def Qco : Nat → List S → (Ts → Prop) → Prop
 | _, [], k => k []
 | i, s :: r, k => Qco (i + 1) r fun ts => k ((i, s) :: ts)
theorem Qea : ∀ (l : List S) (i : Nat) (k : Ts → Prop), Qco i l k = k (params i l)
 | [], _, _ => rfl
 | s :: r, i, k => by simp only [Qco, params, Qea r]
theorem HSat.ds (h : HSat K F H μ w) (d : List Deferred) : HSat { K with ds := d } F H μ w := ⟨h.os, h.tape, h.output, h.fr, h.kp, h.ob, h.sp, h.ij, h.dj⟩
theorem QwW (hΓ : Qw P Γ) (hf : P.funcs[f]? = some fn) (hb : fn.body = some c) (nt n0 : Nat) (rs : List ResultVar)
  (hnt : fn.ntmps = nt) (hn0 : H.length = n0) (hrs : fn.results.toList = rs) (hn : Nat.ble args.length nt = true) (h : Qco 0 args fun ts => vc ⟨P, Γ, nt, n0⟩ c ts H (retK Γ rs Q)) : CSpec P f args H Q := by
 subst hnt
 subst hn0
 subst hrs
 rw [Qea] at h
 have hn := QxJ hn
 intro K F μ w vs hw hA
 refine calls_of_wp hf hb ?_
 have hsz : (vs ++ Array.replicate (fn.ntmps - vs.size) undef).size = fn.ntmps := by
  rw [Array.size_append, Array.size_replicate, hA.1]; omega
 have hT : TSat F H μ (params 0 args) (vs ++ Array.replicate (fn.ntmps - vs.size) undef) := by
  intro t
  rcases Qdy args 0 t with e | ⟨j, s, rfl, e1, e2⟩
  ·rw [e]; trivial
  ·rw [e2]
   obtain ⟨v, v1, v2⟩ := hA.2 j s e1
   have hlt : j < vs.size := (QxH.1 v1).1
   rw [QxX, QxQ, Qyr hlt, v1]
   exact v2
 have hs : Sat ⟨P, Γ, fn.ntmps, H.length⟩ { K with ds := [] } F H μ (params 0 args) H F μ ⟨vs ++ Array.replicate (fn.ntmps - vs.size) undef, []⟩ w :=
  ⟨Mem.le_refl F, Ext.refl H μ, hw.ds [], hT, hsz, rfl, QxB _⟩
 refine wp_mono (Qdf (X := ⟨P, Γ, fn.ntmps, H.length⟩) hΓ c h { K with ds := [] } F H μ F μ _ w hs) ?_
 rintro e a' w' ⟨ts', H', F', μ', hs', he⟩
 have fin : resK Γ fn.results.toList ts' H' Q → a'.defers = [] ∧ ∃ v, (results fn a'.tmps).run P w' = .ok v w' ∧ (fun e w' => ∃ v F' μ' s H', e = Ending.returned v ∧ F.le F' ∧ HSat K F' H' μ' w' ∧ Ext H μ H' μ' ∧ RepS F' H' μ' s v ∧ Q s H') (.returned v) w' := by
  intro hr
  obtain ⟨v, s, r1, r2, r3⟩ := QjO (P := P) hΓ hs'.hs hs'.tp hr
  exact ⟨hs'.df, v, r1, v, F', μ', s, H', rfl, hs'.le, hs'.hs.ds K.ds, hs'.ext, r2, r3⟩
 cases e with
 | normal => exact fin he
 | ret => exact fin he
 | exit id => exact he.elim
 | goto l => exact he.elim
 | panic ch => exact he.elim
 | outgrown => exact he.elim
def E.imm : C ⊕ List C → Bool
 | .inl y => y.imm
 | .inr ys => ys.all C.imm
def S.imm : S → Bool
 | .u => true
 | .c x => x.imm
 | .a xs => xs.all C.imm
 | .t l => l.all E.imm
 | .lz _ s => s.imm
 | .so .. => false
theorem immC {c : C} (hc : c.imm = true) (h : RepC F H μ c v) : RepC F H' μ' c v := RepF.toC H' μ' c v (Qcn hc h)
theorem immL (hc : xs.all C.imm = true) (h : RepL F H μ xs cs) : RepL F H' μ' xs cs :=
 ⟨h.1, fun j x hx => let ⟨v, v1, v2⟩ := h.2 j x hx; ⟨v, v1, immC (Qde hc hx) v2⟩⟩
theorem immS {F : Mem} {H H' : List O} {μ μ' : Nat → Value} : ∀ {s : S}, s.imm = true → ∀ {v : Value}, RepS F H μ s v → RepS F H' μ' s v
 | .u, _, _, _ => trivial
 | .c _, hc, _, h => immC hc h
 | .a _, hc, _, ⟨cs, h1, h2⟩ => ⟨cs, h1, immL hc h2⟩
 | .t l, hc, _, ⟨vs, h1, h2, h3⟩ => ⟨vs, h1, h2, fun j x hx => by
   obtain ⟨u, u1, u2⟩ := h3 j x hx
   refine ⟨u, u1, ?_⟩
   have := Qde (p := E.imm) hc hx
   cases x with
   | inl c => exact immC this u2
   | inr cs => obtain ⟨k, k1, k2⟩ := u2; exact ⟨k, k1, immL this k2⟩⟩
 | .lz _ s, hc, _, h => ⟨fun hg => immS (s := s) hc (h.1 hg), h.2⟩
 | .so .., hc, _, _ => by cases hc
def PSpec (P : Program) (f : FuncId) (args : List S) (r : S) : Prop := CSpec P f args [] fun s _ => s = r
noncomputable def Keep.with (K : Keep) (H : List O) (μ : Nat → Value) (w : World) : Keep :=
 { K with mem := open Classical in fun b => if ∃ id, QS H μ id b then w.heap[b]? else K.mem b }
theorem HSat.aside (h : HSat K F H μ w) (μ' : Nat → Value) : HSat (K.with H μ w) F [] μ' w := by
 refine ⟨h.os, h.tape, h.output, h.fr, fun b o hb => ?_, fun id o ho => by simp [getL] at ho, fun id b ⟨⟨o, ho, _⟩, _⟩ => by simp [getL] at ho, fun id id' b ⟨⟨o, ho, _⟩, _⟩ => by simp [getL] at ho, fun b o hb => ?_⟩
 ·simp only [Keep.with] at hb
  split at hb
  ·exact hb
  ·exact h.kp b o hb
 ·simp only [Keep.with]
  rw [Qxu]
  ·exact h.dj b o hb
  ·rintro ⟨id, hid⟩
   rw [(h.sp id b hid).1] at hb
   cases hb
theorem QfM (h : HSat K F H μ w) {id : Nat} (ho : QS H μ id b) : ∃ o, w.heap[b]? = some o := by
 obtain ⟨⟨o, o1, o2⟩, hb⟩ := ho
 have := h.ob id o o1
 cases o with
 | vr cs =>
  obtain ⟨b', c, T, h1, h2, _⟩ := this
  rw [h1] at hb
  cases hb
  exact ⟨_, h2⟩
 | arr e es n g =>
  obtain ⟨xs, h1, _, _⟩ := this
  rcases h1.2 with ⟨q, _⟩ | ⟨g', cap, cur, q, _, q3, _⟩
  ·rw [q] at hb; cases hb
  ·rw [q] at hb; cases hb
   exact ⟨_, q3⟩
 | dead => exact absurd rfl o2
 | mp sh z va ks val =>
  obtain ⟨b', es, ck, h1, h2, _⟩ := this
  rw [h1] at hb
  cases hb
  exact ⟨_, h2⟩
theorem HSat.back {F' : Mem} {w' : World} (h : HSat K F H μ w) (k : HSat (K.with H μ w) F' H'' μ' w') (hF : F.le F') : HSat K F' H μ w' := by
 have own : ∀ id b, QS H μ id b → (K.with H μ w).mem b = w.heap[b]? := by
  intro id b ho
  simp only [Keep.with]
  rw [Qxt ⟨id, ho⟩]
 refine ⟨k.os, k.tape, k.output, k.fr, fun b o hb => k.kp b o ?_, fun id o ho => ?_, fun id b ho => ⟨?_, (h.sp id b ho).2⟩, h.ij, fun b o hb => ?_⟩
 ·simp only [Keep.with]
  rw [Qxu]
  ·exact hb
  ·rintro ⟨id, hid⟩
   rw [(h.sp id b hid).2] at hb
   cases hb
 ·have := h.ob id o ho
  cases o with
  | vr cs =>
   obtain ⟨b, c, T, h1, h2, h3⟩ := this
   have hb : QS H μ id b := ⟨⟨_, ho, by simp⟩, by rw [h1]; rfl⟩
   exact ⟨b, c, T, h1, k.kp b _ (by rw [own id b hb]; exact h2), h3.mono hF (Ext.refl H μ)⟩
  | arr e es n g =>
   obtain ⟨xs, h1, h2, h3, h4⟩ := this
   refine ⟨xs, ⟨h1.1, ?_⟩, h2, fun i hi j hj => ?_, h4.kept h1 fun b o hb ho' => k.kp b _ (by rw [own id b ⟨⟨_, ho, by simp⟩, hb⟩]; exact ho')⟩
   ·rcases h1.2 with q | ⟨g', cap, cur, q, q2, q3, rest⟩
    ·exact .inl q
    ·have hb : QS H μ id g' := ⟨⟨_, ho, by simp⟩, by rw [q]; rfl⟩
     exact .inr ⟨g', cap, cur, q, q2, k.kp g' _ (by rw [own id g' hb]; exact q3), rest⟩
   ·obtain ⟨v, v1, v2⟩ := h3 i hi j hj
    exact ⟨v, v1, RepC.mono hF (Ext.refl H μ) _ _ v2⟩
  | dead => trivial
  | mp sh z va ks val =>
   obtain ⟨b, es, ck, h1, h2, h3, h4⟩ := this
   have hb : QS H μ id b := ⟨⟨_, ho, by simp⟩, by rw [h1]; rfl⟩
   exact ⟨b, es, ck, h1, k.kp b _ (by rw [own id b hb]; exact h2), h3.mono hF, h4⟩
 ·cases hf : F' b with
  | none => rfl
  | some o =>
   have := k.dj b o hf
   rw [own id b ho] at this
   obtain ⟨o', ho'⟩ := QfM h ho
   rw [ho'] at this
   cases this
 ·have := k.dj b o hb
  simp only [Keep.with] at this
  split at this
  ·rename_i hid
   obtain ⟨id, hid⟩ := hid
   exact (h.sp id b hid).2
  ·exact this
def leA : List S → List S → Prop
 | [], [] => True
 | s :: r, s' :: r' => (s.imm = true ∧ wkS (fun i => i) 0 s s') ∧ leA r r'
 | _, _ => False
theorem HWk.nil : HWk (fun i => i) [] [] := ⟨fun i o' h => by simp [getL] at h, fun i j h => by simp at h⟩
theorem QmM {F : Mem} {H : List O} {μ : Nat → Value} : ∀ {l l' : List S}, leA l l' → ∀ {vs : Array Value} {o : Nat}, (∀ (j : Nat) s, getL l j = some s → ∃ v, vs[o + j]? = some v ∧ RepS F H μ s v) →
  l.length = l'.length ∧ ∀ (j : Nat) s, getL l' j = some s → ∃ v, vs[o + j]? = some v ∧ RepS F [] μ s v
 | [], [], _, _, _, _ => ⟨rfl, fun j s h => by simp [getL] at h⟩
 | s :: r, s' :: r', ⟨⟨h1, h2⟩, h3⟩, vs, o, h => by
  obtain ⟨k1, k2⟩ := QmM (o := o + 1) h3 (fun j t ht => by
   obtain ⟨v, v1, v2⟩ := h (j + 1) t (by simpa [getL] using ht)
   exact ⟨v, by rw [← v1]; congr 1; omega, v2⟩)
  refine ⟨by simp [k1], fun j t ht => ?_⟩
  cases j with
  | zero =>
   simp only [getL, Qxv] at ht
   subst ht
   obtain ⟨v, v1, v2⟩ := h 0 s rfl
   exact ⟨v, v1, Qfx HWk.nil s s' h2 v (immS (H' := []) (μ' := μ) h1 v2)⟩
  | succ j =>
   simp only [getL] at ht
   obtain ⟨v, v1, v2⟩ := k2 j t ht
   exact ⟨v, by rw [← v1]; congr 1; omega, v2⟩
 | [], _ :: _, h, _, _, _ => h.elim
 | _ :: _, [], h, _, _, _ => h.elim
theorem CSpec.pure {args' : List S} {r : S} (hp : PSpec P f args' r) (ha : leA args args') (hr : r.imm = true) {k : S → List O → Prop} (hk : k r H) : CSpec P f args H k := by
 intro K F μ w vs hw hA
 obtain ⟨l1, l2⟩ := QmM (o := 0) ha (fun j s hs => by simpa using hA.2 j s hs)
 refine (hp (K.with H μ w) F μ w vs (hw.aside μ) ⟨hA.1.trans l1, fun j s hs => by simpa using l2 j s hs⟩).mono ?_
 rintro e w' ⟨v, F', μ', s, H', rfl, h1, h2, h3, h4, rfl⟩
 exact ⟨v, F', μ, s, H, rfl, h1, hw.back h2 h1, Ext.refl H μ, immS hr h4, hk⟩
theorem CallN.pure {X : Cx} {f : FuncId} {args args' : List S} {r : S} {dst : Option Tmp} {ts : Ts} {H : List O} (hb : HasBody X.P f) (hp : PSpec X.P f args' r) (ha : leA args args') (hr : r.imm = true) {k : Ts → List O → Prop}
  (hk : Q4 r fun s' => putK X.nt dst s' ts fun ts' => k ts' H) : CallN X f args dst ts H k :=
 CallN.spec hb (CSpec.pure hp ha hr (by rw [QaO]; exact hk))
theorem CallG.pure {P : Program} {g : Bool} {f : FuncId} {args args' : List S} {r : S} {H : List O} (hb : HasBody P f) (hp : g = true → PSpec P f args' r) (ha : g = true → leA args args') (hr : r.imm = true) {k : S → List O → Prop} (hk : k r H) : CallG P g f args H k :=
 CallG.mk r (fun hg => ⟨hb, CSpec.pure (hp hg) (ha hg) hr ⟨rfl, rfl⟩⟩) hk
theorem PSpec.le {r r' : S} (h : PSpec P f args r) (hr : r.imm = true) (hl : wkS (fun i => i) 0 r r') : PSpec P f args r' := by
 intro K F μ w vs hw hA
 refine (h K F μ w vs hw hA).mono ?_
 rintro e w' ⟨v, F', μ', s, H', rfl, h1, h2, h3, h4, rfl⟩
 have hw0 : HSat K F' [] μ w' := hw.back (K := K) (H := []) (by
  have : K.with [] μ w = K := by
   unfold Keep.with
   congr 1
   funext b
   rw [Qxu]
   rintro ⟨id, ⟨o, ho, _⟩, _⟩
   simp [getL] at ho
  rw [this]
  exact h2) h1
 exact ⟨v, F', μ, r', [], rfl, h1, hw0, Ext.refl [] μ, Qfx HWk.nil s r' hl v (immS hr h4), rfl⟩
end Go.Am
end
