/- Contracts, lemmas; no condition. -/
import Derived.Test.YtjjlblnbeggejaaGreatP02
set_option linter.all false
section
namespace Go.Am
variable {P : Program} {w w' : World} {p ns : List Prop} {F : Mem} {H H' : List O} {μ : Nat → Value} {ts : Ts} {a : Act} {Γ : Env} {K : Keep} {c : C} {v : Value} {i t : Nat} {α : Type}
theorem val1 {s : Sem Value} {r : Value} (h : s.run P w = .ok r w') : (do pure (Next.value (← s)) : Sem Next).run P w = .ok (.value r) w' := by
 rw [Qg h]; rfl
theorem Qd {q : List Prop} (h : ∀ x ∈ p ++ q, x) : ∀ x ∈ p, x := fun x hx => h x (Qyc.2 (.inl hx))
theorem Qb {q : List Prop} (h : ∀ x ∈ p ++ q, x) : ∀ x ∈ q, x := fun x hx => h x (Qyc.2 (.inr hx))
theorem QcK (hT : TSat F H μ ts a.tmps) {x : Option Operand} {r : Option Int} (h : Qbf ts x = some (p, r)) (hp : ∀ q ∈ p, q) : QfR r (x.map a.eval) := by
 cases x with
 | none => simp only [Qbf, Qxv, QxI] at h; obtain ⟨_, rfl⟩ := h; trivial
 | some x =>
  simp only [Qbf] at h
  split at h
  ·rename_i p' k n ho
   cases h
   exact ⟨k, Qaq (Q9 hT x) ho hp⟩
  ·cases h
theorem Qki {src dst e : TypeId} (hs : P.underlying src = some (.slice e)) (he : P.underlying e = some (.int .u8)) (hd : P.underlying dst = some .string) (w : World) (a : Option Addr) (n cap : Nat) (get : Nat → Nat → C)
  (hg : ∀ i, i < n → ∃ v, get i 0 = .int .u8 v) (hc : n = 0 ∨ ∃ b off, a = some ⟨b, off, none⟩ ∧ ∀ i, i < n → ∃ v, get i 0 = .int .u8 v ∧ w.cell? ⟨b, off + i, none⟩ = some (.int .u8 v)) (hnil : a = none → n = 0) :
  (convert src dst (.slice a n cap)).run P w = .ok (.string (QQ n get)) w := by
 rw [run_convert_bytes_string w src dst e a n cap hs he hd]
 cases a with
 | none =>
  have := hnil rfl
  subst this
  simp [Conv.bytesToString, QQ]
  rfl
 | some a =>
  let xs : List Int := (List.range n).map fun i => match get i 0 with | .int _ v => v | _ => 0
  have hl : (loadCells a n).run P w = .ok (xs.map (Value.int .u8)).toArray w := by
   have := run_loadCells_list (P := P) w a (xs.map (Value.int .u8)) (fun j v hj => by
    have hjn : j < n := by
     have := (QxU.1 hj).1
     simpa [xs] using this
    rcases hc with hc | ⟨b, off, rfl', hc⟩
    ·omega
    ·cases rfl'
     obtain ⟨u, u1, u2⟩ := hc j hjn
     rw [QaS, u2]
     simp [xs, hjn, u1] at hj
     rw [hj])
   simpa [xs] using this
  rw [run_bytesToString w a n cap xs hl, foldl_push_bytes]
  congr 2
  simp only [QQ, xs, List.map_map]
  have : ∀ l : List Nat, (∀ i ∈ l, i < n) → l.map ((fun n : Int => UInt8.ofNat n.toNat) ∘ fun i => match get i 0 with | .int _ v => v | _ => 0) = l.map fun i => Qc6 (get i 0) := by
   intro l hl
   apply List.map_congr_left
   intro i hi
   obtain ⟨v, hv⟩ := hg i (hl i hi)
   simp [hv, Qc6]
  rw [this _ (fun i hi => List.mem_range.1 hi)]
  show (⟨#[] ++ _⟩ : ByteArray) = _
  simp
theorem Qtc (hΓ : Qw P Γ) (hw : HSat K F H μ w) {src dst : Nat} {x : C} 
  (hx : RepC F H μ x v) (h : Qd9 Γ src dst H x = some (ns, c)) (hn : ∀ q ∈ ns, q) : ∃ r, (convert src dst v).run P w = .ok r w ∧ RepC F H μ c r := by
 have bsz : ∀ n get, n ≤ maxLen → (QQ n get).size ≤ maxLen := by intro n get h; simpa [QQ, ByteArray.size] using h
 cases x with
 | int k n =>
  rw [show v = _ from hx]
  simp only [Qd9] at h
  cases h1 : QdW Γ src with
  | none => simp [h1] at h
  | some k1 =>
   cases h2 : QdW Γ dst with
   | none => simp [h1, h2] at h
   | some k2 =>
    simp only [h1, h2, Qxv, QxI] at h
    obtain ⟨rfl, rfl⟩ := h
    refine ⟨.int k2 (k2.wrap n), ?_, rfl⟩
    unfold convert
    rw [Qg (run_underlying (QeH hΓ h1) w), Qg (run_underlying (QeH hΓ h2) w)]
    rfl
 | isl es n get tight =>
  obtain ⟨a, cap, rfl, q1, q2, q3, q3', q4⟩ := hx
  simp only [Qd9] at h
  cases h1 : Q2 Γ src with
  | none => simp [h1] at h
  | some p =>
   obtain ⟨e, te⟩ := p
   obtain ⟨u1, u2⟩ := Qab hΓ h1
   simp only [h1] at h
   split at h
   ·rename_i hk
    cases h3 : QcB Γ dst with
    | false => simp [h3] at h
    | true =>
     simp only [h3] at h
     split at h
     ·rename_i hb
      simp only [Qxv, QxI] at h
      obtain ⟨rfl, rfl⟩ := h
      have hg : ∀ i, i < n → ∃ v, get i 0 = .int .u8 v := hn _ (by simp)
      refine ⟨_, Qki u1 (QeH hΓ hk) (QdN hΓ h3) w a n cap get hg ?_ ?_, rfl, bsz _ _ q1⟩
      ·rcases q4 with q4 | ⟨b, off, rfl, hc⟩
       ·exact .inl q4
       ·have hes : es = 1 := QxD hb
        subst hes
        refine .inr ⟨b, off, rfl, fun i hi => ?_⟩
        obtain ⟨u, hu⟩ := hg i hi
        obtain ⟨y, y1, y2⟩ := hc i hi 0 om
        rw [hu] at y2
        refine ⟨u, hu, ?_⟩
        rw [show y = _ from y2] at y1
        unfold Mem.cell at y1
        cases hf : F b with
        | none => simp [hf] at y1
        | some o =>
         rw [hf] at y1
         cases o with
         | cells c T fz => rw [cell_of_row w b _ c T fz (hw.fr b _ hf)]; simpa using y1
         | _ => simp at y1
      ·intro ha
       rcases q4 with q4 | ⟨b, off, rfl, hc⟩
       ·exact q4
       ·cases ha
     ·cases h
   ·cases h
 | sl id es len tot xq =>
  obtain ⟨_, e', n, g, h1', h2', h3', h4'⟩ := hx
  simp only [Qd9] at h
  cases h1 : Q2 Γ src with
  | none => simp [h1] at h
  | some p =>
   obtain ⟨e, te⟩ := p
   obtain ⟨u1, u2⟩ := Qab hΓ h1
   simp only [h1] at h
   split at h
   ·rename_i hk
    cases h3 : QcB Γ dst with
    | false => simp [h3] at h
    | true =>
     simp only [h3] at h
     split at h
     ·rename_i hb
      simp only [h1', Qxv, QxI] at h
      obtain ⟨rfl, rfl⟩ := h
      have hes : es = 1 := QxD hb
      subst hes
      have ht : tot = n := hn _ (by simp)
      have hg : ∀ i, i < len → ∃ v, g i 0 = .int .u8 v := hn _ (by simp)
      obtain ⟨a, cap, m1, rfl, _⟩ := h4' ht
      obtain ⟨xs, o1, o2, o3, o4⟩ := hw.ob id _ h1'
      refine ⟨_, Qki u1 (QeH hΓ hk) (QdN hΓ h3) w a len cap g hg ?_ ?_, rfl, bsz _ _ om⟩
      ·rcases o1.2 with ⟨q1, q2⟩ | ⟨b, cap', cur, q1, _⟩
       ·exact .inl om
       ·rw [m1] at q1
        simp only [Value.slice.injEq, true_and] at q1
        obtain ⟨rfl, rfl⟩ := q1
        refine .inr ⟨b, 0, rfl, fun i hi => ?_⟩
        obtain ⟨u, hu⟩ := hg i hi
        obtain ⟨y, y1, y2⟩ := o3 i om 0 om
        rw [hu] at y2
        refine ⟨u, hu, ?_⟩
        rw [show y = _ from y2] at y1
        have := o1.cells (g := b) (by rw [m1]; rfl) _ _ y1
        rw [QaS] at this
        simpa using this
      ·intro ha
       subst ha
       rcases o1.2 with ⟨q1, q2⟩ | ⟨b, cap', cur, q1, _⟩
       ·omega
       ·rw [m1] at q1; simp at q1
     ·cases h
   ·cases h
 | _ => simp [Qd9] at h
theorem QsD (w : World) (hc : RepC F H μ c v) (h : QeQ H c = some ns) (hn : ∀ q ∈ ns, q) (ρ : Operand → Value) (o : Oper) {x : Operand} (ho : o.op = .nilCheck x) (hx : ρ x = v) :
  (execOp ρ o).run P w = .ok (.value v) w := by
 unfold execOp
 rw [ho]
 simp only [hx]
 cases c with
 | ptr id off => obtain ⟨_, b, _, rfl⟩ := hc; rfl
 | ip n get => obtain ⟨b, off, rfl, _⟩ := hc; rfl
 | fn f n get =>
  obtain ⟨cs, rfl, _⟩ := hc
  cases f <;> simp [QeQ] at h
  rfl
 | ep id i j tot =>
  obtain ⟨_, e, es, n, g, h1, h2, h3⟩ := hc
  simp only [QeQ, h1, Qxv] at h
  subst h
  obtain ⟨b, cap, _, _, rfl⟩ := h3 (hn _ (by simp))
  rfl
 | _ => simp [QeQ] at h
theorem QjE (hΓ : Qw P Γ) (hw : HSat K F H μ w) (hT : TSat F H μ ts a.tmps) (o : Oper) {s : S}
  (h : val Γ ts H o.op = some (ns, s)) (hn : ∀ q ∈ ns, q) : ∃ r, (execOp a.eval o).run P w = .ok (.value r) w ∧ RepS F H μ s r := by
 have O := Q9 hT
 have B : ∀ {x : Operand} {p : List Prop} {s' : S}, bare (opnd ts x) = (p, s') → (∀ q ∈ p, q) → RepS F H μ s' (a.eval x) := fun hb hp => Qaq (O _) hb hp
 unfold val at h
 split at h
 ·
  rename_i x ho
  cases h
  exact ⟨_, by unfold execOp; rw [ho]; rfl, O x⟩
 ·
  rename_i x ho
  cases h
  exact ⟨_, by unfold execOp; rw [ho]; rfl, O x⟩
 ·
  rename_i c x y ho
  split at h
  ·rename_i pc b hb1
   split at h
   ·rename_i pa u hb2
    split at h
    ·rename_i pb v hb3
     split at h
     ·rename_i r hr
      cases h
      have hc : a.eval c = .bool b := B hb1 (fun q hq => hn q (by simp [hq]))
      have := Qsg (F := F) (H := H) (μ := μ) hr (fun e => B hb2 (fun q hq => hn (b = true → q) (by
        simp only [Qyc, Qyj]; exact .inl (.inr ⟨q, hq, rfl⟩)) e)) (fun e => B hb3 (fun q hq => hn (b = false → q) (by
        simp only [Qyc, Qyj]; exact .inr ⟨q, hq, rfl⟩) e))
      refine ⟨_, ?_, this⟩
      unfold execOp
      rw [ho]
      simp only [hc, asBool]
      cases b <;> rfl
     ·cases h
    ·cases h
   ·cases h
  ·cases h
 ·
  rename_i t x ho
  split at h
  ·rename_i i hi
   split at h
   ·rename_i p c hb
    split at h
    ·rename_i q s' hl
     cases h
     obtain ⟨r, r1, r2⟩ := QmE (P := P) (hΓ t i hi) hw (B hb (Qd hn)) hl (Qb hn)
     exact ⟨r, by unfold execOp; rw [ho]; exact val1 r1, r2⟩
    ·cases h
   ·cases h
  ·cases h
 ·
  rename_i x ho
  split at h
  ·rename_i p c hb
   split at h
   ·rename_i q hq
    cases h
    have hc := B hb (Qd hn)
    exact ⟨a.eval x, QsD w hc hq (Qb hn) a.eval o ho rfl, hc⟩
   ·cases h
  ·cases h
 ·
  rename_i t x f ho
  split at h
  ·rename_i off hf
   split at h
   ·rename_i p c hb
    split at h
    ·rename_i r hr
     split at h
     ·rename_i q hq
      cases h
      obtain ⟨v, v1, v2⟩ := QrJ (P := P) hΓ hf w (B hb (Qd hn)) hr (by
       intro id i j tot e e' es n g hg
       subst e
       simp only [QgM, hg, Qxv] at hq
       subst hq
       exact Qb hn _ (by simp))
      exact ⟨v, by unfold execOp; rw [ho]; exact val1 v1, v2⟩
     ·cases h
    ·cases h
   ·cases h
  ·cases h
 ·
  rename_i t x f ho
  split at h
  ·rename_i p cs hb
   split at h
   ·rename_i s' hf
    cases h
    obtain ⟨vs, v1, v2⟩ := B hb hn
    obtain ⟨r, r1, r2⟩ := QqT (P := P) hΓ w v2 hf
    exact ⟨r, by unfold execOp; rw [ho]; simp only [v1]; exact val1 r1, r2⟩
   ·cases h
  ·cases h
 ·
  rename_i t x i ho
  split at h
  ·rename_i e te he
   split at h
   ·rename_i p x' hb1
    split at h
    ·rename_i q k i' hb2
     split at h
     ·rename_i r c hc
      cases h
      have hi : a.eval i = .int k i' := B hb2 (Qb (Qd hn))
      obtain ⟨v, v1, v2⟩ := Qrl (P := P) hΓ hw he (k := k) (B hb1 (Qd (Qd hn))) hc (Qb hn)
      exact ⟨v, by unfold execOp; rw [ho]; simp only [hi]; exact val1 v1, v2⟩
     ·cases h
    ·cases h
   ·cases h
  ·split at h
   ·rename_i n e te he
    split at h
    ·rename_i p id off hb1
     split at h
     ·rename_i q k i' hb2
      cases h
      have hi : a.eval i = .int k i' := B hb2 (Qb (Qd hn))
      obtain ⟨hx1, b, hx2, hx3⟩ : RepC F H μ (.ptr id off) (a.eval x) := B hb1 (Qd (Qd hn))
      obtain ⟨hu, hte⟩ := Qm0 (P := P) hΓ he
      have h0 : 0 ≤ i' := Qb hn _ (by simp)
      have h1 : i' < n := Qb hn _ (by simp)
      have hs := Qbb hte w
      refine ⟨.pointer (some ⟨b, off + i'.toNat * te.size, none⟩), ?_, hx1, b, hx2, rfl⟩
      unfold execOp
      rw [ho]
      simp only [hi, hx3]
      apply val1
      simp [Instr.indexAt, asIntOf, run_underlying hu, Instr.sureAddr, h0, h1, hs, Addr.add]
     ·cases h
    ·cases h
   ·cases h
 ·
  rename_i t x i ho
  split at h
  ·rename_i ht
   split at h
   ·rename_i p s' hb1
    split at h
    ·rename_i q k i' hb2
     cases h
     have hi : a.eval i = .int k i' := B hb2 (Qb (Qd hn))
     have hx := B hb1 (Qd (Qd hn))
     have h0 : 0 ≤ i' := Qb hn _ (by simp)
     have h1 : i' < s'.size := Qb hn _ (by simp)
     have hlt : i'.toNat < s'.size := by omega
     refine ⟨.int .u8 (s'[i'.toNat]).toNat, ?_, ?_⟩
     ·unfold execOp
      rw [ho]
      simp only [hi, hx.1]
      apply val1
      simp [Instr.index, asIntOf, run_underlying (QdN hΓ ht), h0, hlt]
     ·show Value.int .u8 _ = Value.int .u8 _
      congr 3
      simp [List.getD, ByteArray.getElem_eq_getElem_data, hlt]
    ·cases h
   ·cases h
  ·split at h
   ·rename_i n e te he
    split at h
    ·rename_i p cs hb1
     split at h
     ·rename_i q k i' hb2
      split at h
      ·rename_i xs hc
       split at h
       ·rename_i s' hs
        cases h
        have hi : a.eval i = .int k i' := B hb2 (Qb (Qd hn))
        obtain ⟨vs, hx1, hx2⟩ : RepS F H μ (.a cs) (a.eval x) := B hb1 (Qd (Qd hn))
        obtain ⟨hu, hte⟩ := Qm0 (P := P) hΓ he
        have h0 : 0 ≤ i' := Qb hn _ (by simp)
        have h1 : i' < n := Qb hn _ (by simp)
        have hz := Qbb hte w
        obtain ⟨r, r1, r2⟩ := Qou hte w hx2 hc hs
        refine ⟨r, ?_, r2⟩
        unfold execOp
        rw [ho]
        simp only [hi, hx1]
        apply val1
        unfold Instr.index
        rw [Qg (show (asIntOf (.int k i')).run P w = .ok (k, i') w from rfl)]
        dsimp only
        rw [Qg (run_underlying hu w)]
        simp only [h0, h1, and_self, Qyo]
        rw [Qg hz]
        exact r1
       ·cases h
      ·cases h
     ·cases h
    ·cases h
   ·cases h
 ·
  rename_i op t x y yt ho
  split at h
  ·rename_i p x' hb1
   split at h
   ·rename_i q y' hb2
    split at h
    ·rename_i r v hv
     have key : ∀ (hns : ns = p ++ q ++ r) (hs : s = .c v) (ht : (∃ b, x' = .bool b) → P.underlying t = some .bool), ∃ r, (execOp a.eval o).run P w = .ok (.value r) w ∧ RepS F H μ s r := by
      intro hns hs ht
      subst hns
      subst hs
      obtain ⟨u, u1, u2⟩ := Qs1 (P := P) (F := F) (H := H) (μ := μ) w (t := t) (X := x) (Y := y) ht hv (Qb hn) (B hb1 (Qd (Qd hn))) (B hb2 (Qb (Qd hn)))
      exact ⟨u, by unfold execOp; rw [ho]; exact val1 u1, u2⟩
     split at h
     ·split at h
      ·rename_i hbt
       cases h
       exact key rfl rfl (fun _ => QpQ hΓ hbt)
      ·cases h
     ·rename_i hx'
      cases h
      exact key rfl rfl (fun ⟨b, e⟩ => absurd e (hx' b))
    ·cases h
   ·cases h
  ·rename_i p xs hb1
   split at h
   ·rename_i q ys hb2
    split at h
    ·rename_i e he
     split at h
     ·rename_i i hi
      split at h
      ·rename_i hfl
       rw [QxA] at hfl
       split at h
       ·rename_i r hr
        cases h
        have hx := B hb1 (Qd hn)
        have hy := B hb2 (Qb hn)
        have heq := Quf (w := w) (hΓ t i hi) hfl.1 (QxD hfl.2) hr hx hy
        obtain ⟨_, hgd, _⟩ := (hΓ t i hi).flt hfl.1
        obtain ⟨cs, hcs, _⟩ := hx
        obtain ⟨ds, hds, _⟩ := hy
        refine ⟨.bool (r == e), ?_, rfl⟩
        unfold execOp
        rw [ho]
        refine val1 ?_
        rw [hcs, hds] at heq ⊢
        rw [Qg (show (eqGuard op t x y (.agg cs) (.agg ds)).run P w = .ok () w by rw [run_eqGuard_agg w op t x y cs ds hgd])]
        cases op <;> simp only [Qtx, reduceCtorEq, Qxv] at he
        ·subst he
         show (do pure (.bool (← Op.equal t (.agg cs) (.agg ds))) : Sem Value).run P w = _
         rw [Qg heq]
         cases r <;> rfl
        ·subst he
         show (do pure (.bool (!(← Op.equal t (.agg cs) (.agg ds)))) : Sem Value).run P w = _
         rw [Qg heq]
         cases r <;> rfl
       ·cases h
      ·cases h
     ·cases h
    ·cases h
   ·cases h
  ·cases h
 ·
  rename_i op t x ho
  split at h
  ·rename_i p x' hb1
   split at h
   ·rename_i v hv
    cases h
    obtain ⟨u, u1, u2⟩ := Qul (P := P) w hv (B hb1 hn)
    exact ⟨u, by unfold execOp; rw [ho]; exact val1 u1, u2⟩
   ·cases h
  ·cases h
 ·
  rename_i src dst x ho
  split at h
  ·rename_i p x' hb1
   split at h
   ·rename_i q v hv
    cases h
    obtain ⟨u, u1, u2⟩ := Qtc (P := P) hΓ hw (B hb1 (Qd hn)) hv (Qb hn)
    exact ⟨u, by unfold execOp; rw [ho]; exact val1 u1, u2⟩
   ·cases h
  ·cases h
 ·
  rename_i t x ix ok ho
  split at h
  ·rename_i sh k e te hm
   split at h
   ·rename_i hgm
    split at h
    ·rename_i p id hb1
     split at h
     rename_i q s' hb2
     split at h
     ·rename_i key hkey
      split at h
      ·rename_i hsh
       split at h
       ·rename_i sh' z va ks vl hg
        split at h
        ·rename_i hmp
         cases h
         obtain ⟨rfl, rfl, rfl⟩ := Qml hmp
         obtain ⟨g1, g2⟩ := Qsz hgm
         have hx := B hb1 (Qd hn)
         have hk := Qj5 hkey (B hb2 (Qb hn))
         obtain ⟨r, r1, r2⟩ := QtZ hΓ hw hm hg hx (Qx4 hsh) g2 g1 ok
         refine ⟨r, ?_, r2⟩
         unfold execOp
         rw [ho]
         simp only [hk]
         exact val1 r1
        ·cases h
       ·cases h
      ·cases h
     ·cases h
    ·cases h
   ·cases h
  ·cases h
 ·
  rename_i x i ho
  split at h
  ·rename_i l hb
   have hx := O x
   rw [hb] at hx
   obtain ⟨vs, v1, v2, v3⟩ := hx
   split at h
   ·rename_i c hc
    cases h
    obtain ⟨u, u1, u2⟩ := v3 i _ hc
    exact ⟨u, by unfold execOp; rw [ho]; simp only [v1]; apply val1; simp [Instr.extract, u1], u2⟩
   ·rename_i cs hc
    cases h
    obtain ⟨u, u1, u2⟩ := v3 i _ hc
    exact ⟨u, by unfold execOp; rw [ho]; simp only [v1]; apply val1; simp [Instr.extract, u1], u2⟩
   ·cases h
  ·cases h
 ·
  rename_i t parts ho
  split at h
  ·rename_i s' hs
   cases h
   obtain ⟨u, u1, u2⟩ := QqW (P := P) hΓ hT w hs hn
   exact ⟨u, by unfold execOp; rw [ho]; exact val1 u1, u2⟩
  ·cases h
 ·
  rename_i f first captured ho
  split at h
  ·rename_i hf
   split at h
   ·rename_i cs hc
    cases h
    obtain ⟨c1, c2⟩ := QkG hT _ _ hc
    have hfe : first = #[] := by simpa using hf
    refine ⟨.func f #[] (captured.map a.eval), ?_, captured.map a.eval, rfl, by simpa using c1.symm, fun j hj => ?_⟩
    ·unfold execOp
     rw [ho, hfe]
     apply val1
     simp [Instr.makeFunc]
    ·obtain ⟨u, u1, u2⟩ := c2 j cs[j] (by rw [Qc]; simp [hj])
     refine ⟨u, by simpa using u1, ?_⟩
     simp only [lget, Qc]
     simpa [hj] using u2
   ·cases h
  ·cases h
 ·
  rename_i t x lo hi mx ho
  split at h
  ·rename_i p x' hb
   split at h
   ·rename_i p1 lo' hlo
    split at h
    ·rename_i p2 hi' hhi
     split at h
     ·rename_i p3 mx' hmx
      have key : ∀ {q : List Prop} {c : C}, Qa1 x' lo' hi' mx' = some (q, c) → QrY P Γ t x' → (∀ y ∈ p ++ (p1 ++ (p2 ++ (p3 ++ q))), y) → ∃ r, (execOp a.eval o).run P w = .ok (.value r) w ∧ RepS F H μ (.c c) r := by
       intro q c hc ht hn'
       obtain ⟨u, u1, u2⟩ := Qry (P := P) hΓ w (B hb (Qd hn')) hc (Qb (Qb (Qb (Qb hn')))) (QcK hT hlo (Qd (Qb hn'))) (QcK hT hhi (Qd (Qb (Qb hn')))) (QcK hT hmx (Qd (Qb (Qb (Qb hn'))))) ht
       exact ⟨u, by unfold execOp; rw [ho]; exact val1 u1, u2⟩
      split at h
      ·split at h
       ·rename_i e te he
        split at h
        ·rename_i q s0 hso
         simp only [Qxv, QxI] at h
         obtain ⟨rfl, rfl⟩ := h
         obtain ⟨u, u1, u2⟩ := QqY (P := P) hΓ hw (B hb (Qd hn)) he hso (Qb (Qb (Qb (Qb hn)))) (QcK hT hlo (Qd (Qb hn))) (QcK hT hhi (Qd (Qb (Qb hn)))) (QcK hT hmx (Qd (Qb (Qb (Qb hn)))))
         exact ⟨u, by unfold execOp; rw [ho]; exact val1 u1, u2⟩
        ·cases h
       ·cases h
      ·split at h
       ·rename_i q c hc
        cases x' with
        | isl es n g tt =>
         simp only at h
         cases he : Q2 Γ t with
         | none => simp [he] at h
         | some pr =>
          simp only [he] at h
          cases hes : Nat.beq es pr.2.size with
          | false => simp [hes] at h
          | true =>
           simp only [hes, Qxv, QxI] at h
           obtain ⟨rfl, rfl⟩ := h
           exact key hc ⟨pr.1, pr.2, he, QxD hes⟩ hn
        | str s' =>
         simp only at h
         cases hst : QcB Γ t with
         | false => simp [hst] at h
         | true =>
          simp only [hst, Qxv, QxI] at h
          obtain ⟨rfl, rfl⟩ := h
          exact key hc (QdN hΓ hst) hn
        | _ => simp at h
       ·cases h
     ·cases h
    ·cases h
   ·cases h
  ·cases h
 ·
  rename_i args argTypes ho
  split at h
  ·rename_i x hargs
   split at h
   ·rename_i t htypes
    have ha : args = #[x] := by apply QxV.1; simpa using hargs
    have hty : argTypes = #[t] := by apply QxV.1; simpa using htypes
    subst ha
    subst hty
    split at h
    ·rename_i p c hb
     split at h
     ·rename_i n hlen
      have run : ∀ v, (Builtin.len_ #[t] o.type #[a.eval x]).run P w = .ok v w → (execOp a.eval o).run P w = .ok (.value v) w := by
       intro v hv
       have e : (#[x] : Array Operand).map a.eval = #[a.eval x] := by simp
       unfold execOp
       rw [ho]
       show (do let d ← resolve a.eval _ o.type; invoke d.target d.args : Sem Next).run P w = _
       simp only [resolve, invoke, builtin, e]
       exact val1 hv
      split at h
      ·rename_i s'
       split at h
       ·rename_i hst
        cases h
        have hx := B hb hn
        cases hlen
        refine ⟨_, run (goInt s'.size) ?_, rfl⟩
        rw [hx.1]
        simp [Builtin.len_, run_underlying (QdN hΓ hst)]
       ·cases h
      ·rename_i id es len tot xq
       split at h
       ·rename_i pr he
        split at h
        ·rename_i e' es' n' g hg
         cases h
         obtain ⟨_, e2, n2, g2, h1, h2, h3, h4⟩ := B hb (Qd hn)
         rw [hg] at h1
         cases h1
         obtain ⟨aa, cap, m1, m2, _⟩ := h4 (Qb hn _ (by simp))
         cases hlen
         refine ⟨_, run (goInt n) ?_, rfl⟩
         rw [m2]
         obtain ⟨u1, _⟩ := Qab (P := P) hΓ (show Q2 Γ t = some (pr.1, pr.2) from he)
         simp [Builtin.len_, run_underlying u1]
        ·cases h
       ·cases h
      ·rename_i hne1 hne2
       split at h
       ·rename_i pr he
        cases h
        have hx := B hb hn
        cases c with
        | isl es n' get tight =>
         cases hlen
         obtain ⟨aa, cap, e1, _⟩ := hx
         refine ⟨_, run (goInt n) ?_, rfl⟩
         rw [e1]
         obtain ⟨u1, _⟩ := Qab (P := P) hΓ (show Q2 Γ t = some (pr.1, pr.2) from he)
         simp [Builtin.len_, run_underlying u1]
        | nils =>
         cases hlen
         refine ⟨_, run (goInt 0) ?_, rfl⟩
         rw [show a.eval x = _ from hx]
         obtain ⟨u1, _⟩ := Qab (P := P) hΓ (show Q2 Γ t = some (pr.1, pr.2) from he)
         simp [Builtin.len_, run_underlying u1]
        | str s' => exact absurd rfl (hne1 s')
        | sl id es len tot xq => exact absurd rfl (hne2 id es len tot xq)
        | _ => simp [lenC] at hlen
       ·cases h
     ·split at h
      ·rename_i id _
       split at h
       ·rename_i sh z va ks vl hg
        split at h
        ·rename_i pr he
         cases h
         obtain ⟨_, b, m1, m2⟩ := B hb hn
         obtain ⟨b', es, ck, q1, q2, q3, -⟩ := hw.ob id _ hg
         rw [m1] at q1
         cases q1
         have hlen : es.size = ks.length := by simpa using QxK List.length q3.keys
         have e : (#[x] : Array Operand).map a.eval = #[a.eval x] := by simp
         refine ⟨goInt es.size, ?_, by rw [hlen]; rfl⟩
         unfold execOp
         rw [ho]
         show (do let d ← resolve a.eval _ o.type; invoke d.target d.args : Sem Next).run P w = _
         simp only [resolve, invoke, builtin, e]
         refine val1 ?_
         rw [m2]
         obtain ⟨u1, _⟩ := Qf4 (P := P) hΓ (show QdH Γ t = some (pr.1, pr.2.1, pr.2.2.1, pr.2.2.2) from he)
         simp [Builtin.len_, run_underlying u1, MapKept.run_getObj_map q2, Result.andThen]
        ·cases h
       ·cases h
      ·cases h
    ·cases h
   ·cases h
  ·cases h
 ·
  rename_i args argTypes ho
  split at h
  ·rename_i x y hargs
   have ha : args = #[x, y] := by apply QxV.1; simpa using hargs
   subst ha
   split at h
   ·rename_i p k u hb1
    split at h
    ·rename_i q k' v hb2
     cases h
     have h1 : a.eval x = .int k u := B hb1 (Qd hn)
     have h2 : a.eval y = .int k' v := B hb2 (Qb hn)
     refine ⟨.int k (if v > u then v else u), ?_, ?_⟩
     ·unfold execOp
      rw [ho]
      have e : (#[x, y] : Array Operand).map a.eval = #[.int k u, .int k' v] := by simp [h1, h2]
      show (do let d ← resolve a.eval _ o.type; invoke d.target d.args : Sem Next).run P w = _
      simp only [resolve, invoke, builtin, e]
      refine val1 (s := Builtin.max_ _ _ _) ?_
      simp [Builtin.max_, Builtin.max2]
     ·show Value.int k _ = Value.int k _
      congr 1
      omega
    ·cases h
   ·cases h
  ·cases h
 ·
  rename_i args argTypes ho
  split at h
  ·rename_i x y hargs
   have ha : args = #[x, y] := by apply QxV.1; simpa using hargs
   subst ha
   split at h
   ·rename_i p k u hb1
    split at h
    ·rename_i q k' v hb2
     cases h
     have h1 : a.eval x = .int k u := B hb1 (Qd hn)
     have h2 : a.eval y = .int k' v := B hb2 (Qb hn)
     refine ⟨.int k (if v < u then v else u), ?_, ?_⟩
     ·unfold execOp
      rw [ho]
      have e : (#[x, y] : Array Operand).map a.eval = #[.int k u, .int k' v] := by simp [h1, h2]
      show (do let d ← resolve a.eval _ o.type; invoke d.target d.args : Sem Next).run P w = _
      simp only [resolve, invoke, builtin, e]
      refine val1 (s := Builtin.min_ _ _ _) ?_
      simp [Builtin.min_, Builtin.min2]
     ·show Value.int k _ = Value.int k _
      congr 1
      omega
    ·cases h
   ·cases h
  ·cases h
 ·cases h
def upd (μ : Nat → Value) (id : Nat) (v : Value) : Nat → Value := fun i => if i = id then v else μ i
theorem OSat.other {μ' : Nat → Value} {o : O} (h : OSat F H μ w i o) (hE : Ext H μ H' μ') (hμ : μ' i = μ i)
  (hk : ∀ b, b < w.heap.size → blk (μ i) = some b → w'.heap[b]? = w.heap[b]?) : OSat F H' μ' w' i o := by
 cases o with
 | vr cs =>
  obtain ⟨b, c, T, h1, h2, h3⟩ := h
  have hb : b < w.heap.size := (QxH.1 h2).1
  exact ⟨b, c, T, hμ.trans h1, by rw [hk b hb (by rw [h1]; rfl)]; exact h2, h3.mono (Mem.le_refl F) hE⟩
 | arr e es n g =>
  obtain ⟨xs, h1, h2, h3, h4⟩ := h
  refine ⟨xs, ?_, h2, fun k hk' j hj => ?_, by rw [hμ]; exact h4.row h1 hk⟩
  ·rw [hμ]
   refine ⟨h1.1, ?_⟩
   rcases h1.2 with h | ⟨b, cap, cur, q1, q2, q3, rest⟩
   ·exact .inl h
   ·have hb : b < w.heap.size := (QxH.1 q3).1
    exact .inr ⟨b, cap, cur, q1, q2, by rw [hk b hb (by rw [q1]; rfl)]; exact q3, rest⟩
  ·obtain ⟨v, v1, v2⟩ := h3 k hk' j hj
   exact ⟨v, v1, RepC.mono (Mem.le_refl F) hE _ _ v2⟩
 | dead => trivial
 | mp sh z va ks val =>
  obtain ⟨b, es, ck, h1, h2, h3⟩ := h
  have hb : b < w.heap.size := (QxH.1 h2).1
  exact ⟨b, es, ck, hμ.trans h1, by rw [hk b hb (by rw [h1]; rfl)]; exact h2, h3⟩
theorem HSat.step (hw : HSat K F H μ w) (id : Nat) (o' : O) (v' : Value) (hid : getL H' id = some o')
  (hoth : ∀ i, i ≠ id → getL H' i = getL H i) (hE : Ext H μ H' (upd μ id v')) {row : Option Nat} (hg : w.grownBy w' row) (hrow : ∀ k, row = some k → QS H μ id k)
  (hv : ∀ b, blk v' = some b → QS H μ id b ∨ w.heap.size ≤ b) (ho : OSat F H' (upd μ id v') w' id o') : HSat K F H' (upd μ id v') w' := by
 have keep : ∀ b o, w.heap[b]? = some o → row ≠ some b → w'.heap[b]? = some o := by
  intro b o hb hr
  rw [hg.block b (QxH.1 hb).1 (fun e => hr e.symm)]
  exact hb
 have own : ∀ i b, QS H' (upd μ id v') i b → (i = id ∧ (QS H μ id b ∨ w.heap.size ≤ b)) ∨ (i ≠ id ∧ QS H μ i b) := by
  intro i b ⟨⟨o, o1, o2⟩, hb⟩
  by_cases e : i = id
  ·subst e
   left
   refine ⟨rfl, hv b ?_⟩
   simpa [upd] using hb
  ·right
   rw [hoth i e] at o1
   refine ⟨e, ⟨o, o1, o2⟩, ?_⟩
   simpa [upd, e] using hb
 have lt : ∀ i b, QS H μ i b → b < w.heap.size := by
  intro i b ⟨⟨o, o1, o2⟩, hb⟩
  have := hw.ob i o o1
  cases o with
  | vr cs =>
   obtain ⟨b', c, T, h1, h2, _⟩ := this
   rw [h1] at hb
   cases hb
   exact (QxH.1 h2).1
  | arr e es n g =>
   obtain ⟨xs, h1, _, _⟩ := this
   rcases h1.2 with ⟨q, _⟩ | ⟨g', cap, cur, q, _, q3, _⟩
   ·rw [q] at hb; cases hb
   ·rw [q] at hb; cases hb
    exact (QxH.1 q3).1
  | dead => exact absurd rfl o2
  | mp sh z va ks val =>
   obtain ⟨b', es, ck, h1, h2, _⟩ := this
   rw [h1] at hb
   cases hb
   exact (QxH.1 h2).1
 refine ⟨hg.os.trans hw.os, hg.tape.trans hw.tape, hg.output.trans hw.output, fun b o hb => ?_, fun b o hb => ?_, fun i o hi => ?_, fun i b hb => ?_, fun i j b hi hj => ?_, hw.dj⟩
 ·refine keep b o (hw.fr b o hb) (fun e => ?_)
  have := (hw.sp id b (hrow b e)).1
  rw [this] at hb; cases hb
 ·refine keep b o (hw.kp b o hb) (fun e => ?_)
  have := (hw.sp id b (hrow b e)).2
  rw [this] at hb; cases hb
 ·by_cases e : i = id
  ·subst e
   rw [hid] at hi
   cases hi
   exact ho
  ·have hi' := hi
   rw [hoth i e] at hi'
   by_cases hd : o = .dead
   ·subst hd; trivial
   ·refine (hw.ob i o hi').other hE (by simp [upd, e]) (fun b hb hblk => hg.block b hb (fun q => ?_))
    exact e (hw.ij i id b ⟨⟨o, hi', hd⟩, hblk⟩ (hrow b q.symm))
 ·rcases own i b hb with ⟨_, h | h⟩ | ⟨_, h⟩
  ·exact hw.sp id b h
  ·refine ⟨?_, ?_⟩
   ·cases hf : F b with
    | none => rfl
    | some o => have := (QxH.1 (hw.fr b o hf)).1; omega
   ·cases hf : K.mem b with
    | none => rfl
    | some o => have := (QxH.1 (hw.kp b o hf)).1; omega
  ·exact hw.sp i b h
 ·rcases own i b hi with ⟨ei, h | h⟩ | ⟨ei, h⟩ <;> rcases own j b hj with ⟨ej, k | k⟩ | ⟨ej, k⟩
  ·rw [ei, ej]
  ·rw [ei, ej]
  ·rw [ei]; exact (hw.ij id j b h k)
  ·rw [ei, ej]
  ·rw [ei, ej]
  ·have := lt j b k; omega
  ·rw [ej]; exact (hw.ij i id b h k)
  ·have := lt i b h; omega
  ·exact hw.ij i j b h k
theorem Qad (l : List α) (x : α) (i : Nat) (h : i ≠ l.length) : getL (l ++ [x]) i = getL l i := by
 rw [Qc, Qc]
 by_cases hi : i < l.length
 ·rw [QxS hi]
 ·rw [QxY om, QyV (by omega : l.length ≤ i)]
  exact QyV (by simp; omega)
theorem QW (l : List α) (x : α) : getL (l ++ [x]) l.length = some x := by
 rw [Qc]; simp
theorem Qt {l : List α} {x : α} (h : getL l i = some x) : i < l.length := by
 rw [Qc] at h; exact (QxU.1 h).1
theorem Ext.push (H : List O) (μ : Nat → Value) (o : O) (v : Value) : Ext H μ (H ++ [o]) (upd μ H.length v) := by
 refine ⟨fun id cs h => ?_, fun id e es n g h => ?_, fun id sh z va ks val h => ?_⟩
 ·have := Qt h
  exact ⟨⟨cs, by rw [Qad _ _ _ om]; exact h⟩, by simp [upd]; omega⟩
 ·have := Qt h
  exact ⟨n, g, by rw [Qad _ _ _ om]; exact h, QxB _, fun _ => by simp [upd]; omega⟩
 ·have := Qt h
  exact ⟨⟨ks, val, by rw [Qad _ _ _ om]; exact h⟩, by simp [upd]; omega⟩
theorem HSat.push {K : Keep} {F : Mem} {H : List O} {μ : Nat → Value} {w w' : World} (hw : HSat K F H μ w) (o : O) (v : Value) (hg : w.grownBy w' none)
  (hv : ∀ b, blk v = some b → w.heap.size ≤ b) (ho : OSat F (H ++ [o]) (upd μ H.length v) w' H.length o) : HSat K F (H ++ [o]) (upd μ H.length v) w' :=
 hw.step H.length o v (QW H o) (fun i hi => Qad H o i hi) (Ext.push H μ o v) hg (fun k e => by cases e) (fun b hb => .inr (hv b hb)) ho
theorem Qaz {id : Nat} {o' : O} (h : setL H id o' = some H') : getL H' id = some o' ∧ ∀ i, i ≠ id → getL H' i = getL H i := by
 obtain ⟨h1, h2⟩ := Qkb _ _ _ _ h
 subst h2
 refine ⟨by rw [Qc]; simp [h1], fun i hi => ?_⟩
 rw [Qc, Qc, Qym (QyL hi)]
theorem Qy (μ : Nat → Value) (id : Nat) : upd μ id (μ id) = μ := by
 funext i; by_cases e : i = id <;> simp [upd, e]
theorem QkF (hw : HSat K F H μ w) (t : TypeId) (v : Value) {cs : List C} (hl : RepL F H μ cs v.cells) :
  ∃ r w' v', (do pure (Value.pointer (some (← newVar t v))) : Sem Value).run P w = .ok r w' ∧ HSat K F (H ++ [.vr cs]) (upd μ H.length v') w' ∧ Ext H μ (H ++ [.vr cs]) (upd μ H.length v') ∧
   RepC F (H ++ [.vr cs]) (upd μ H.length v') (.ptr H.length 0) r := by
 refine ⟨.pointer (some ⟨w.heap.size, 0, none⟩), w.alloc (.cells v.cells t), .pointer (some ⟨w.heap.size, 0, none⟩), ?_, ?_, Ext.push _ _ _ _, ?_⟩
 ·simp [newVar, newRow, newObj, Sem.run]
 ·refine hw.push _ _ (World.grownBy_alloc w _ none) (fun b hb => by cases hb; exact QxB _) ?_
  exact ⟨w.heap.size, v.cells, t, by simp [upd], heap_alloc_new w _, hl.mono (Mem.le_refl F) (Ext.push _ _ _ _)⟩
 ·exact ⟨⟨cs, QW _ _⟩, w.heap.size, by simp [upd], rfl⟩
def updG (g : Nat → Nat → C) (k j : Nat) (ys : List C) : Nat → Nat → C := fun i l =>
 if i = k ∧ j ≤ l ∧ l < j + ys.length then lget ys (l - j) else g i l
def appG (g : Nat → Nat → C) (n : Nat) (g' : Nat → Nat → C) : Nat → Nat → C := fun i j => if i < n then g i j else g' (i - n) j
def Qd6 (g : Nat → Nat → C) (m : Nat) (g' : Nat → Nat → C) : Nat → Nat → C := fun i j => if i < m then g' i j else g i j
def Qbx (xs : List C) : Nat → Nat → C := fun _ j => lget xs j
def QaE (es : Nat) (xs : List C) : Nat → Nat → C := fun i j => lget xs (i * es + j)
def Qen (H : List O) (p : C) (ys : List C) : Option (List Prop × List O) :=
 match p with
 | .ptr id off => match getL H id with
  | some (.vr cs) => match splice cs off ys with
   | some cs' => match setL H id (.vr cs') with
    | some H' => some ([], H')
    | none => none
   | none => none
  | _ => none
 | .ep id k j tot => match getL H id with
  | some (.arr e es n g) => match setL H id (.arr e es n (updG g k j ys)) with
   | some H' => some ([tot = n, j + ys.length ≤ es], H')
   | none => none
  | _ => none
 | _ => none
theorem Qek (h : ∀ id o, getL H id = some o → match o with
  | .vr _ => ∃ cs', getL H' id = some (.vr cs')
  | .arr e es n _ => ∃ g', getL H' id = some (.arr e es n g')
  | .dead => True
  | .mp sh z va _ _ => ∃ ks' val', getL H' id = some (.mp sh z va ks' val')) : Ext H μ H' μ :=
 ⟨fun id _ hc => ⟨h id _ hc, rfl⟩, fun id _ _ n _ hc => let ⟨g', hg⟩ := h id _ hc; ⟨n, g', hg, QxB _, fun _ => rfl⟩, fun id _ _ _ _ _ hc => ⟨h id _ hc, rfl⟩⟩
theorem Qcg (w : World) (g : Nat) (cs : Array Value) : w.grownBy (w.setRow g cs) (some g) :=
 ⟨rfl, rfl, rfl, by simp, fun k _ hk => setRow_other w g k _ (fun e => hk (by rw [e]))⟩
theorem Qel (l vs : List α) (o : Nat) (h : o + vs.length ≤ l.length) (j : Nat) :
  (l.take o ++ vs ++ l.drop (o + vs.length))[j]? = if o ≤ j ∧ j < o + vs.length then vs[j - o]? else l[j]? := by
 simp only [QyH, List.getElem?_append, QxO, Qye, QyE]
 have hm : min o l.length = o := by omega
 rw [hm]
 by_cases c1 : j < o
 ·rw [Qxt c1, Qxt c1, Qxu om]
 ·rw [Qxu c1]
  by_cases c2 : j - o < vs.length
  ·rw [Qxt c2, Qxt om]
  ·rw [Qxu c2, Qxu om]
   congr 1; omega
theorem Qe1 {i : TI} (ht : TIok P t i) (hsz : v.cells.size = i.size) (h1 : ∀ x ∈ v.cells.toList, x.oneCell' = true) {g o : Nat} {cur : Array Value} {T : TypeId} 
  (hg : w.heap[g]? = some (.cells cur T (0, 0))) (hfit : o + v.cells.size ≤ cur.size) :
  (Instr.storeAt t (.pointer (some ⟨g, o, none⟩)) v).run P w = .ok () (w.setRow g (cur.toList.take o ++ v.cells.toList ++ cur.toList.drop (o + v.cells.size)).toArray) := by
 have hs := Qbb ht w
 have := run_storeCells_at P g o T v.cells.toList 0 cur w hg (by simpa using hfit) h1
 simp only [Instr.storeAt, Instr.sureAddr]
 show (do let a ← (pure (⟨g, o, none⟩ : Addr) : Sem Addr); storeVar t a v : Sem Unit).run P w = _
 rw [Qg (show (pure (⟨g, o, none⟩ : Addr) : Sem Addr).run P w = .ok _ w from rfl)]
 unfold storeVar
 rw [Qg hs]
 simp only [hsz, ne_eq, not_true, if_false]
 simpa [hsz] using this
theorem Qrr (hw : HSat K F H μ w) {i : TI} (ht : TIok P t i) {p : C} {pv : Value} {ys : List C} 
  (hp : RepC F H μ p pv) (hy : RepL F H μ ys v.cells) (hl : ys.length = i.size) (h : Qen H p ys = some (ns, H')) (hn : ∀ q ∈ ns, q) :
  ∃ w', (Instr.storeAt t pv v).run P w = .ok () w' ∧ HSat K F H' μ w' ∧ Ext H μ H' μ := by
 have hsz : v.cells.size = i.size := by rw [hy.1]; exact hl
 have h1 : ∀ x ∈ v.cells.toList, x.oneCell' = true := by
  intro x hx
  obtain ⟨j, hj, hjx⟩ := List.mem_iff_getElem.1 hx
  have hj' : j < ys.length := by rw [← hy.1]; simpa using hj
  obtain ⟨u, u1, u2⟩ := hy.2 j ys[j] (by rw [Qc]; simp [hj'])
  have : u = x := by
   rw [← Qyt] at u1
   rw [Qyl hj] at u1
   cases u1
   exact hjx
  subst this
  exact RepC.one _ _ u2
 cases p with
 | ptr id off =>
  obtain ⟨⟨cs, g1⟩, b, g2, rfl⟩ := hp
  simp only [Qen, g1] at h
  cases hs : splice cs off ys with
  | none => simp [hs] at h
  | some cs' =>
   cases hset : setL H id (.vr cs') with
   | none => simp [hs, hset] at h
   | some H'' =>
    simp only [hs, hset, Qxv, QxI] at h
    obtain ⟨_, rfl⟩ := h
    obtain ⟨s1, s2, s3⟩ := QbL _ _ _ _ hs
    obtain ⟨e1, e2⟩ := Qaz hset
    obtain ⟨b', c, T, k1, k2, k3⟩ := hw.ob id _ g1
    rw [g2] at k1
    cases k1
    have hfit : off + v.cells.size ≤ c.size := by rw [hsz, ← hl, k3.1]; exact s2
    have hE : Ext H μ H'' μ := Qek (fun id' o ho => by
     by_cases e : id' = id
     ·subst e
      rw [g1] at ho
      cases ho
      exact ⟨cs', e1⟩
     ·rw [← e2 id' e] at ho
      cases o with
      | vr c' => exact ⟨c', ho⟩
      | arr e es n g => exact ⟨g, ho⟩
      | dead => trivial
      | mp sh z va ks val => exact ⟨ks, val, ho⟩)
    refine ⟨_, Qe1 (P := P) ht hsz h1 k2 hfit, ?_, hE⟩
    have hE' := hE
    rw [← Qy μ id] at hE' ⊢
    have := hw.step id (.vr cs') (μ id) (w' := w.setRow b (c.toList.take off ++ v.cells.toList ++ c.toList.drop (off + v.cells.size)).toArray) e1 e2 (by rw [Qy]; exact hE) (Qcg w b _)
     (fun k e => by cases e; exact ⟨⟨_, g1, by simp⟩, by rw [g2]; rfl⟩) (fun k e => .inl ⟨⟨_, g1, by simp⟩, e⟩) ?_
    ·simpa [Qy] using this
    ·refine ⟨b, _, T, by simp [upd, g2], setRow_heap w b c _ T (0, 0) k2, ?_, fun j x hx => ?_⟩
     ·have := k3.1
      simp only [QyI, QxL, QxO, Qyn, Qx7]
      omega
     ·rw [s3 j] at hx
      have hm := Qel c.toList v.cells.toList off (by simpa using hfit) j
      simp only [Qx7] at hm
      simp only [QyU, hm]
      rw [Qy]
      by_cases cc : off ≤ j ∧ j < off + ys.length
      ·rw [Qxt cc] at hx
       rw [Qxt om]
       obtain ⟨u, u1, u2⟩ := hy.2 _ x hx
       exact ⟨u, by simpa using u1, RepC.mono (Mem.le_refl F) hE _ _ u2⟩
      ·rw [Qxu cc] at hx
       rw [Qxu om]
       obtain ⟨u, u1, u2⟩ := k3.2 _ x hx
       exact ⟨u, by simpa using u1, RepC.mono (Mem.le_refl F) hE _ _ u2⟩
 | ep id k j tot =>
  obtain ⟨_, e, es, n, g, g1, g2, g3⟩ := hp
  simp only [Qen, g1] at h
  cases hset : setL H id (.arr e es n (updG g k j ys)) with
  | none => simp [hset] at h
  | some H'' =>
   simp only [hset, Qxv, QxI] at h
   obtain ⟨rfl, rfl⟩ := h
   obtain ⟨e1, e2⟩ := Qaz hset
   have hq : tot = n := hn _ (by simp)
   have hes : j + ys.length ≤ es := hn _ (by simp)
   obtain ⟨b, cap, m1, m2, rfl⟩ := g3 hq
   obtain ⟨xs, o1, o2, o3, o4⟩ := hw.ob id _ g1
   rcases o1.2 with ⟨q1, _⟩ | ⟨b', cap', cur, q1, q2, q3, q4, q5, q6, q7⟩
   ·rw [m1] at q1; simp at q1
   ·rw [m1] at q1
    simp only [Value.slice.injEq, Qxv, Addr.mk.injEq, and_true, true_and] at q1
    obtain ⟨rfl, rfl⟩ := q1
    have hE : Ext H μ H'' μ := Qek (fun id' o ho => by
     by_cases ee : id' = id
     ·subst ee
      rw [g1] at ho
      cases ho
      exact ⟨_, e1⟩
     ·rw [← e2 id' ee] at ho
      cases o with
      | vr c' => exact ⟨c', ho⟩
      | arr e es n g => exact ⟨g, ho⟩
      | dead => trivial
      | mp sh z va ks val => exact ⟨ks, val, ho⟩)
    have hkn : k * es + es ≤ n * es := by rw [← Qyu]; exact QxF es m2
    have hnc : n * es ≤ cap * es := QxF es q4
    have hfit : (k * es + j) + v.cells.size ≤ cur.size := by rw [hsz, ← hl, q6]; omega
    refine ⟨_, Qe1 (P := P) ht hsz h1 q3 hfit, ?_, hE⟩
    have := hw.step id (.arr e es n (updG g k j ys)) (μ id) (w' := w.setRow b (cur.toList.take (k * es + j) ++ v.cells.toList ++ cur.toList.drop (k * es + j + v.cells.size)).toArray) e1 e2 (by rw [Qy]; exact hE) (Qcg w b _)
     (fun k' ee => by cases ee; exact ⟨⟨_, g1, by simp⟩, by rw [m1]; rfl⟩) (fun k' ee => .inl ⟨⟨_, g1, by simp⟩, ee⟩) ?_
    ·simpa [Qy] using this
    ·have hm := fun q => Qel cur.toList v.cells.toList (k * es + j) (by simpa using hfit) q
     simp only [Qx7] at hm
     refine ⟨((cur.toList.take (k * es + j) ++ v.cells.toList ++ cur.toList.drop (k * es + j + v.cells.size))).take (n * es), ⟨?_, .inr ⟨b, cap, _, by simp [upd, m1], Qxx _, setRow_heap w b cur _ e (0, 0) q3, q4, q5, ?_, by simp⟩⟩, o2, fun i' hi' l hl' => ?_, by rw [Qy]; exact Sp.of (b := b) (by rw [m1]; rfl) (setRow_heap w b cur _ e (0, 0) q3) (by simpa using QfB (o := k * es + j) (k := k * es + j + v.cells.size) (o4 b cur e (0, 0) (by rw [m1]; rfl) q3) h1)⟩
     ·have h0 : (cur.toList.take (k * es + j) ++ v.cells.toList ++ cur.toList.drop (k * es + j + v.cells.size)).length = cur.size := by
       simp only [QxL, QxO, Qyn, Qx7]; omega
      rw [QxO, h0, q6]; omega
     ·simp only [QyI, QxL, QxO, Qyn, Qx7]
      omega
     ·rw [Qy]
      have hi2 : i' * es + es ≤ n * es := by rw [← Qyu]; exact QxF es hi'
      rw [Qye, Qxt om, hm]
      simp only [updG]
      have hys := hy.1
      by_cases cc : i' = k ∧ j ≤ l ∧ l < j + ys.length
      ·obtain ⟨rfl, c2, c3⟩ := cc
       rw [Qxt om, Qxt ⟨rfl, c2, c3⟩]
       have hlt : l - j < ys.length := by omega
       obtain ⟨u, u1, u2⟩ := hy.2 (l - j) ys[l - j] (by rw [Qc]; simp [hlt])
       refine ⟨u, ?_, ?_⟩
       ·rw [show i' * es + l - (i' * es + j) = l - j by omega]; simpa using u1
       ·simp only [lget, Qc]
        rw [Qyl hlt]
        exact RepC.mono (Mem.le_refl F) hE _ _ u2
      ·rw [Qxu cc]
       have hne : ¬ (k * es + j ≤ i' * es + l ∧ i' * es + l < k * es + j + v.cells.size) := by
        intro ⟨a1, a2⟩
        rw [hsz, ← hl] at a2
        rcases Nat.lt_trichotomy i' k with c | c | c
        ·have : i' * es + es ≤ k * es := by rw [← Qyu]; exact QxF es c
         omega
        ·subst c; exact cc ⟨rfl, om, om⟩
        ·have : k * es + es ≤ i' * es := by rw [← Qyu]; exact QxF es c
         omega
       rw [Qxu hne]
       obtain ⟨u, u1, u2⟩ := o3 i' hi' l hl'
       refine ⟨u, ?_, RepC.mono (Mem.le_refl F) hE _ _ u2⟩
       rw [← q7, Qye, Qxt om] at u1
       exact u1
 | _ => simp [Qen] at h
end Go.Am
end
