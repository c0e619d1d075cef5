/- Contracts, lemmas; no condition. -/
import Derived.Test.YtjjlblnbeggejaaGreatP04
set_option linter.all false
section
namespace Go.Am
variable {es t e ty len : Nat} {F : Mem} {H H' : List O} {μ : Nat → Value} {P : Program} {K : Keep} {w : World} {te : TI} {c : C} {v : Value} {ns : List Prop}
def Qbt (e : Nat) (te : TI) (H : List O) (l c : Int) (x : Bool) : List Prop × C × List O :=
 ([0 ≤ l, l ≤ c, c * te.bytes ≤ 140737488355328, c ≤ 9223372036854775807, x = true → l = c], .sl H.length te.size l.toNat l.toNat x, H ++ [.arr e te.size l.toNat (Qbx (QN te))])
theorem QhR (i j : Nat) (hj : j < es) : (i * es + j) % es = j := by
 rw [Nat.add_comm, Nat.mul_comm, Nat.add_mul_mod_self_left]; exact Nat.mod_eq_of_lt hj
theorem Qis {xs : List C} {cs : Array Value} (h : RepL F H μ xs cs) : ∀ u ∈ cs.toList, u.oneCell' = true := by
 intro u hu
 obtain ⟨j, hj, rfl⟩ := QxP hu
 have hj' : j < xs.length := by rw [← h.1]; simpa using hj
 obtain ⟨v, v1, v2⟩ := h.2 j xs[j] (by rw [Qc]; simp [hj'])
 have : v = cs.toList[j] := by
  rw [← Qyt, Qyl hj] at v1
  exact (Qyv v1).symm
 rw [← this]
 exact RepC.one _ _ v2
theorem QsI {zs : Array Value} {n : Nat} (hp : 0 < zs.size ∨ n = 0) (h : ∀ u ∈ zs.toList, u.oneCell' = true) : ∀ u ∈ (madeCells zs n).toList, u.oneCell' = true := by
 intro u hu
 simp only [madeCells, Array.toList_map, Qyj, Array.toList_range, List.mem_range] at hu
 obtain ⟨k, hk, rfl⟩ := hu
 have hp : 0 < zs.size := hp.resolve_right om
 have hm := Nat.mod_lt k hp
 rw [getElem!_pos zs (k % zs.size) hm]
 exact h _ (Qy0 hm)
theorem QmV (hw : HSat K F H μ w) (hu : P.underlying t = some (.slice e)) (hte : TIok P e te) (hzl : te.zero.length = te.size)
  {l c : Int} {xq : Bool} {kl kc : IntKind} (hn : ∀ q ∈ (Qbt e te H l c xq).1, q) :
  ∃ r w' μ', (Instr.makeSlice t (.int kl l) (.int kc c)).run P w = .ok r w' ∧ HSat K F (Qbt e te H l c xq).2.2 μ' w' ∧ Ext H μ (Qbt e te H l c xq).2.2 μ' ∧ RepC F (Qbt e te H l c xq).2.2 μ' (Qbt e te H l c xq).2.1 r := by
 have c0 : 0 ≤ l := hn _ (by simp [Qbt])
 have c1 : l ≤ c := hn _ (by simp [Qbt])
 have c2 : c * te.bytes ≤ 140737488355328 := hn _ (by simp [Qbt])
 have c3 : c ≤ 9223372036854775807 := hn _ (by simp [Qbt])
 have c4 : xq = true → l = c := hn (xq = true → l = c) (by simp only [Qbt, Qyf]; simp)
 obtain ⟨z, _, z2, x, x1, x2⟩ := QcI (P := P) (F := F) (H := H) (μ := μ) hte w
 obtain ⟨x', i1, i2, i3, _⟩ := hte.info
 rw [x1] at i1
 cases i1
 have hzs : z.cells.size = te.size := by rw [z2.1]; simp [QN, hzl]
 have run := run_make (P := P) w t e x z hu x1 x2 kl kc l c c0 c1 (by rw [i3]; rw [Int.mul_comm]; omega) c3
 have hE := Ext.push H μ (.arr e te.size l.toNat (Qbx (QN te))) (.slice (some ⟨w.heap.size, 0, none⟩) l.toNat c.toNat)
 refine ⟨_, _, upd μ H.length (.slice (some ⟨w.heap.size, 0, none⟩) l.toNat c.toNat), run, hw.push _ _ (World.grownBy_alloc w _ none) (fun b hb => by cases hb; exact QxB _) ?_, hE, rfl, e, l.toNat, _, QW _ _, QxB _, QxB _, fun _ => ⟨_, _, by simp [upd], rfl, fun e => by rw [c4 e]⟩⟩
 have hlc : l.toNat ≤ c.toNat := by omega
 have hmul : l.toNat * te.size ≤ c.toNat * te.size := QxF _ hlc
 have hmo : ∀ u ∈ (madeCells z.cells (c.toNat * x.size)).toList, u.oneCell' = true := by
  refine QsI ?_ (Qis z2)
  rw [hzs, i2]
  rcases Qx3 te.size with q | q
  ·exact .inr (by rw [q]; rfl)
  ·exact .inl q
 refine ⟨(madeCells z.cells (c.toNat * x.size)).toList.take (l.toNat * te.size), ⟨?_, .inr ⟨w.heap.size, c.toNat, madeCells z.cells (c.toNat * x.size), by simp [upd], Qxx _, heap_alloc_new w _, hlc, by unfold maxLen; omega, by rw [size_madeCells, i2], rfl⟩⟩, by unfold maxLen; omega, fun i hi j hj => ?_, Sp.of (b := w.heap.size) (by simp [upd, blk]) (heap_alloc_new w _) hmo⟩
 ·rw [QxO, Qx7, size_madeCells, i2]; omega
 ·have hlt : i * te.size + te.size ≤ l.toNat * te.size := by rw [← Qyu]; exact QxF _ hi
  have hj' : j < (QN te).length := by simp [QN, hzl, hj]
  obtain ⟨u, u1, u2⟩ := z2.2 j (QN te)[j] (by rw [Qc]; simp [hj'])
  refine ⟨u, ?_, ?_⟩
  ·rw [Qye, Qxt om]
   simp only [madeCells, i2]
   have hq : i * te.size + j < c.toNat * te.size := by omega
   rw [Qyt, Array.getElem?_map, Array.getElem?_range, Qxt hq]
   simp only [Qyd, hzs, QhR i j hj]
   have hjz : j < z.cells.size := by omega
   rw [getElem!_pos z.cells j hjz]
   rw [Qx9 hjz] at u1
   exact u1
  ·simp only [Qbx, lget, Qc]
   rw [Qyl hj']
   exact RepC.mono (Mem.le_refl F) hE _ _ u2
def Qqd (te : TI) (H : List O) (x y : C) : Option (List Prop × C × List O) :=
 match srcK te.size H y with
 | some (ns, m, g2) => match x with
  | .sl id es len tot _ => match Nat.beq es te.size with
   | true => match getL H id with
    | some (.arr e _ n g) => match setL H id (.arr e te.size n (Qd6 g (min m len) g2)) with
     | some H' => some (ns ++ [tot = n], .int .i64 (min m len : Nat), H')
     | none => none
    | _ => none
   | false => none
  | _ => none
 | none => none
theorem Qs0 (hw : HSat K F H μ w) {t2 : Nat} (hu : P.underlying t = some (.slice e)) (hte : TIok P e te)
  {x y : C} {u : Value} (hx : RepC F H μ x u) (hy : RepC F H μ y v) (h : Qqd te H x y = some (ns, c, H')) (hn : ∀ q ∈ ns, q) :
  ∃ r w', (Builtin.copy_ #[t, t2] ty #[u, v]).run P w = .ok r w' ∧ HSat K F H' μ w' ∧ Ext H μ H' μ ∧ RepC F H' μ c r := by
 unfold Qqd at h
 cases hsrc : srcK te.size H y with
 | none => simp [hsrc] at h
 | some p =>
  obtain ⟨ns', m, g2⟩ := p
  simp only [hsrc] at h
  cases x with
  | sl id es len tot xq =>
   simp only at h
   cases hb : Nat.beq es te.size with
   | false => simp [hb] at h
   | true =>
    have : es = te.size := QxD hb
    subst this
    obtain ⟨_, e', n, g, h1, h2, h3, h4⟩ := hx
    simp only [hb, h1] at h
    cases hset : setL H id (.arr e' te.size n (Qd6 g (min m len) g2)) with
    | none => simp [hset] at h
    | some H'' =>
     simp only [hset, Qxv, QxI] at h
     obtain ⟨rfl, rfl, rfl⟩ := h
     have c1 : tot = n := Qb hn _ (by simp)
     obtain ⟨news, hs⟩ := Qfl hw hy hsrc (Qd hn)
     obtain ⟨a, cap, m1, rfl, _⟩ := h4 c1
     obtain ⟨e1, e2⟩ := Qaz hset
     obtain ⟨xs, o1, o2, o3, o4⟩ := hw.ob id _ h1
     have hE : Ext H μ H'' μ := Qek (fun id' o ho => by
      by_cases ee : id' = id
      ·subst ee
       rw [h1] at ho
       cases ho
       exact ⟨_, e1⟩
      ·rw [← e2 id' ee] at ho
       cases o with
       | vr c' => exact ⟨c', ho⟩
       | arr e es n g => exact ⟨g, ho⟩
       | dead => trivial
       | mp sh z va ks val => exact ⟨ks, val, ho⟩)
     have hf := hs.first P w (fun _ => rfl) (min m len) (Nat.min_le_left _ _)
     have hsz := Qbb hte w
     have hlen : (Builtin.lenOf v).run P w = .ok m w := by
      rcases hs.val with ⟨rfl, rfl⟩ | ⟨a, c, rfl, _⟩ <;> simp [Builtin.lenOf]
     have hmin : Nat.min m len = min m len := rfl
     have hcl : (news.take (min m len * te.size)).length = min m len * te.size := by
      rw [QxO, hs.len]; exact QyZ (QxF _ (Nat.min_le_left _ _))
     rcases o1.2 with ⟨q1, q2⟩ | ⟨b, cap', cur, q1, q2, q3, q4, q5, q6, q7⟩
     ·rw [m1] at q1
      simp only [Value.slice.injEq] at q1
      obtain ⟨rfl, _, rfl⟩ := q1
      have hl0 : len = 0 := by omega
      subst hl0
      refine ⟨goInt (min m 0 : Nat), w, ?_, ?_, hE, rfl⟩
      ·have hf0 := hs.first P w (fun _ => rfl) 0 (Qxx _)
       simp at hf0
       simp [Builtin.copy_, run_underlying hu, hlen, hsz, hf0]
      ·have := hw.step id _ (μ id) (w' := w) (row := none) e1 e2 (by rw [Qy]; exact hE) ⟨rfl, rfl, rfl, QxB _, fun _ _ _ => rfl⟩ (fun k hk => by cases hk) (fun k ee => .inl ⟨⟨_, h1, by simp⟩, ee⟩) (by
        rw [Qy]
        exact ⟨xs, o1, o2, fun i hi => by omega, o4⟩)
       simpa [Qy] using this
     ·rw [m1] at q1
      simp only [Value.slice.injEq, true_and] at q1
      obtain ⟨rfl, rfl⟩ := q1
      have hle : min m len * te.size ≤ n * te.size := QxF _ om
      have hnc : n * te.size ≤ cap * te.size := QxF _ q4
      have hfit : 0 + (news.take (min m len * te.size)).length ≤ cur.size := by rw [hcl, q6]; omega
      have hone : ∀ v ∈ news.take (min m len * te.size), v.oneCell' = true := fun v hv => hs.one v (Qy9 hv)
      have hst := run_storeCells_at P b 0 e' (news.take (min m len * te.size)) 0 cur w q3 (by simpa using hfit) hone
      refine ⟨goInt (min m len : Nat), w.setRow b (cur.toList.take 0 ++ news.take (min m len * te.size) ++ cur.toList.drop (0 + (news.take (min m len * te.size)).length)).toArray, ?_, ?_, hE, rfl⟩
      ·have hst' := hst
       simp only [Qzb] at hst'
       simp [Builtin.copy_, run_underlying hu, hlen, hsz, hmin, hf, hst']
      ·have := hw.step id (.arr e' te.size n (Qd6 g (min m len) g2)) (μ id) (w' := w.setRow b (cur.toList.take 0 ++ news.take (min m len * te.size) ++ cur.toList.drop (0 + (news.take (min m len * te.size)).length)).toArray) e1 e2 (by rw [Qy]; exact hE) (Qcg w b _)
        (fun k' ee => by cases ee; exact ⟨⟨_, h1, by simp⟩, by rw [m1]; rfl⟩) (fun k' ee => .inl ⟨⟨_, h1, by simp⟩, ee⟩) ?_
       ·simpa [Qy] using this
       ·have hm := fun q => Qel cur.toList (news.take (min m len * te.size)) 0 (by simpa using hfit) q
        refine ⟨(cur.toList.take 0 ++ news.take (min m len * te.size) ++ cur.toList.drop (0 + (news.take (min m len * te.size)).length)).take (n * te.size), ⟨?_, .inr ⟨b, cap, _, by simp [upd, m1], Qxx _, setRow_heap w b cur _ e' (0, 0) q3, q4, q5, ?_, by simp⟩⟩, o2, fun i hi j hj => ?_, by rw [Qy]; exact Sp.of (b := b) (by rw [m1]; rfl) (setRow_heap w b cur _ e' (0, 0) q3) (by simpa using QfB (l := cur.toList) (o := 0) (k := 0 + (news.take (min m len * te.size)).length) (o4 b cur e' (0, 0) (by rw [m1]; rfl) q3) hone)⟩
        ·rw [QxO]
         simp only [QxL, QxO, Qyn, Qx7] at hfit ⊢
         omega
        ·simp only [QyI, QxL, QxO, Qyn, Qx7] at hfit ⊢
         omega
        ·rw [Qy]
         have hi2 : i * te.size + te.size ≤ n * te.size := by rw [← Qyu]; exact QxF _ hi
         rw [Qye, Qxt om, hm]
         simp only [Qd6]
         by_cases cc : i < min m len
         ·have hi3 : i * te.size + te.size ≤ min m len * te.size := by rw [← Qyu]; exact QxF _ cc
          rw [Qxt (by rw [hcl]; omega), Qxt cc]
          obtain ⟨u, u1, u2⟩ := hs.rep i om j hj
          refine ⟨u, ?_, RepC.mono (Mem.le_refl F) hE _ _ u2⟩
          rw [Nat.sub_zero, Qye, Qxt om]
          exact u1
         ·have hi3 : min m len * te.size ≤ i * te.size := QxF _ om
          rw [Qxu (by rw [hcl]; omega), Qxu cc]
          obtain ⟨u, u1, u2⟩ := o3 i hi j hj
          refine ⟨u, ?_, RepC.mono (Mem.le_refl F) hE _ _ u2⟩
          rw [← q7, Qye, Qxt om] at u1
          exact u1
  | _ => simp at h
def Qbr (es : Nat) (ts : Ts) : List (Nat × Operand) → List C → Option (List C)
 | [], cells => some cells
 | (i, x) :: r, cells => match (bare (opnd ts x)).2.cells with
  | some ys => match Nat.beq ys.length es with
   | true => match splice cells (i * es) ys with
    | some cells' => Qbr es ts r cells'
    | none => none
   | false => none
  | none => none
def repL : Nat → List C → List C
 | 0, _ => []
 | n + 1, l => l ++ repL n l
def Qdg (e : Nat) (te : TI) (ts : Ts) (H : List O) (len : Nat) (parts : List (Nat × Operand)) : Option (C × List O) :=
 match Nat.ble (len * te.size) 1000 && Nat.ble len 1000 with
 | true => match Qbr te.size ts parts (repL len (QN te)) with
  | some cs => some (.sl H.length te.size len len true, H ++ [.arr e te.size len (QaE te.size cs)])
  | none => none
 | false => none
theorem QfY (l : List C) : ∀ n, (repL n l).length = n * l.length
 | 0 => by simp [repL]
 | n + 1 => by simp [repL, QfY l n, Qyu, Nat.add_comm]
theorem Qnl (l : List C) : ∀ (n q : Nat) (x : C), getL (repL n l) q = some x → 0 < l.length ∧ getL l (q % l.length) = some x
 | 0, q, x, h => by simp [repL, getL] at h
 | n + 1, q, x, h => by
  rw [repL, Qc] at h
  by_cases c : q < l.length
  ·rw [QxS c] at h
   exact ⟨om, by rw [Qc, Nat.mod_eq_of_lt c]; exact h⟩
  ·rw [QxY om, ← Qc] at h
   obtain ⟨h1, h2⟩ := Qnl l n _ x h
   refine ⟨h1, ?_⟩
   rw [Nat.mod_eq_sub_mod om]
   exact h2
theorem Qo7 (hw : HSat K F H μ w) {ts : Ts} {a : Act} (hT : TSat F H μ ts a.tmps) (hu : P.underlying t = some (.slice e)) (hte : TIok P e te)
  (hzl : te.zero.length = te.size) {parts : Array (Nat × Operand)} (h : Qdg e te ts H len parts.toList = some (c, H')) (hnp : ∀ q ∈ QaD ts parts.toList, q) :
  ∃ r w' μ', (Instr.buildSlice t len (parts.map fun (i, x) => (i, a.eval x))).run P w = .ok r w' ∧ HSat K F H' μ' w' ∧ Ext H μ H' μ' ∧ RepC F H' μ' c r := by
 unfold Qdg at h
 cases hb : Nat.ble (len * te.size) 1000 && Nat.ble len 1000 with
 | false => simp [hb] at h
 | true =>
  simp only [hb] at h
  rw [QxA] at hb
  have hle := QxJ hb.1
  have hle2 := QxJ hb.2
  cases hp : Qbr te.size ts parts.toList (repL len (QN te)) with
  | none => simp [hp] at h
  | some cs =>
   simp only [hp, Qxv, QxI] at h
   obtain ⟨rfl, rfl⟩ := h
   obtain ⟨z, z1, z2, x, x1, x2⟩ := QcI (P := P) (F := F) (H := H) (μ := μ) hte w
   have hzs : z.cells.size = te.size := by rw [z2.1]; simp [QN, hzl]
   have hzl' : (QN te).length = te.size := by simp [QN, hzl]
   have hsz := Qbb hte w
   let zero : Array Value := if len * te.size = 0 then #[] else z.cells
   let start : Array Value := (Array.range (len * te.size)).map (zero[· % zero.size]!)
   have hstart : RepL F H μ (repL len (QN te)) start := by
    refine ⟨by simp [start, QfY, hzl'], fun q y hq => ?_⟩
    have hlt := Qt hq
    rw [QfY, hzl'] at hlt
    obtain ⟨h1, h2⟩ := Qnl _ _ _ _ hq
    rw [hzl'] at h1 h2
    obtain ⟨u, u1, u2⟩ := z2.2 _ y h2
    refine ⟨u, ?_, u2⟩
    have hz0 : zero = z.cells := by simp only [zero]; rw [Qxu om]
    simp only [start, hz0, hzs]
    rw [Array.getElem?_map, Array.getElem?_range, Qxt hlt]
    simp only [Qyd]
    have hjz : q % te.size < z.cells.size := by rw [hzs]; exact Nat.mod_lt _ h1
    rw [getElem!_pos z.cells _ hjz]
    rw [Qx9 hjz] at u1
    exact u1
   have fill : ∀ (ps : List (Nat × Operand)) (cells r : List C) (vs : Array Value), (∀ q ∈ QaD ts ps, q) → Qbr te.size ts ps cells = some r → RepL F H μ cells vs →
     ∃ us, Instr.fill (fun i => some (i * te.size, te.size)) vs (ps.map fun x => (x.1, a.eval x.2)) = some us ∧ RepL F H μ r us := by
    intro ps
    induction ps with
    | nil => intro cells r vs _ h hl; simp only [Qbr, Qxv] at h; subst h; exact ⟨vs, rfl, hl⟩
    | cons p ps ih =>
     obtain ⟨i, x⟩ := p
     intro cells r vs hq h hl
     simp only [Qbr] at h
     cases h3 : (bare (opnd ts x)).2.cells with
     | none => simp [h3] at h
     | some ys =>
      cases h4 : Nat.beq ys.length te.size with
      | false => simp only [h3, h4] at h; cases h
      | true =>
       cases h5 : Am.splice cells (i * te.size) ys with
       | none => simp only [h3, h4, h5] at h; cases h
       | some cells' =>
        simp only [h3, h4, h5] at h
        have hys := Qdi (Qaq (Q9 hT x) (Prod.eta _).symm (fun q hq' => hq q (by simp only [QaD]; exact Qyc.2 (.inl hq')))) h3
        obtain ⟨us, u1, u2⟩ := ih cells' r _ (fun q hq' => hq q (by simp only [QaD]; exact Qyc.2 (.inr hq'))) h (hl.splice hys h5)
        have hsz' : (a.eval x).cells.size = te.size := by rw [hys.1]; exact QxD h4
        have hfit := (QbL _ _ _ _ h5).2.1
        refine ⟨us, ?_, u2⟩
        simp only [Qyz, Instr.fill]
        rw [Qxu]
        ·exact u1
        ·have q1 := hl.1
         have q2 := hys.1
         simp [hsz']
         omega
   obtain ⟨us, u1, u2⟩ := fill parts.toList _ cs start hnp hp hstart
   have hcl : cs.length = len * te.size := by
    have : ∀ (ps : List (Nat × Operand)) (cells r : List C), Qbr te.size ts ps cells = some r → r.length = cells.length := by
     intro ps
     induction ps with
     | nil => intro cells r h; simp only [Qbr, Qxv] at h; rw [h]
     | cons p ps ih =>
      obtain ⟨i, x⟩ := p
      intro cells r h
      simp only [Qbr] at h
      split at h
      ·split at h
       ·split at h
        ·rename_i h5
         rw [ih _ _ h, (QbL _ _ _ _ h5).1]
        ·cases h
       ·cases h
      ·cases h
    rw [this _ _ _ hp, QfY, hzl']
   have hE := Ext.push H μ (.arr e te.size len (QaE te.size cs)) (.slice (some ⟨w.heap.size, 0, none⟩) len len)
   have hmax : len ≤ maxLen := by
    unfold maxLen; omega
   refine ⟨.slice (some ⟨w.heap.size, 0, none⟩) len len, w.alloc (.cells us e), upd μ H.length (.slice (some ⟨w.heap.size, 0, none⟩) len len), ?_, hw.push _ _ (World.grownBy_alloc w _ none) (fun b hb => by cases hb; exact QxB _) ?_, hE, rfl, e, len, _, QW _ _, QxB _, QxB _, fun _ => ⟨_, _, by simp [upd], rfl, fun _ => rfl⟩⟩
   ·have hfill : Instr.fill (fun i => some (i * te.size, te.size)) ((Array.range (len * te.size)).map (zero[· % zero.size]!)) (parts.map fun (i, x) => (i, a.eval x)).toList = some us := by
     simpa using u1
    unfold Instr.buildSlice
    rw [Qg (run_underlying hu w)]
    simp only
    rw [Qg hsz]
    rw [Qxu om]
    by_cases c : len * te.size = 0
    ·have hz0 : zero = #[] := by simp only [zero, Qxt c]
     rw [hz0] at hfill
     simp only [Qxt c]
     rw [Qg (show (pure #[] : Sem (Array Value)).run P w = .ok _ w from rfl)]
     simp only [hfill]
     simp [newRow, newObj, Sem.run]
    ·have hz0 : zero = z.cells := by simp only [zero, Qxu c]
     rw [hz0] at hfill
     simp only [Qxu c]
     rw [Qg z1]
     rw [Qg (show (pure z.cells : Sem (Array Value)).run P w = .ok _ w from rfl)]
     simp only [hfill]
     simp [newRow, newObj, Sem.run]
   ·refine ⟨us.toList, ⟨by rw [Qx7, u2.1, hcl], .inr ⟨w.heap.size, len, us, by simp [upd], Qxx _, heap_alloc_new w _, QxB _, hmax, by rw [u2.1, hcl], ?_⟩⟩, hmax, fun i hi j hj => ?_, Sp.of (b := w.heap.size) (by simp [upd, blk]) (heap_alloc_new w _) (Qis u2)⟩
    ·rw [QyQ]; rw [Qx7, u2.1, hcl]; exact QxB _
    ·have hlt : i * te.size + te.size ≤ len * te.size := by rw [← Qyu]; exact QxF _ hi
     have hq : i * te.size + j < cs.length := by rw [hcl]; omega
     obtain ⟨u, v1, v2⟩ := u2.2 (i * te.size + j) cs[i * te.size + j] (by rw [Qc]; simp [hq])
     refine ⟨u, by simpa using v1, ?_⟩
     simp only [QaE, lget, Qc]
     rw [Qyl hq]
     exact RepC.mono (Mem.le_refl F) hE _ _ v2
def Qgi (g : Nat → Nat → C) (off len : Nat) (z : List C) : Nat → Nat → C := fun i j => if off ≤ i ∧ i < off + len then lget z j else g i j
def Qm2 (te : TI) (H : List O) (id es off len tot : Nat) : Option (List Prop × List O) :=
 match Nat.beq es te.size with
 | true => match getL H id with
  | some (.arr e _ n g) => match setL H id (.arr e te.size n (Qgi g off len (QN te))) with
   | some H' => some ([tot = n], H')
   | none => none
  | _ => none
 | false => none
theorem QqL (hw : HSat K F H μ w) (hu : P.underlying t = some (.slice e)) (hte : TIok P e te) (hzl : te.zero.length = te.size)
  {id off tot : Nat} (hx : RepS F H μ (.so id es off len tot) v) (h : Qm2 te H id es off len tot = some (ns, H')) (hn : ∀ q ∈ ns, q) :
  ∃ w', (Builtin.clear_ #[t] ty #[v]).run P w = .ok (.tuple #[]) w' ∧ HSat K F H' μ w' ∧ Ext H μ H' μ := by
 unfold Qm2 at h
 cases hb : Nat.beq es te.size with
 | false => simp [hb] at h
 | true =>
  have : es = te.size := QxD hb
  subst this
  obtain ⟨a, cap, rfl, h1, e', n, g, h2, h3, h4, h5⟩ := hx
  simp only [hb, h2] at h
  cases hset : setL H id (.arr e' te.size n (Qgi g off len (QN te))) with
  | none => simp [hset] at h
  | some H'' =>
   simp only [hset, Qxv, QxI] at h
   obtain ⟨rfl, rfl⟩ := h
   have c1 : tot = n := hn _ (by simp)
   obtain ⟨e1, e2⟩ := Qaz hset
   obtain ⟨xs, o1, o2, o3, o4⟩ := hw.ob id _ h2
   have hE : Ext H μ H'' μ := Qek (fun id' o ho => by
    by_cases ee : id' = id
    ·subst ee
     rw [h2] at ho
     cases ho
     exact ⟨_, e1⟩
    ·rw [← e2 id' ee] at ho
     cases o with
     | vr c' => exact ⟨c', ho⟩
     | arr e es n g => exact ⟨g, ho⟩
     | dead => trivial
     | mp sh z va ks val => exact ⟨ks, val, ho⟩)
   by_cases hl0 : len = 0
   ·subst hl0
    refine ⟨w, ?_, ?_, hE⟩
    ·cases a <;> simp [Builtin.clear_, run_underlying hu]
    ·have := hw.step id _ (μ id) (w' := w) (row := none) e1 e2 (by rw [Qy]; exact hE) ⟨rfl, rfl, rfl, QxB _, fun _ _ _ => rfl⟩ (fun k hk => by cases hk) (fun k ee => .inl ⟨⟨_, h2, by simp⟩, ee⟩) (by
      rw [Qy]
      refine ⟨xs, o1, o2, fun i hi j hj => ?_, o4⟩
      obtain ⟨u, u1, u2⟩ := o3 i hi j hj
      refine ⟨u, u1, ?_⟩
      simp only [Qgi]
      rw [Qxu om]
      exact RepC.mono (Mem.le_refl F) hE _ _ u2)
     simpa [Qy] using this
   ·obtain ⟨b, c, m1, rfl⟩ := (h5 c1).resolve_left hl0
    obtain ⟨z, z1, z2, -⟩ := QcI (P := P) (F := F) (H := H) (μ := μ) hte w
    have hzs : z.cells.size = te.size := by rw [z2.1]; simp [QN, hzl]
    rcases o1.2 with ⟨q1, q2⟩ | ⟨b', cap', cur, q1, q2, q3, q4, q5, q6, q7⟩
    ·rw [m1] at q1; cases q1
    ·rw [m1] at q1
     cases q1
     generalize hZ : (Builtin.zeroCells z.cells len).toList = zs
     have hzl' : zs.length = len * te.size := by rw [← hZ]; simp [Builtin.zeroCells, hzs]
     have hone : ∀ u ∈ zs, u.oneCell' = true := by rw [← hZ]; exact Qbq (Qis z2)
     have hln : (off + len) * te.size ≤ n * te.size := QxF _ om
     have hnc : n * te.size ≤ c * te.size := QxF _ q4
     have hsum : (off + len) * te.size = off * te.size + len * te.size := Qyh _ _ _
     have hfit : off * te.size + zs.length ≤ cur.size := by rw [hzl', q6]; omega
     have hst := run_storeCells_at P b (off * te.size) e' zs 0 cur w q3 (by simpa using hfit) hone
     simp only [Qzb] at hst
     refine ⟨w.setRow b (cur.toList.take (off * te.size) ++ zs ++ cur.toList.drop (off * te.size + zs.length)).toArray, ?_, ?_, hE⟩
     ·have hlen : len ≠ 0 := hl0
      unfold Builtin.clear_
      obtain ⟨m, rfl⟩ := Nat.exists_eq_succ_of_ne_zero hlen
      simp [run_underlying hu, z1, hZ, hst]
     ·have := hw.step id (.arr e' te.size n (Qgi g off len (QN te))) (μ id) (w' := w.setRow b (cur.toList.take (off * te.size) ++ zs ++ cur.toList.drop (off * te.size + zs.length)).toArray) e1 e2 (by rw [Qy]; exact hE) (Qcg w b _)
       (fun k' ee => by cases ee; exact ⟨⟨_, h2, by simp⟩, by rw [m1]; rfl⟩) (fun k' ee => .inl ⟨⟨_, h2, by simp⟩, ee⟩) ?_
      ·simpa [Qy] using this
      ·have hm := fun q => Qel cur.toList zs (off * te.size) (by simpa using hfit) q
       refine ⟨(cur.toList.take (off * te.size) ++ zs ++ cur.toList.drop (off * te.size + zs.length)).take (n * te.size), ⟨?_, .inr ⟨b, c, _, by simp [upd, m1], Qxx _, setRow_heap w b cur _ e' (0, 0) q3, q4, q5, ?_, by simp⟩⟩, o2, fun i hi j hj => ?_, by rw [Qy]; exact Sp.of (b := b) (by rw [m1]; rfl) (setRow_heap w b cur _ e' (0, 0) q3) (by simpa using QfB (l := cur.toList) (o := off * te.size) (k := off * te.size + zs.length) (o4 b cur e' (0, 0) (by rw [m1]; rfl) q3) hone)⟩
       ·rw [QxO]
        simp only [QxL, QxO, Qyn, Qx7] at hfit ⊢
        omega
       ·simp only [QyI, QxL, QxO, Qyn, Qx7] at hfit ⊢
        omega
       ·rw [Qy]
        have hi2 : i * te.size + te.size ≤ n * te.size := by rw [← Qyu]; exact QxF _ hi
        rw [Qye, Qxt om, hm]
        simp only [Qgi]
        by_cases cc : off ≤ i ∧ i < off + len
        ·have hi3 : off * te.size ≤ i * te.size := QxF _ cc.1
         have hi4 : i * te.size + te.size ≤ (off + len) * te.size := by rw [← Qyu]; exact QxF _ cc.2
         rw [Qxt (by rw [hzl']; omega), Qxt cc]
         have hj' : j < (QN te).length := by simp [QN, hzl, hj]
         obtain ⟨u, u1, u2⟩ := z2.2 j (QN te)[j] (by rw [Qc]; simp [hj'])
         refine ⟨u, ?_, ?_⟩
         ·rw [← hZ]
          obtain ⟨d, rfl⟩ : ∃ d, i = off + d := ⟨i - off, om⟩
          have he : (off + d) * te.size + j - off * te.size = d * te.size + j := by rw [Qyh]; omega
          have hd : d * te.size + te.size ≤ len * te.size := by rw [← Qyu]; exact QxF _ om
          rw [he]
          simp only [Builtin.zeroCells]
          rw [Qyt, Array.getElem?_map, Array.getElem?_range, Qxt (by rw [hzs]; omega)]
          simp only [Qyd, hzs, QhR d j hj]
          have hjz : j < z.cells.size := by omega
          rw [getElem!_pos z.cells j hjz]
          rw [Qx9 hjz] at u1
          exact u1
         ·simp only [lget, Qc]
          rw [Qyl hj']
          exact RepC.mono (Mem.le_refl F) hE _ _ u2
        ·rw [Qxu, Qxu cc]
         ·obtain ⟨u, u1, u2⟩ := o3 i hi j hj
          refine ⟨u, ?_, RepC.mono (Mem.le_refl F) hE _ _ u2⟩
          rw [← q7, Qye, Qxt om] at u1
          exact u1
         ·rw [hzl']
          rintro ⟨k1, k2⟩
          apply cc
          constructor
          ·rcases Nat.lt_or_ge i off with c' | c'
           ·have : i * te.size + te.size ≤ off * te.size := by rw [← Qyu]; exact QxF _ c'
            omega
           ·exact c'
          ·rcases Nat.lt_or_ge i (off + len) with c' | c'
           ·exact c'
           ·have : (off + len) * te.size ≤ i * te.size := QxF _ c'
            omega
def cutG (g : Nat → Nat → C) (len m : Nat) (g2 : Nat → Nat → C) : Nat → Nat → C := fun i j => if i < len then g i j else if i < len + m then g2 (i - len) j else g i j
def Qr4 (x : Bool) (len m n : Nat) : List Prop := match x with
 | true => [len + m ≤ n]
 | false => []
def cutK (md : Bool) (e : Nat) (te : TI) (H : List O) (x y : C) : Option (List Prop × C × List O) :=
 match srcK te.size H y with
 | some (ns, m, g2) => match x with
  | .sl id es len tot xq => match Nat.beq es te.size with
   | true => match getL H id with
    | some (.arr e' _ n g) => match Nat.beq e' e with
     | true => match md with
      | true => match xq with
       | true => some (ns ++ [tot = n, len = n, 1 ≤ m, n + m ≤ 9223372036854775807, (n + m) * te.bytes ≤ 140737488355328], .sl H.length te.size (n + m) (n + m) false, H ++ [.arr e te.size (n + m) (appG g n g2)])
       | false => none
      | false => match setL H id (.arr e te.size (max n (len + m)) (cutG g len m g2)) with
       | some H' => some (ns ++ (Qr4 xq len m n ++ [tot = n, len ≤ n, len + m ≤ 9223372036854775807, (len + m) * te.bytes ≤ 140737488355328]), .sl id te.size (len + m) (max n (len + m)) xq, H')
       | none => none
     | false => none
    | _ => none
   | false => none
  | _ => none
 | none => none
set_option maxHeartbeats 2000000 in
theorem QtK (hw : HSat K F H μ w) (hu : P.underlying t = some (.slice e)) (hte : TIok P e te) (hzl : te.zero.length = te.size) (hpos : 0 < te.size)
  {x y : C} {u : Value} (hx : RepC F H μ x u) (hy : RepC F H μ y v) {md : Bool} (h : cutK md e te H x y = some (ns, c, H')) (hn : ∀ q ∈ ns, q) :
  ∃ r w' μ', (Builtin.append_ #[t, t] ty #[u, v]).run P w = .ok r w' ∧ HSat K F H' μ' w' ∧ Ext H μ H' μ' ∧ RepC F H' μ' c r := by
 unfold cutK at h
 cases hsrc : srcK te.size H y with
 | none => simp [hsrc] at h
 | some p =>
  obtain ⟨ns', m, g2⟩ := p
  simp only [hsrc] at h
  obtain ⟨xi, z, i1, i2, i3, i4, i5⟩ := QqH hte
  have hzs : z.cells.size = te.size := by rw [i5, hzl]
  cases x with
  | sl id es len tot xq =>
   simp only at h
   cases hb : Nat.beq es te.size with
   | false => simp [hb] at h
   | true =>
    have : es = te.size := QxD hb
    subst this
    obtain ⟨_, e', n, g, h1, h2, h3, h4⟩ := hx
    simp only [hb, h1] at h
    cases hbe : Nat.beq e' e with
    | false => simp [hbe] at h
    | true =>
     have : e' = e := QxD hbe
     subst this
     cases md with
     | true =>
      cases xq with
      | false => simp [hbe] at h
      | true =>
       simp only [hbe, Qxv, QxI] at h
       obtain ⟨rfl, rfl, rfl⟩ := h
       have c1 : tot = n := Qb hn _ (by simp)
       have c2 : len = n := Qb hn _ (by simp)
       have c0 : 1 ≤ m := Qb hn _ (by simp)
       have c3 : n + m ≤ 9223372036854775807 := Qb hn _ (by simp)
       have c4 : (n + m) * te.bytes ≤ 140737488355328 := Qb hn _ (by simp)
       subst c2
       obtain ⟨a, cap, m1, rfl, hx0⟩ := h4 c1
       have hcap : cap = len := hx0 rfl
       subst hcap
       obtain ⟨xs, o1, o2, o3, o4⟩ := hw.ob id _ h1
       obtain ⟨news, hs⟩ := Qfl hw hy hsrc (Qd hn)
       have hf2 := hs.first P w.drew (fun _ => rfl) m (QxB _)
       rw [QyQ (by rw [hs.len]; exact QxB _)] at hf2
       have hf1 : (Builtin.firstCells xi.size cap (.slice a cap cap)).run P w.drew = .ok xs.toArray w.drew := by
        rcases o1.2 with ⟨q1, q2⟩ | ⟨b, cap', cur, q1, q2, q3, q4, q5, q6, q7⟩
        ·rw [q1] at m1
         cases m1
         have : xs = [] := Qyg (by rw [o1.1, q2]; simp)
         subst this
         exact run_firstCells_none w.drew xi.size 0 0 0
        ·rw [q1] at m1
         cases m1
         refine run_firstCells_some w.drew xi.size cap ⟨b, 0, none⟩ cap cap _ (by rw [o1.1, i2]) (fun j u hu => ?_)
         exact o1.cells (g := b) (by rw [q1]; rfl) j u hu
       have hv : ∃ a c, v = .slice a m c := by
        rcases hs.val with ⟨rfl, rfl⟩ | ⟨a, c, rfl, _⟩
        ·exact ⟨none, 0, rfl⟩
        ·exact ⟨_, _, rfl⟩
       have run := QbJ (P := P) (w := w) (ty := ty) hu i1 i4 a cap cap m v hv xs news hf1 (by rw [i2]; exact hf2) om c3 (by rw [i3]; exact c4)
       have hge := grownCap_ge w (cap + m) cap e'
       have hcm : grownCap w (cap + m) cap e' ≤ maxLen := grownCap_le_maxLen w (cap + m) cap e' (by unfold maxLen; omega)
       have hE := Ext.push H μ (.arr e' te.size (cap + m) (appG g cap g2)) (.slice (some ⟨w.heap.size, 0, none⟩) (cap + m) (grownCap w (cap + m) cap e'))
       refine ⟨_, _, _, run, hw.push _ _ ⟨rfl, rfl, rfl, by simp, fun k hk _ => heap_alloc_old w.drew _ k hk⟩ (fun b hb => by cases hb; exact QxB _) ?_, hE, rfl, e', cap + m, _, QW _ _, QxB _, QxB _, fun _ => ⟨_, _, by simp [upd], rfl, fun e => by cases e⟩⟩
       refine ⟨xs ++ news, ⟨by rw [QxL, o1.1, hs.len, Qyh], .inr ⟨w.heap.size, grownCap w (cap + m) cap e', _, by simp [upd], Qxx _, heap_alloc_new w.drew _, hge, hcm, ?_, ?_⟩⟩, by unfold maxLen; omega, fun i hi j hj => ?_, Sp.of (b := w.heap.size) (by simp [upd, blk]) (heap_alloc_new w.drew _) (Qbj (Qbj (by simpa using Qke o1 o4) (by simpa using hs.one)) (Qbq (QcH hte i1 i4)))⟩
       ·simp only [Array.size_append, QyI, size_zeroCells, hzs, o1.1, hs.len, ← Qyh]
        congr 1
        omega
       ·simp only [QyO, QyH]
        rw [← QyH]
        exact List.take_left' (by rw [QxL, o1.1, hs.len, Qyh])
       ·by_cases c : i < cap
        ·obtain ⟨u, u1, u2⟩ := o3 i c j hj
         have : i * te.size + te.size ≤ cap * te.size := by rw [← Qyu]; exact QxF _ c
         refine ⟨u, ?_, by simp only [appG, Qxt c]; exact RepC.mono (Mem.le_refl F) hE _ _ u2⟩
         rw [QxS (by rw [o1.1]; omega)]
         exact u1
        ·obtain ⟨u, u1, u2⟩ := hs.rep (i - cap) om j hj
         refine ⟨u, ?_, by simp only [appG, Qxu c]; exact RepC.mono (Mem.le_refl F) hE _ _ u2⟩
         have : cap * te.size ≤ i * te.size := QxF _ om
         rw [QxY (by rw [o1.1]; omega), o1.1]
         rw [show i * te.size + j - cap * te.size = (i - cap) * te.size + j by rw [Nat.sub_mul]; omega]
         exact u1
     | false =>
      cases hset : setL H id (.arr e' te.size (max n (len + m)) (cutG g len m g2)) with
      | none => simp [hset] at h
      | some H'' =>
       simp only [hbe, hset, Qxv, QxI] at h
       obtain ⟨rfl, rfl, rfl⟩ := h
       have c1 : tot = n := Qb hn _ (by simp)
       have c2 : len ≤ n := Qb hn _ (by simp)
       have cx : xq = true → len + m ≤ n := fun e => by subst e; exact Qb hn _ (by simp [Qr4])
       have c4 : len + m ≤ 9223372036854775807 := Qb hn _ (by simp)
       have c5 : (len + m) * te.bytes ≤ 140737488355328 := Qb hn _ (by simp)
       obtain ⟨a, cap, m1, rfl, hx0⟩ := h4 c1
       obtain ⟨xs, o1, o2, o3, o4⟩ := hw.ob id _ h1
       obtain ⟨e1, e2⟩ := Qaz hset
       obtain ⟨news, hs⟩ := Qfl hw hy hsrc (Qd hn)
       have fin : ∀ (v' : Value) (r : Value) (w' : World) (cap' : Nat) (xs' : List Value), (∃ a', v' = .slice a' (max n (len + m)) cap' ∧ r = .slice a' (len + m) cap' ∧ (xq = true → cap' = max n (len + m))) → w'.ownsRow 0 e' te.size v' (max n (len + m)) xs' →
         (max n (len + m) = n → v' = μ id) → w.grownBy w' (μ id).ownBlock → (∀ b, blk v' = some b → QS H μ id b ∨ w.heap.size ≤ b) → max n (len + m) ≤ maxLen → Sp w' v' →
         (∀ i, i < max n (len + m) → ∀ j, j < te.size → ∃ u, xs'[i * te.size + j]? = some u ∧ RepC F H μ (cutG g len m g2 i j) u) →
         ∃ μ', HSat K F H'' μ' w' ∧ Ext H μ H'' μ' ∧ RepC F H'' μ' (.sl id te.size (len + m) (max n (len + m)) xq) r := by
        intro v' r w' cap' xs' hv' hown hsame hgr hnew hmax hspp hrep
        have hE' : Ext H μ H'' (upd μ id v') := by
         refine ⟨fun id' cs hc => ?_, fun id' e0 es0 n0 g0 hc => ?_, fun id' sh z va ks val hc => ?_⟩
         ·have hne : id' ≠ id := fun ee => by subst ee; rw [h1] at hc; cases hc
          exact ⟨⟨cs, by rw [e2 id' hne]; exact hc⟩, by simp [upd, hne]⟩
         ·by_cases ee : id' = id
          ·subst ee
           rw [h1] at hc
           cases hc
           exact ⟨_, _, e1, om, fun q => by simp only [upd, Qyo]; exact hsame q⟩
          ·exact ⟨n0, g0, by rw [e2 id' ee]; exact hc, QxB _, fun _ => by simp [upd, ee]⟩
         ·have hne : id' ≠ id := fun ee => by subst ee; rw [h1] at hc; cases hc
          exact ⟨⟨ks, val, by rw [e2 id' hne]; exact hc⟩, by simp [upd, hne]⟩
        have hob : ∀ k, (μ id).ownBlock = some k → QS H μ id k := by
         intro k hk
         refine ⟨⟨_, h1, by simp⟩, ?_⟩
         rw [m1] at hk ⊢
         cases a with
         | none => cases hk
         | some a => exact hk
        refine ⟨upd μ id v', hw.step id _ v' e1 e2 hE' hgr hob hnew ⟨xs', by simp only [upd, Qyo]; exact hown, hmax, fun i hi j hj => ?_, by simp only [upd, Qyo]; exact hspp⟩, hE', ?_⟩
        ·obtain ⟨u, u1, u2⟩ := hrep i hi j hj
         exact ⟨u, u1, RepC.mono (Mem.le_refl F) hE' _ _ u2⟩
        ·obtain ⟨a', hv1, rfl, hv2⟩ := hv'
         refine ⟨rfl, e', max n (len + m), _, e1, QxB _, om, fun _ => ⟨a', cap', by simp [upd, hv1], rfl, hv2⟩⟩
       have cells : ∀ xs' : List Value, (∀ i j, i < len → j < te.size → xs'[i * te.size + j]? = xs[i * te.size + j]?) → (∀ i j, i < m → j < te.size → xs'[(len + i) * te.size + j]? = news[i * te.size + j]?) →
         (∀ i j, len + m ≤ i → i < n → j < te.size → xs'[i * te.size + j]? = xs[i * te.size + j]?) →
         ∀ i, i < max n (len + m) → ∀ j, j < te.size → ∃ u, xs'[i * te.size + j]? = some u ∧ RepC F H μ (cutG g len m g2 i j) u := by
        intro xs' k1 k2 k3 i hi j hj
        unfold cutG
        by_cases a1 : i < len
        ·rw [Qxt a1, k1 i j a1 hj]
         exact o3 i om j hj
        ·rw [Qxu a1]
         by_cases a2 : i < len + m
         ·rw [Qxt a2]
          have := k2 (i - len) j om hj
          rw [show len + (i - len) = i by omega] at this
          rw [this]
          exact hs.rep (i - len) om j hj
         ·rw [Qxu a2, k3 i j om om hj]
          exact o3 i om j hj
       have mulle : ∀ i k j, i < k → j < te.size → i * te.size + j < k * te.size := fun i k j hi hj => by
        have : (i + 1) * te.size ≤ k * te.size := QxF te.size hi
        rw [Qyh] at this
        omega
       have hmn : m = 0 → max n (len + m) = n := fun h => by omega
       have same : m = 0 → w.ownsRow 0 e' te.size (.slice a len cap) len (xs.take (len * te.size)) := fun _ => by
        refine ⟨by rw [QxO, o1.1]; exact QyZ (QxF te.size c2), ?_⟩
        rcases o1.2 with ⟨q1, q2⟩ | ⟨b, cap', cur, q1, q2, q3, q4, q5, q6, q7⟩
        ·rw [q1] at m1
         cases m1
         exact .inl ⟨by rw [show len = 0 by omega], om⟩
        ·rw [q1] at m1
         cases m1
         refine .inr ⟨b, cap, cur, rfl, q2, q3, om, q5, q6, ?_⟩
         rw [← q7, List.take_take, QyZ (QxF te.size c2)]
       rcases hs.val with ⟨rfl, hm0⟩ | ⟨sa, sc, rfl, hcell⟩
       ·
        have hm1 := hmn hm0
        subst hm0
        have hel := cells xs (fun _ _ _ _ => rfl) (fun i j hi => by omega) (fun _ _ _ _ _ => rfl)
        obtain ⟨μ', f1, f2, f3⟩ := fin (μ id) (.slice a (len + 0) cap) w cap xs ⟨a, by rw [hm1]; exact m1, rfl, fun e => by rw [hm1]; exact hx0 e⟩ (by rw [hm1]; exact o1) (fun _ => rfl) ⟨rfl, rfl, rfl, QxB _, fun _ _ _ => rfl⟩ (fun b hb => .inl ⟨⟨_, h1, by simp⟩, hb⟩) om o4 hel
        exact ⟨_, _, μ', run_append_owned_none (P := P) (w := w) 0 t ty e' xi te.size hu i1 (.slice a len cap) len _ (same rfl), f1, f2, f3⟩
       rcases o1.2 with ⟨q1, q2⟩ | ⟨b, cap', cur, q1, q2, q3, q4, q5, q6, q7⟩
       ·
        rw [q1] at m1
        cases m1
        have hl0 : len = 0 := by omega
        subst hl0
        by_cases hm0 : m = 0
        ·have hm1 := hmn hm0
         subst hm0
         have hnw : news = [] := Qyg (by rw [hs.len]; simp)
         subst hnw
         obtain ⟨v', w', r1, r2, r3, r4⟩ := run_append_own (P := P) w 0 t ty e' xi z te.size te.bytes hu i1 i4 i2 i3 hzs hpos (.slice none 0 0) 0 [] (World.ownsRow_nil w 0 e' te.size) sa 0 sc [] hs.len hcell hs.one (by unfold maxLen; omega) om (Qxx _)
         have hv' : v' = .slice none 0 0 := r4.2 ⟨rfl, rfl⟩
         subst hv'
         have hfin := fin (.slice none 0 0) (.slice none (0 + 0) 0) w' 0 [] ⟨none, rfl, rfl, fun e => by omega⟩ (by simpa using r2) (fun _ => q1.symm) (by rw [q1]; exact r3) (fun bb hb => by cases hb) om (Sp.none rfl)
         obtain ⟨μ', f1, f2, f3⟩ := hfin (fun i hi => by omega)
         exact ⟨_, _, μ', r1, f1, f2, f3⟩
        have hm0 : max 0 (0 + m) = m := by omega
        have run := run_append_nil (P := P) w t ty e' xi z hu i1 i4 sa m sc news (by rw [hs.len, i2]) hcell om om (by rw [i3]; rw [QxX] at c5; omega)
        obtain ⟨v', w', r1, r2, r3, r4⟩ := run_append_own (P := P) w 0 t ty e' xi z te.size te.bytes hu i1 i4 i2 i3 hzs hpos (.slice none 0 0) 0 [] (World.ownsRow_nil w 0 e' te.size) sa m sc news hs.len hcell hs.one (by have := hs.le; unfold maxLen at *; omega) (by rw [QxX] at c5 ⊢; omega) (Qxx _)
        rw [run] at r1
        cases r1
        rw [QxX, List.nil_append] at r2
        have hle := hs.le
        have hfin := fin _ (.slice _ (0 + m) _) _ _ news ⟨_, by rw [hm0], rfl, fun e => by have := cx e; omega⟩ (by rw [hm0]; exact r2) (fun q => by omega) (by rw [q1]; exact r3)
        obtain ⟨μ', f1, f2, f3⟩ := hfin (fun bb hb => by cases hb; exact .inr (QxB _)) om (Sp.of rfl (heap_alloc_new w.drew _) (Qbj (by simpa using hs.one) (Qbq (QcH hte i1 i4))))
         (cells news (fun i j hi => by omega) (fun i j _ _ => by rw [QxX]) (fun i j _ hi => by omega))
        refine ⟨_, _, μ', ?_, f1, f2, f3⟩
        rw [QxX]
        exact run
       ·rw [q1] at m1
        cases m1
        have hxs : ∀ i j, i < n → j < te.size → xs[i * te.size + j]? = cur[i * te.size + j]? := fun i j hi hj => by
         rw [← q7, Qyb (mulle i n j hi hj)]; simp
        by_cases hroom : len + m ≤ cap
        ·
         have hfit : len * xi.size + news.length ≤ cur.size := by
          rw [hs.len, i2, q6, ← Qyh]
          exact QxF te.size hroom
         have run := run_append_room (P := P) w t ty e' xi hu i1 b len cap cur q3 sa m sc news (by rw [hs.len, i2]) hcell hs.one hroom hfit
         rw [i2, hs.len] at run
         generalize hcs : cur.toList.take (len * te.size) ++ news ++ cur.toList.drop (len * te.size + m * te.size) = cs at run
         have hcl : cs.length = cur.size := by
          rw [← hcs]
          simp only [QxL, QxO, Qyn, hs.len, Qx7]
          rw [i2, hs.len] at hfit
          omega
         have hat : ∀ k, cs[k]? = if len * te.size ≤ k ∧ k < len * te.size + news.length then news[k - len * te.size]? else cur[k]? := fun k => by
          rw [← hcs, ← hs.len]
          rw [Qel cur.toList news (len * te.size) (by rw [i2] at hfit; simpa using hfit) k]
          simp
         have hheap : (w.setRow b cs.toArray).heap[b]? = some (.cells cs.toArray e' (0, 0)) := setRow_heap w b cur cs.toArray e' (0, 0) q3
         have hmc : max n (len + m) ≤ cap := by omega
         have hel := cells (cs.take (max n (len + m) * te.size))
          (by
           intro i j hi hj
           have := mulle i len j hi hj
           rw [Qyb (mulle i (max n (len + m)) j om hj), hat, Qxu om, hxs i j om hj])
          (by
           intro i j hi hj
           have a1 : (len + i) * te.size = len * te.size + i * te.size := Qyh ..
           have a2 := mulle i m j hi hj
           rw [Qyb (mulle (len + i) (max n (len + m)) j om hj), hat, Qxt (by rw [hs.len]; omega)]
           congr 1
           omega)
          (by
           intro i j hi hi2 hj
           have a1 : (len + m) * te.size ≤ i * te.size := QxF te.size hi
           rw [Qyh] at a1
           rw [Qyb (mulle i (max n (len + m)) j om hj), hat, Qxu (by rw [hs.len]; omega), hxs i j hi2 hj])
         have hle := hs.le
         obtain ⟨μ', f1, f2, f3⟩ := fin (.slice (some ⟨b, 0, none⟩) (max n (len + m)) cap) (.slice (some ⟨b, 0, none⟩) (len + m) cap) (w.setRow b cs.toArray) cap (cs.take (max n (len + m) * te.size)) ⟨_, rfl, rfl, fun e => by have := cx e; have := hx0 e; omega⟩
          ⟨by rw [QxO, hcl, q6]; exact QyZ (QxF te.size hmc), .inr ⟨b, cap, cs.toArray, rfl, Qxx _, hheap, hmc, q5, by rw [QyI, hcl, q6], rfl⟩⟩
          (fun q => by rw [q, q1]) (by rw [q1]; exact Qcg w b _) (fun bb hb => by cases hb; exact .inl ⟨⟨_, h1, by simp⟩, by rw [q1]; rfl⟩) om (Sp.of rfl hheap (by rw [← hcs]; exact QfB (l := cur.toList) (o := len * te.size) (k := len * te.size + m * te.size) (o4 b cur e' (0, 0) (by rw [q1]; rfl) q3) hs.one)) hel
         exact ⟨_, _, μ', run, f1, f2, f3⟩
        ·
         have hmm : max n (len + m) = len + m := by omega
         have hf1 : (Builtin.firstCells xi.size len (.slice (some ⟨b, 0, none⟩) len cap)).run P w.drew = .ok (xs.take (len * te.size)).toArray w.drew := by
          refine run_firstCells_some w.drew xi.size len ⟨b, 0, none⟩ len cap _ (by rw [QxO, o1.1, i2]; exact QyZ (QxF te.size c2)) (fun j u hu => ?_)
          refine o1.cells (g := b) (by rw [q1]; rfl) j u ?_
          rw [Qye] at hu
          split at hu
          ·exact hu
          ·cases hu
         have hf2 : (Builtin.firstCells xi.size m (.slice (some sa) m sc)).run P w.drew = .ok news.toArray w.drew :=
          run_firstCells_some w.drew xi.size m sa m sc news (by rw [hs.len, i2]) (fun j u hu => hcell j u hu)
         have run := QbJ (P := P) (w := w) (ty := ty) hu i1 i4 (some ⟨b, 0, none⟩) len cap m (.slice (some sa) m sc) ⟨_, _, rfl⟩ _ news hf1 hf2 om om (by rw [i3]; exact c5)
         have hge := grownCap_ge w (len + m) cap e'
         have hcm : grownCap w (len + m) cap e' ≤ maxLen := grownCap_le_maxLen w (len + m) cap e' (by unfold maxLen; omega)
         have hlt : (xs.take (len * te.size)).length = len * te.size := by rw [QxO, o1.1]; exact QyZ (QxF te.size c2)
         have hel := cells (xs.take (len * te.size) ++ news)
          (by
           intro i j hi hj
           have := mulle i len j hi hj
           rw [QxS (by rw [hlt]; exact this), Qyb this])
          (by
           intro i j hi hj
           have a1 : (len + i) * te.size = len * te.size + i * te.size := Qyh ..
           rw [QxY (by rw [hlt]; omega), hlt]
           congr 1
           omega)
          (by intro i j hi hi2 hj; omega)
         have hown : (w.drew.alloc (.cells ((xs.take (len * te.size)).toArray ++ news.toArray ++ Builtin.zeroCells z.cells (grownCap w (len + m) cap e' - (len + m))) e')).ownsRow 0 e' te.size (.slice (some ⟨w.heap.size, 0, none⟩) (max n (len + m)) (grownCap w (len + m) cap e')) (max n (len + m)) (xs.take (len * te.size) ++ news) := by
          refine ⟨by rw [QxL, hlt, hs.len, hmm, Qyh], .inr ⟨w.heap.size, grownCap w (len + m) cap e', _, rfl, Qxx _, heap_alloc_new w.drew _, by rw [hmm]; exact hge, hcm, ?_, ?_⟩⟩
          ·simp only [Array.size_append, QyI, size_zeroCells, hzs, hlt, hs.len, ← Qyh]
           congr 1
           omega
          ·rw [hmm]
           simp only [QyO, QyH]
           rw [← QyH]
           exact List.take_left' (by rw [QxL, hlt, hs.len, Qyh])
         obtain ⟨μ', f1, f2, f3⟩ := fin (.slice (some ⟨w.heap.size, 0, none⟩) (max n (len + m)) (grownCap w (len + m) cap e')) (.slice (some ⟨w.heap.size, 0, none⟩) (len + m) (grownCap w (len + m) cap e')) _ _ (xs.take (len * te.size) ++ news) ⟨_, rfl, rfl, fun e => by have := cx e; have := hx0 e; omega⟩
          hown (fun q => by omega) ⟨rfl, rfl, rfl, by simp, fun k hk _ => heap_alloc_old w.drew _ k hk⟩ (fun bb hb => by cases hb; exact .inr (QxB _)) (by unfold maxLen; omega) (Sp.of rfl (heap_alloc_new w.drew _) (Qbj (Qbj (fun u hu => Qke o1 o4 u (Qy9 (by simpa using hu))) (by simpa using hs.one)) (Qbq (QcH hte i1 i4)))) hel
         exact ⟨_, _, μ', run, f1, f2, f3⟩
  | _ => simp at h
end Go.Am
end
