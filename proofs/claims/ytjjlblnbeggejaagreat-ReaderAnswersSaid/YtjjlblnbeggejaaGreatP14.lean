/- Contracts, lemmas; no condition. -/
import Derived.Test.YtjjlblnbeggejaaGreatP13
import Derived.Test.YtjjlblnbeggejaaGreatP10
import Derived.Defers
import Derived.Test.YtjjlblnbeggejaaGreatP12
import Derived.Sort.Grow
import Derived.Shelf.GgSortFunc.SmallK
set_option linter.all false
section
namespace Go.Am
variable {l : List Oper} {w : World}
def KeepT (a0 : Act) (l : List Oper) (a : Act) : Prop := ∀ t, (∀ o ∈ l, o.dst ≠ some t) → a.tmps.getD t undef = a0.tmps.getD t undef
theorem KeepT.put {a0 a : Act} {l : List Oper} {o : Oper} (h : KeepT a0 l a) (ho : o ∈ l) (v : Value) : KeepT a0 l (a.put o.dst v) := by
 intro t ht
 rw [← h t ht]
 cases hd : o.dst with
 | none => rfl
 | some d =>
  have hne : d ≠ t := fun e => ht o ho (by rw [hd, e])
  simp only [Act.put, QxQ]
  rw [Qya hne]
theorem QsW {P : Program} {a0 : Act} {o : Oper} (ho : o ∈ l) {a : Act} {K K' : Act → World → Prop} {Q Q' : Exit → Act → World → Prop} (hq : ∀ e a w, Q e a w → e ≠ .normal → Q' e a w)
  (h : ∀ a w, KeepT a0 l a → K a w → K' a w) (ha : KeepT a0 l a) (hh : o.wp P a w K Q) : o.wp P a w K' Q' := by
 have hL : LetsOut Q → LetsOut Q' := fun ⟨x, y, z⟩ => ⟨x, y, hq _ _ _ z (by simp)⟩
 unfold Oper.wp at *
 generalize (execOp a.eval o).run P w = r at *
 cases r with
 | ok n w' =>
  cases n with
  | value v => exact h _ _ (ha.put ho v) hh
  | skip => exact h _ _ (ha.put ho _) hh
  | defer d => exact h _ _ (KeepT.put (a := { a with defers := d :: a.defers }) (fun t ht => ha t ht) ho _) hh
  | enter f args =>
   refine Calls.mono hh fun e w'' he => ?_
   cases e with
   | returned v => exact h _ _ (ha.put ho v) he
   | panicked c => exact hq _ _ _ he (by simp)
   | outgrown => exact hL he
  | row r args => exact Rows.mono hh fun v w'' he => h _ _ (ha.put ho v) he
  | _ => exact hh
 | halt x w' =>
  cases x with
  | panic v => exact hq _ _ _ hh (by simp)
  | _ => exact hh
inductive BwT (H : List O) (ts : Ts) : Ts → Prop
 | nil : BwT H ts []
 | cons {t : Nat} {s : S} {r : Ts} (h : BwS H (find t ts) s) (k : BwT H ts r) : BwT H ts ((t, s) :: r)
theorem BwT.ok {K : Keep} {F : Mem} {H : List O} {μ : Nat → Value} {ts : Ts} {tm : Array Value} (hw : HSat K F H μ w) (ht : TSat F H μ ts tm) {r : Ts} (h : BwT H ts r) : TSat (QaV w) [] μ r tm := by
 induction h with
 | nil => intro t; trivial
 | @cons t s r h k ih =>
  intro t'
  simp only [find]
  cases hb : Nat.beq t t' with
  | true =>
   have := QxD hb
   subst this
   exact QrF hw h (ht t)
  | false => exact ih t'
def Qtw (l : List Oper) (t : Nat) : Bool := l.all fun o => match o.dst with
 | none => true
 | some d => !Nat.beq d t
theorem Qs6 {t : Nat} (h : Qtw l t = true) : ∀ o ∈ l, o.dst ≠ some t := by
 intro o ho hd
 have := Qx2.1 h o ho
 rw [hd] at this
 simp at this
theorem AWn.block {X : Cx} {id : Nat} {c : Code} {ts : Ts} {H : List O} {k : Kp} (h : AWn X c ts H fun e ts' H' => match e with
  | .exit id' => match Nat.beq id' id with
   | true => k .normal ts' H'
   | false => k (.exit id') ts' H'
  | .normal => k .normal ts' H'
  | .ret => k .ret ts' H') : AWn X (.block id c) ts H k := by
 refine ⟨fun K F0 H0 μ0 F μ a w hs => wp_block (wp_mono (h.out K F0 H0 μ0 F μ a w hs) ?_)⟩
 rintro e a' w' ⟨ts', H', F', μ', hs', he⟩
 cases e with
 | normal => exact ⟨ts', H', F', μ', hs', he⟩
 | ret => exact ⟨ts', H', F', μ', hs', he⟩
 | goto l => exact he.elim
 | panic ch => exact he.elim
 | outgrown => exact he.elim
 | exit id' =>
  simp only [Exit.inBlock]
  simp only [exOk] at he
  cases hb : Nat.beq id' id with
  | true =>
   have : id' = id := QxD hb
   simp only [hb] at he
   rw [Qxt this]
   exact ⟨ts', H', F', μ', hs', he⟩
  | false =>
   have : id' ≠ id := fun e => by subst e; simp at hb
   simp only [hb] at he
   rw [Qxu this]
   exact ⟨ts', H', F', μ', hs', he⟩
theorem AWn.loop {X : Cx} {c : Code} {ts : Ts} {H : List O} {k : Kp} (h : Lp X c ts H k) : AWn X (.loop c) ts H k := ⟨h.out⟩
end Go.Am
end

section
namespace Go.Am
open Go.Sort
theorem HSat.grown {K : Keep} {F : Mem} {H : List O} {μ : Nat → Value} {w w' : World} (h : HSat K F H μ w) (hg : w.grownBy w' none) : HSat K F H μ w' := by
 have hold : ∀ b o, w.heap[b]? = some o → w'.heap[b]? = some o := fun b o hb => by
  rw [hg.block b (QxH.1 hb).1 (fun e => by cases e)]; exact hb
 refine ⟨hg.os.trans h.os, hg.tape.trans h.tape, hg.output.trans h.output, fun b o hb => hold b o (h.fr b o hb), fun b o hb => hold b o (h.kp b o hb), fun i o hi => (h.ob i o hi).other (Ext.refl H μ) rfl fun b hb _ => hg.block b hb (fun e => by cases e), h.sp, h.ij, h.dj⟩
structure RwN (X : Cx) (ops : Array Oper) (l : List Oper) (c : Code) (ts : Ts) (H : List O) (k : Kp) : Prop where
 out : ∀ K F0 H0 μ0 F μ a w, Sat X K F0 H0 μ0 ts H F μ a w → wpList X.P ops (Exit.then (c.wp X.P (Post X K F0 H0 μ0 k)) (Post X K F0 H0 μ0 k)) l a w
end Go.Am
end

section
namespace Go.Am
end Go.Am
end

section
namespace Go.Am
open Go.Sort Go.Proofs Go.Lib
variable {H : List O} {g : Nat → Nat → C} {α : Type} {enc : α → List Value} {d : Array α}
set_option maxHeartbeats 1000000 in
theorem HSat.row {K : Keep} {F : Mem} {μ : Nat → Value} {w : World} {ob e es n : Nat} [Inhabited α] (hw : HSat K F H μ w) (h0 : getL H ob = some (.arr e es n g)) (hn : 0 < n) (hes : 0 < es) (hd : d.size = n)
  (h1 : ∀ i, i < n → ∀ j, j < es → ∀ F v, RepF F (g i j) v → v = (enc d[i]!)[j]!) (hg : ∀ i, i < n → ∀ j, j < es → (g i j).imm = true) :
  ∃ b cap, μ ob = .slice (some ⟨b, 0, none⟩) n cap ∧ b < w.heap.size ∧ n ≤ cap ∧ cap ≤ maxLen ∧ HoldsK enc es w b 0 d ∧ ∀ (d' : Array α) (g' : Nat → Nat → C), d'.size = n → (∀ i, i < n → ∃ i', i' < n ∧ (∀ j, j < es → g' i j = g i' j) ∧ d'[i]! = d[i']!) → ∀ H', setL H ob (.arr e es n g') = some H' → ∀ q os, HSat K F H' μ (grow (putRowK enc es (Go.Sort.ahead w q) b 0 d') os) ∧ Ext H μ H' μ := by
 obtain ⟨xs, ⟨x1, x2⟩, x3, x4, x5⟩ := hw.ob ob _ h0
 rcases x2 with ⟨_, q⟩ | ⟨b, cap, cur, q1, q2, q3, q4, q5, q6, q7⟩
 ·omega
 have hblt : b < w.heap.size := (QxH.1 q3).1
 have hcur : ∀ i, i < n → ∀ j, j < es → cur[i * es + j]? = some (enc d[i]!)[j]! := by
  intro i hi j hj
  obtain ⟨u, u1, u2⟩ := x4 i hi j hj
  rw [← q7, Qyb (QoB hi hj)] at u1
  rw [h1 i hi j hj F u (Qcn (hg i hi j hj) u2)] at u1
  simpa using u1
 have hflat : ∀ t, t < n * es → (flatK enc es d)[t]! = (enc d[t / es]!)[t % es]! := fun t ht => get_flatK enc es d t (by rw [hd]; exact ht)
 have hdm : ∀ t, t < n * es → t / es < n ∧ t % es < es ∧ t / es * es + t % es = t := fun t ht => ⟨Nat.div_lt_of_lt_mul (by rw [Nat.mul_comm]; exact ht), Nat.mod_lt _ hes, Nat.div_add_mod' t es⟩
 have hold : HoldsK enc es w b 0 d := by
  intro t ht
  rw [size_flatK, hd] at ht
  obtain ⟨t1, t2, t3⟩ := hdm t ht
  refine ⟨?_, ?_⟩
  ·rw [hflat t ht]
   unfold World.cell?
   simp only [q3, QxX]
   have := hcur (t / es) t1 (t % es) t2
   rw [t3] at this
   simpa using this
  ·unfold World.frozen?
   simp [q3]
 refine ⟨b, cap, q1, hblt, q4, q5, hold, fun d' g' hd' hpm H' hset q os => ?_⟩
 have h2 : ∀ i, i < n → ∀ j, j < es → RepF F (g' i j) (enc d'[i]!)[j]! := fun i hi j hj => by
  obtain ⟨i', k1, k2, k3⟩ := hpm i hi
  obtain ⟨u, u1, u2⟩ := x4 i' k1 j hj
  have u3 := Qcn (hg i' k1 j hj) u2
  rw [k2 j hj, k3, ← h1 i' k1 j hj F u u3]
  exact u3
 have hflat' : ∀ t, t < n * es → (flatK enc es d')[t]! = (enc d'[t / es]!)[t % es]! := fun t ht => get_flatK enc es d' t (by rw [hd']; exact ht)
 generalize hD : flatK enc es d' = D
 have hDs : D.size = n * es := by rw [← hD, size_flatK, hd']
 have hw' : grow (putRowK enc es (Go.Sort.ahead w q) b 0 d') os = grow (putRow id (Go.Sort.ahead w q) b 0 D) os := by unfold putRowK; rw [hD]
 rw [hw']
 have hb' : (grow (putRow id (Go.Sort.ahead w q) b 0 D) os).heap[b]? = some (.cells (putCells id 0 D cur) e (0, 0)) := by
  show ((w.heap.modify b (onCells (putCells id 0 D))) ++ os)[b]? = _
  rw [Qyr (by simpa using hblt), QyW, Qxt rfl, q3]
  rfl
 have hgr : w.grownBy (grow (putRow id (Go.Sort.ahead w q) b 0 D) os) (some b) := by
  refine ⟨rfl, rfl, rfl, ?_, fun k hk hne => ?_⟩
  ·show w.heap.size ≤ ((w.heap.modify b (onCells (putCells id 0 D))) ++ os).size
   simp
  ·show ((w.heap.modify b (onCells (putCells id 0 D))) ++ os)[k]? = _
   rw [Qyr (by simpa using hk), QyW, Qxu (fun e => hne (by rw [e]))]
 have hsz : (putCells id 0 D cur).size = cur.size := by unfold putCells; simp
 have hnc : n * es ≤ cur.size := by rw [q6]; exact QxF es q4
 have hone : ∀ x ∈ (putCells id 0 D cur).toList, x.oneCell' = true := by
  intro x hx
  obtain ⟨i, hi, rfl⟩ := QxP hx
  have hi2 : i < cur.size := by simpa [putCells] using hi
  have ee : (putCells id 0 D cur).toList[i] = if i < n * es then D[i]! else cur[i] := by
   simp [putCells, hDs]
  rw [ee]
  split
  ·rename_i hin
   obtain ⟨t1, t2, t3⟩ := hdm i hin
   rw [← hD, hflat' _ hin]
   exact RepF.one _ _ (h2 (i / es) t1 (i % es) t2)
  ·exact x5 b cur e (0, 0) (by rw [q1]; rfl) q3 _ (Qy0 hi2)
 obtain ⟨e1, e2⟩ := Qaz hset
 have hst := hw.step (w' := grow (putRow id (Go.Sort.ahead w q) b 0 D) os) ob (.arr e es n g') (μ ob) e1 e2 (by rw [Qy]; exact Qhl h0 hset) (row := some b) hgr (fun k hk => by cases hk; exact ⟨⟨_, h0, by simp⟩, by rw [q1]; rfl⟩) (fun b' hb => .inl ⟨⟨_, h0, by simp⟩, hb⟩) (by
   rw [Qy]
   refine ⟨(putCells id 0 D cur).toList.take (n * es), ⟨?_, .inr ⟨b, cap, putCells id 0 D cur, q1, Qxx _, hb', q4, q5, ?_, rfl⟩⟩, x3, fun i hi j hj => ?_, Sp.of (by rw [q1]; rfl) hb' hone⟩
   ·rw [QxO, Qx7, hsz]; omega
   ·rw [hsz]; exact q6
   ·have hlt := QoB hi hj
    refine ⟨(enc d'[i]!)[j]!, ?_, RepF.toC _ _ _ _ (h2 i hi j hj)⟩
    rw [Qyb hlt]
    unfold putCells
    simp only [Qyt, Array.getElem?_mapIdx]
    rw [Qx9 om]
    simp only [Qyd, Qxx, QxX, true_and, Nat.sub_zero, hDs, id]
    rw [Qxt hlt, ← hD, hflat' _ hlt, (QqV hj).1, (QqV hj).2])
 rw [Qy] at hst
 exact ⟨hst, Qhl h0 hset⟩
theorem QuP [Inhabited α] {i j q : Nat} (hq : q < d.size) : (Go.Sort.swp d i j)[q]! = if q = j then d[i]! else if q = i then d[j]! else d[q]! := by
 unfold Go.Sort.swp
 rw [getElem!_pos _ q (by simp; omega), Array.getElem_setIfInBounds]
 ·split
  ·rename_i e; rw [Qxt e.symm]
  ·rename_i e
   rw [Qxu fun z => e z.symm, Array.getElem_setIfInBounds]
   split
   ·rename_i e2; rw [Qxt e2.symm]
   ·rename_i e2; rw [Qxu fun z => e2 z.symm, getElem!_pos _ q om]
 ·simp; omega
set_option maxHeartbeats 1000000 in
theorem CallX.swap {X : Cx} {sf : Nat} {dst : Option Tmp} {ts : Ts} {H' : List O} {k : Ts → List O → Prop} {ob e es n G T i j : Nat} {x : Bool} (g' : Nat → Nat → C) [Inhabited α] (d : Array α)
  (hi : i < n) (hj : j < n) (h0 : getL H ob = some (.arr e es n g)) (hes : 0 < es) (hd : d.size = n)
  (r1 : ∀ i, i < n → ∀ j, j < es → ∀ F v, RepF F (g i j) v → v = (enc d[i]!)[j]!) (rg : ∀ i, i < n → ∀ j, j < es → (g i j).imm = true)
  (r2 : ∀ a, a < n → g' a = g (if a = j then i else if a = i then j else a)) (hset : setL H ob (.arr e es n g') = some H') (hk : ∀ x, (enc x).length = es)
  (hsw : ∀ b cap, SwapSwapsK X.P sf #[.slice (some ⟨b, 0, none⟩) n cap, .pointer (some ⟨G, T, none⟩)] enc es b 0 n)
  (h : putK X.nt dst (.t []) ts fun ts' => k ts' H') : CallX X sf [.c (.int .i64 i), .c (.int .i64 j), .c (.sl ob es n n x), .c (.raw G T)] dst ts H k := by
 refine ⟨fun K F0 H0 μ0 F μ a w vs hs hA => ?_⟩
 obtain ⟨b, cap, m0, hb, hcap, hmax, hold, hnew⟩ := hs.hs.row (enc := enc) (d := d) h0 om hes hd r1 rg
 obtain ⟨va, a1, a2⟩ := hA.2 0 _ rfl
 obtain ⟨vb, b1, b2⟩ := hA.2 1 _ rfl
 obtain ⟨x0, y0, z0⟩ := hA.2 2 _ rfl
 obtain ⟨x1, y1, z1⟩ := hA.2 3 _ rfl
 have a2 : va = .int .i64 i := a2
 have b2 : vb = .int .i64 j := b2
 obtain ⟨-, e', n', g'', w1, w2, w3, w4⟩ := z0
 rw [h0] at w1
 cases w1
 obtain ⟨p, cap', p1, p2, -⟩ := w4 rfl
 rw [m0] at p1
 cases p1
 have z1 : x1 = .pointer (some ⟨G, T, none⟩) := z1
 have hvs : vs = #[.int .i64 i, .int .i64 j] ++ #[.slice (some ⟨b, 0, none⟩) n cap, .pointer (some ⟨G, T, none⟩)] := by
  apply QyM
  intro q
  match q with
  | 0 => rw [a1, a2]; rfl
  | 1 => rw [b1, b2]; rfl
  | 2 => rw [y0, p2]; rfl
  | 3 => rw [y1, z1]; rfl
  | q + 4 => rw [Qx1 (by rw [hA.1]; simp), Qx1 (by simp)]
 have hrun := hsw b cap w d hold hd i j hi hj
 have hself : w = putRowK enc es (Go.Sort.ahead w 0) b 0 d := (putRowK_self enc es w b 0 d hold).symm
 have hworld : (w.setCells b (0 + i * es) (enc d[j]!)).setCells b (0 + j * es) (enc d[i]!) = grow (putRowK enc es (Go.Sort.ahead w 0) b 0 (Go.Sort.swp d i j)) #[] := by
  have := swap_worldK enc es hk w 0 0 b 0 d i j om om
  rw [show ((putRowK enc es (Go.Sort.ahead w 0) b 0 d).drewN 0) = w from hself.symm] at this
  rw [this]
  simp [grow]
 rw [hworld] at hrun
 obtain ⟨hs', hE⟩ := hnew (Go.Sort.swp d i j) g' (by unfold Go.Sort.swp; simp [hd]) (fun q hq => ⟨if q = j then i else if q = i then j else q, by repeat' split <;> try omega, fun _ _ => by rw [r2 q hq], by rw [QuP om]; repeat' split <;> try rfl⟩) H' hset 0 #[]
 obtain ⟨ts', p1, p2⟩ := hs.put (Mem.le_refl F) hE hs' (v := .tuple #[]) (show RepS F H' μ (.t []) (.tuple #[]) from ⟨#[], rfl, rfl, fun j x hx => by simp [getL] at hx⟩) h
 exact ⟨_, _, by rw [hvs]; exact hrun, ts', H', F, μ, p1, p2⟩
end Go.Am
end

section
namespace Go.Am
end Go.Am
end
