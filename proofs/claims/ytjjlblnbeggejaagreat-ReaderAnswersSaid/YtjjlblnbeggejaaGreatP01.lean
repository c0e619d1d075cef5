/- Contracts, lemmas; no condition. -/
import Derived.Test.YtjjlblnbeggejaaGreatP00
import Derived.Laws.Slices
import Derived.Laws.BytesArg
import Derived.Laws.Tables
set_option linter.all false
section
namespace Go.Am
variable {α : Type} {P : Program} {x p c : C} {f t o n e cap : Nat} {w : World} {a : Option Addr} {i j te : TI} {F : Mem} {H : List O} {μ : Nat → Value} {xs cs : List C} {s : S} {K : Keep} {v : Value} {ns : List Prop} {Γ : Env} {vs : Array Value} {ts : Ts}
theorem Qg {β : Type} {x : Sem α} {f : α → Sem β} {w' : World} {a : α} (h : x.run P w = .ok a w') : (x >>= f).run P w = (f a).run P w' := by
 rw [Sem.run_bind, h]; rfl
theorem Qbb (h : TIok P t i) (w : World) : (sizeOf t).run P w = .ok i.size w := by
 obtain ⟨x, h1, h2, _⟩ := h.info
 simp [sizeOf, typeInfo, h1, h2]
theorem QmO (h : TIok P t i) (w : World) : (isAgg t).run P w = .ok i.agg w := by
 obtain ⟨d, h1, h2⟩ := h.und
 unfold isAgg
 rw [Qg (run_underlying h1 w)]
 unfold TI.agg
 cases d <;> cases htd : i.td <;> simp [htd, tdOk] at h2 ⊢
def cut {α : Type} : List α → Nat → Nat → Option (List α)
 | _, 0, 0 => some []
 | [], 0, _ + 1 => none
 | x :: r, 0, n + 1 => match cut r 0 n with
  | some l => some (x :: l)
  | none => none
 | [], _ + 1, _ => none
 | _ :: r, k + 1, n => cut r k n
theorem Qiv {α : Type} : ∀ (l : List α) (k n : Nat) (r : List α), cut l k n = some r → r.length = n ∧ ∀ (j : Nat) x, getL r j = some x → getL l (k + j) = some x
 | l, 0, 0, r, h => by
  have : r = [] := by cases l <;> simp [cut] at h <;> exact h
  subst this; simp [getL]
 | [], 0, n + 1, r, h => by simp [cut] at h
 | x :: l, 0, n + 1, r, h => by
  simp only [cut] at h
  cases hc : cut l 0 n with
  | none => simp [hc] at h
  | some r' =>
   simp only [hc, Qxv] at h
   subst h
   obtain ⟨h1, h2⟩ := Qiv l 0 n r' hc
   refine ⟨by simp [h1], fun j y hy => ?_⟩
   cases j with
   | zero => simpa [getL] using hy
   | succ j =>
    simp only [getL] at hy
    have := h2 j y hy
    rw [QxX] at this ⊢
    simpa [getL] using this
 | [], k + 1, n, r, h => by simp [cut] at h
 | x :: l, k + 1, n, r, h => by
  simp only [cut] at h
  obtain ⟨h1, h2⟩ := Qiv l k n r h
  refine ⟨h1, fun j y hy => ?_⟩
  have := h2 j y hy
  rw [show k + 1 + j = (k + j) + 1 by omega]
  simpa [getL] using this
def gets (get : Nat → C) (off : Nat) : Nat → List C
 | 0 => []
 | n + 1 => get off :: gets get (off + 1) n
theorem Qka (get : Nat → C) : ∀ (n off : Nat), (gets get off n).length = n ∧ ∀ (j : Nat) x, getL (gets get off n) j = some x → j < n ∧ x = get (off + j)
 | 0, off => by simp [gets, getL]
 | n + 1, off => by
  obtain ⟨h1, h2⟩ := Qka get n (off + 1)
  refine ⟨by simp [gets, h1], fun j x hx => ?_⟩
  cases j with
  | zero => simp [gets, getL] at hx; simp [hx]
  | succ j =>
   simp only [gets, getL] at hx
   obtain ⟨h3, h4⟩ := h2 j x hx
   exact ⟨om, by rw [h4]; congr 1; omega⟩
def Qr6 {α : Type} (c : C) (k : C → α) : α :=
 match c with
 | .junk => k .junk
 | .bool b => k (.bool b)
 | .int q n => k (.int q n)
 | .str s => k (.str s)
 | .nilp => k .nilp
 | .ptr id off => k (.ptr id off)
 | .ep id i j tot => k (.ep id i j tot)
 | .ip n get => k (.ip n get)
 | .sl id es len tot x => k (.sl id es len tot x)
 | .isl es n get tight => k (.isl es n get tight)
 | .fn f n get => k (.fn f n get)
 | .nilfn => k .nilfn
 | .nils => k .nils
 | .mpr id => k (.mpr id)
 | .nilm => k .nilm
 | .raw b o => k (.raw b o)
theorem Qrz (c : C) (k : C → α) : Qr6 c k = k c := by cases c <;> rfl
def QfC {α : Type} : List C → (List C → α) → α
 | [], k => k []
 | c :: r, k => Qr6 c fun c' => QfC r fun r' => k (c' :: r')
theorem QdP {α : Type} : ∀ (l : List C) (k : List C → α), QfC l k = k l
 | [], _ => rfl
 | c :: r, k => by simp only [QfC, Qrz, QdP r]
def mkS (agg : Bool) (xs : List C) : Option S :=
 match agg with
 | true => some (.a xs)
 | false => match xs with
  | [x] => some (.c x)
  | _ => none
theorem QfK {a : Addr} 
  (ht : TIok P t i) (hl : xs.length = i.size) (hx : ∀ (j : Nat) x, getL xs j = some x → ∃ v, w.cell? (a.add j) = some v ∧ RepC F H μ x v) (hs : mkS i.agg xs = some s) :
  ∃ v, (loadVar t a).run P w = .ok v w ∧ RepS F H μ s v := by
 let vs : List Value := (List.range xs.length).map fun j => (w.cell? (a.add j)).getD undef
 have hvl : vs.length = xs.length := by simp [vs]
 have hv : ∀ (j : Nat) x, getL xs j = some x → ∃ v, vs[j]? = some v ∧ w.cell? (a.add j) = some v ∧ RepC F H μ x v := by
  intro j x e
  obtain ⟨v, h1, h2⟩ := hx j x e
  have hj : j < xs.length := by rw [Qc] at e; exact (QxU.1 e).1
  exact ⟨v, by simp [vs, hj, h1], h1, h2⟩
 have hc : ∀ (j : Nat) v, vs[j]? = some v → w.cell? (a.add j) = some v := by
  intro j v e
  have hj : j < xs.length := by rw [← hvl]; exact (QxU.1 e).1
  obtain ⟨v', h1, h2, _⟩ := hv j xs[j] (by rw [Qc]; simp [hj])
  rw [h1] at e
  cases e
  exact h2
 unfold loadVar
 rw [Qg (QmO ht w)]
 cases ha : i.agg with
 | true =>
  rw [ha] at hs
  simp only [mkS, Qxv] at hs
  subst hs
  refine ⟨.agg vs.toArray, ?_, vs.toArray, rfl, by simp [hvl], fun j x e => ?_⟩
  ·simp only [Qyo]
   rw [Qg (Qbb ht w), ← hl, ← hvl, Qg (run_loadCells_list w a vs hc)]
   rfl
  ·obtain ⟨v, h1, _, h3⟩ := hv j x e
   exact ⟨v, by simpa using h1, h3⟩
 | false =>
  rw [ha] at hs
  match xs, hs, hv with
  | [x], hs, hv =>
   simp only [mkS, Qxv] at hs
   subst hs
   obtain ⟨v, _, h2, h3⟩ := hv 0 x (by simp [getL])
   refine ⟨v, ?_, h3⟩
   have h0 : a.add 0 = a := by simp [Addr.add]
   rw [h0] at h2
   simp [h2]
  | [], hs, _ => simp [mkS] at hs
  | _ :: _ :: _, hs, _ => simp [mkS] at hs
theorem QaS (b o j : Nat) : (⟨b, o, none⟩ : Addr).add j = ⟨b, o + j, none⟩ := by
 unfold Addr.add; split <;> simp_all
def Qb0 (i : TI) (H : List O) (p : C) : Option (List Prop × S) :=
 match p with
 | .ptr id off => match getL H id with
  | some (.vr cs) => match cut cs off i.size with
   | some xs => match mkS i.agg xs with
    | some s => some ([], s)
    | none => none
   | none => none
  | _ => none
 | .ep id k j tot => match getL H id with
  | some (.arr _ es n get) => match mkS i.agg (gets (get k) j i.size) with
   | some s => some ([tot = n, j + i.size ≤ es], s)
   | none => none
  | _ => none
 | .ip n get => QfC (gets get 0 i.size) fun xs => match mkS i.agg xs with
  | some s => some ([i.size ≤ n], s)
  | none => none
 | _ => none
theorem QmE 
  (ht : TIok P t i) (hw : HSat K F H μ w) (hp : RepC F H μ p v) (h : Qb0 i H p = some (ns, s)) (hn : ∀ q ∈ ns, q) :
  ∃ r, (Instr.loadAt t v).run P w = .ok r w ∧ RepS F H μ s r := by
 cases p with
 | ptr id off =>
  obtain ⟨⟨cs, h1⟩, b, h2, h3⟩ := hp
  subst h3
  simp only [Qb0, h1] at h
  cases hc : cut cs off i.size with
  | none => simp [hc] at h
  | some xs =>
   cases hm : mkS i.agg xs with
   | none => simp [hc, hm] at h
   | some s' =>
    simp only [hc, hm, Qxv, QxI] at h
    obtain ⟨_, rfl⟩ := h
    obtain ⟨e1, e2⟩ := Qiv _ _ _ _ hc
    obtain ⟨b', c, T, k1, k2, k3⟩ := hw.ob id _ h1
    rw [h2] at k1
    cases k1
    have := QfK (P := P) (F := F) (H := H) (μ := μ) (w := w) (a := ⟨b, off, none⟩) ht e1 (fun j x e => by
     obtain ⟨v, hv, hr⟩ := k3.2 (off + j) x (e2 j x e)
     refine ⟨v, ?_, hr⟩
     rw [QaS, cell_of_row w b _ c T (0, 0) k2, hv]) hm
    obtain ⟨r, r1, r2⟩ := this
    exact ⟨r, by simpa [Instr.loadAt, Instr.sureAddr] using r1, r2⟩
 | ep id k j tot =>
  obtain ⟨_, e, es, n, g, h1, h2, h3⟩ := hp
  simp only [Qb0, h1] at h
  cases hm : mkS i.agg (gets (g k) j i.size) with
  | none => simp [hm] at h
  | some s' =>
   simp only [hm, Qxv, QxI] at h
   obtain ⟨rfl, rfl⟩ := h
   have hq : tot = n := hn _ (by simp)
   have hes : j + i.size ≤ es := hn _ (by simp)
   obtain ⟨b, cap, m1, m2, m3⟩ := h3 hq
   subst m3
   obtain ⟨xs, o1, o2, o3, o4⟩ := hw.ob id _ h1
   obtain ⟨g1, g2⟩ := Qka (g k) i.size j
   have hcell := o1.cells (g := b) (by rw [m1]; rfl)
   have := QfK (P := P) (F := F) (H := H) (μ := μ) (w := w) (a := ⟨b, k * es + j, none⟩) ht g1 (fun l x e => by
    obtain ⟨q1, q2⟩ := g2 l x e
    obtain ⟨v, hv, hr⟩ := o3 k m2 (j + l) om
    refine ⟨v, ?_, by rw [q2]; exact hr⟩
    have := hcell (k * es + (j + l)) v hv
    rw [QaS] at this ⊢
    rw [show k * es + j + l = 0 + (k * es + (j + l)) by omega]
    exact this) hm
   obtain ⟨r, r1, r2⟩ := this
   exact ⟨r, by simpa [Instr.loadAt, Instr.sureAddr] using r1, r2⟩
 | ip n get =>
  obtain ⟨b, off, hv, hc⟩ := hp
  subst hv
  simp only [Qb0, QdP] at h
  cases hm : mkS i.agg (gets get 0 i.size) with
  | none => simp [hm] at h
  | some s' =>
   simp only [hm, Qxv, QxI] at h
   obtain ⟨rfl, rfl⟩ := h
   have hsz : i.size ≤ n := hn _ (by simp)
   obtain ⟨g1, g2⟩ := Qka get i.size 0
   have := QfK (P := P) (F := F) (H := H) (μ := μ) (w := w) (a := ⟨b, off, none⟩) ht g1 (fun l x e => by
    obtain ⟨q1, q2⟩ := g2 l x e
    obtain ⟨v, hv, hr⟩ := hc l om
    refine ⟨v, ?_, by rw [q2, QxX]; exact RepF.toC H μ _ _ hr⟩
    rw [QaS]
    unfold Mem.cell at hv
    cases hf : F b with
    | none => simp [hf] at hv
    | some o =>
     rw [hf] at hv
     cases o with
     | cells c T fz => rw [cell_of_row w b _ c T fz (hw.fr b _ hf)]; exact hv
     | _ => simp at hv) hm
   obtain ⟨r, r1, r2⟩ := this
   exact ⟨r, by simpa [Instr.loadAt, Instr.sureAddr] using r1, r2⟩
 | _ => simp [Qb0] at h
def Qev (Γ : Env) (t f : Nat) : Option Nat :=
 match Γ.at t with
 | some i => match i.td with
  | .strct fs => match getL fs f with
   | some x => some x.1
   | none => none
  | _ => none
 | none => none
theorem QnU (hΓ : Qw P Γ) (h : Qev Γ t f = some o) :
  ∃ fs x i, P.underlying t = some (.struct fs) ∧ fs[f]? = some x ∧ x.offset = o ∧ P.info? x.type = some i ∧ i.size ≠ 0 := by
 unfold Qev at h
 cases h1 : Γ.at t with
 | none => simp [h1] at h
 | some i =>
  simp only [h1] at h
  obtain ⟨d, h2, h3⟩ := (hΓ t i h1).und
  cases htd : i.td with
  | strct l =>
   simp only [htd] at h h3
   cases d with
   | struct fs =>
    obtain ⟨e1, e2⟩ := h3
    cases hg : getL l f with
    | none => simp [hg] at h
    | some x =>
     simp only [hg, Qxv] at h
     rw [Qc, e1, Qyx] at hg
     cases hf : fs.toList[f]? with
     | none => simp [hf] at hg
     | some y =>
      simp only [hf, Qyd, Qxv] at hg
      subst hg
      obtain ⟨j, j1, j2⟩ := e2 y (Qx8 hf)
      exact ⟨fs, y, j, h2, by simpa using hf, h, j1, j2⟩
   | _ => simp [tdOk] at h3
  | _ => simp [htd] at h
theorem QfO (hΓ : Qw P Γ) (h : Qev Γ t f = some o) (a : Addr) (w : World) :
  (Instr.fieldAt t (.pointer (some a)) f).run P w = .ok (.pointer (some (a.add o))) w := by
 obtain ⟨fs, x, i, h1, h2, h3, h4, h5⟩ := QnU hΓ h
 unfold Instr.fieldAt
 rw [Qg (run_underlying h1 w)]
 simp only [h2]
 have hsz : (sizeOf x.type).run P w = .ok i.size w := by simp [sizeOf, typeInfo, h4]
 simp only [Instr.sureAddr, fieldPlace]
 simp [hsz, h5, h3]
def Qfr (o : Nat) : C → Option C
 | .ptr id off => some (.ptr id (off + o))
 | .ep id i j tot => some (.ep id i (j + o) tot)
 | .ip n get => some (.ip (n - o) fun j => get (o + j))
 | _ => none
theorem QrJ (hΓ : Qw P Γ) (h : Qev Γ t f = some o) (w : World) 
  (hp : RepC F H μ p v) (hc : Qfr o p = some c) (hep : ∀ id i j tot, p = .ep id i j tot → ∀ e es n g, getL H id = some (.arr e es n g) → tot = n) :
  ∃ r, (Instr.fieldAt t v f).run P w = .ok r w ∧ RepC F H μ c r := by
 cases p with
 | ptr id off =>
  simp only [Qfr, Qxv] at hc
  subst hc
  obtain ⟨h1, b, h2, rfl⟩ := hp
  exact ⟨_, QfO hΓ h _ w, h1, b, h2, by rw [QaS]⟩
 | ep id i j tot =>
  simp only [Qfr, Qxv] at hc
  subst hc
  obtain ⟨h0, e, es, n, g, h1, h2, h3⟩ := hp
  obtain ⟨b, cap, m1, m2, rfl⟩ := h3 (hep id i j tot rfl e es n g h1)
  exact ⟨_, QfO hΓ h _ w, rfl, e, es, n, g, h1, h2, fun _ => ⟨b, cap, m1, m2, by rw [QaS, Nat.add_assoc]⟩⟩
 | ip n get =>
  simp only [Qfr, Qxv] at hc
  subst hc
  obtain ⟨b, off, rfl, hcs⟩ := hp
  refine ⟨_, QfO hΓ h _ w, b, off + o, by rw [QaS], fun j hj => ?_⟩
  obtain ⟨x, h1, h2⟩ := hcs (o + j) om
  exact ⟨x, by rw [← h1]; congr 1; omega, h2⟩
 | _ => simp [Qfr] at hc
def Q2 (Γ : Env) (t : Nat) : Option (Nat × TI) :=
 match Γ.at t with
 | some i => match i.td with
  | .slice e => match Γ.at e with
   | some j => some (e, j)
   | none => none
  | _ => none
 | none => none
def QlN (Γ : Env) (t : Nat) : Option (Nat × Nat × TI) :=
 match Γ.at t with
 | some i => match i.td with
  | .arr n e => match Γ.at e with
   | some j => some (n, e, j)
   | none => none
  | _ => none
 | none => none
theorem Qm0 (hΓ : Qw P Γ) (h : QlN Γ t = some (n, e, j)) : P.underlying t = some (.array n e) ∧ TIok P e j := by
 unfold QlN at h
 cases h1 : Γ.at t with
 | none => simp [h1] at h
 | some i =>
  simp only [h1] at h
  obtain ⟨d, h2, h3⟩ := (hΓ t i h1).und
  cases htd : i.td with
  | arr n' e' =>
   simp only [htd] at h h3
   cases h4 : Γ.at e' with
   | none => simp [h4] at h
   | some j' =>
    simp only [h4, Qxv, QxI] at h
    obtain ⟨rfl, rfl, rfl⟩ := h
    cases d with
    | array m e'' =>
     obtain ⟨rfl, rfl⟩ := h3
     exact ⟨h2, hΓ _ _ h4⟩
    | _ => simp [tdOk] at h3
  | _ => simp [htd] at h
theorem Qab (hΓ : Qw P Γ) (h : Q2 Γ t = some (e, j)) : P.underlying t = some (.slice e) ∧ TIok P e j := by
 unfold Q2 at h
 cases h1 : Γ.at t with
 | none => simp [h1] at h
 | some i =>
  simp only [h1] at h
  obtain ⟨d, h2, h3⟩ := (hΓ t i h1).und
  cases htd : i.td with
  | slice e' =>
   simp only [htd] at h h3
   cases h4 : Γ.at e' with
   | none => simp [h4] at h
   | some j' =>
    simp only [h4, Qxv, QxI] at h
    obtain ⟨rfl, rfl⟩ := h
    cases d with
    | slice e'' => simp only [tdOk] at h3; subst h3; exact ⟨h2, hΓ _ _ h4⟩
    | _ => simp [tdOk] at h3
  | _ => simp [htd] at h
def QdS (te : TI) (H : List O) (x : C) (i : Int) : Option (List Prop × C) :=
 match x with
 | .isl es n get _ => match Nat.beq es te.size with
  | true => some ([0 ≤ i, i < n], .ip es fun j => get i.toNat j)
  | false => none
 | .sl id es len tot _ => match Nat.beq es te.size with
  | true => match getL H id with
   | some (.arr _ _ n _) => some ([0 ≤ i, i < len, tot = n], .ep id i.toNat 0 tot)
   | _ => none
  | false => none
 | _ => none
theorem Qrl (hΓ : Qw P Γ) (hw : HSat K F H μ w) (he : Q2 Γ t = some (e, te))
  {k : IntKind} {i : Int} (hx : RepC F H μ x v) (h : QdS te H x i = some (ns, c)) (hn : ∀ q ∈ ns, q) :
  ∃ r, (Instr.indexAt t v (.int k i)).run P w = .ok r w ∧ RepC F H μ c r := by
 obtain ⟨hu, hte⟩ := Qab hΓ he
 have run : ∀ (a : Addr) (n cap : Nat), 0 ≤ i → i < n → (Instr.indexAt t (.slice (some a) n cap) (.int k i)).run P w = .ok (.pointer (some (a.add (i.toNat * te.size)))) w := by
  intro a n cap h0 h1
  have hs := Qbb hte w
  simp [Instr.indexAt, asIntOf, run_underlying hu, h0, h1, hs]
 cases x with
 | isl es n get tight =>
  simp only [QdS] at h
  cases hb : Nat.beq es te.size with
  | false => simp [hb] at h
  | true =>
   have hes : es = te.size := QxD hb
   simp only [hb, Qxv, QxI] at h
   obtain ⟨rfl, rfl⟩ := h
   have h0 : 0 ≤ i := hn _ (by simp)
   have h1 : i < n := hn _ (by simp)
   obtain ⟨a, cap, rfl, _, _, _, _, h4⟩ := hx
   rcases h4 with h4 | ⟨b, off, rfl, hc⟩
   ·omega
   ·refine ⟨_, run _ n cap h0 h1, b, off + i.toNat * es, by rw [QaS, hes], fun j hj => ?_⟩
    obtain ⟨x, x1, x2⟩ := hc i.toNat om j hj
    exact ⟨x, x1, x2⟩
 | sl id es len tot xq =>
  simp only [QdS] at h
  cases hb : Nat.beq es te.size with
  | false => simp [hb] at h
  | true =>
   have hes : es = te.size := QxD hb
   simp only [hb] at h
   obtain ⟨_, e', n, g, h1, h2, h2', h3⟩ := hx
   simp only [h1, Qxv, QxI] at h
   obtain ⟨rfl, rfl⟩ := h
   have h0 : 0 ≤ i := hn _ (by simp)
   have hl : i < len := hn _ (by simp)
   have ht : tot = n := hn _ (by simp)
   obtain ⟨a, cap, m1, rfl, _⟩ := h3 ht
   obtain ⟨xs, o1, _, _⟩ := hw.ob id _ h1
   rcases o1.2 with ⟨q1, q2⟩ | ⟨b, cap', cur, q1, _⟩
   ·omega
   ·rw [m1] at q1
    simp only [Value.slice.injEq, true_and] at q1
    obtain ⟨rfl, rfl⟩ := q1
    refine ⟨_, run _ len cap h0 hl, rfl, e', es, n, g, h1, h2, fun _ => ⟨b, cap, m1, om, ?_⟩⟩
    rw [QaS, hes]; simp
 | _ => simp [QdS] at h
def Ql9 (Γ : Env) (t f : Nat) (cs : List C) : Option S :=
 match Γ.at t with
 | some i => match i.td with
  | .strct fs => match getL fs f with
   | some x => match Γ.at x.2 with
    | some j => match cut cs x.1 j.size with
     | some xs => mkS j.agg xs
     | none => none
    | none => none
   | none => none
  | _ => none
 | none => none
theorem Qou (ht : TIok P t i) {off : Nat} (w : World)
  (hl : RepL F H μ cs vs) (hc : cut cs off i.size = some xs) (hs : mkS i.agg xs = some s) : ∃ r, (part t vs off).run P w = .ok r w ∧ RepS F H μ s r := by
 obtain ⟨e1, e2⟩ := Qiv _ _ _ _ hc
 unfold part
 rw [Qg (QmO ht w)]
 cases ha : i.agg with
 | true =>
  rw [ha] at hs
  simp only [mkS, Qxv] at hs
  subst hs
  simp only [Qyo]
  rw [Qg (Qbb ht w)]
  refine ⟨_, rfl, _, rfl, ?_, fun j x hx => ?_⟩
  ·have hlen : off + i.size ≤ cs.length ∨ i.size = 0 := by
    by_cases h0 : i.size = 0
    ·exact .inr h0
    ·left
     have := e2 (i.size - 1) (xs[i.size - 1]'om) (by rw [Qc]; simp)
     rw [Qc] at this
     have := (QxU.1 this).1
     omega
   have := hl.1
   simp only [Array.size_extract]
   omega
  ·have hj : j < i.size := by rw [← e1]; rw [Qc] at hx; exact (QxU.1 hx).1
   obtain ⟨v, v1, v2⟩ := hl.2 (off + j) x (e2 j x hx)
   have hlt : off + j < vs.size := (QxH.1 v1).1
   refine ⟨v, ?_, v2⟩
   rw [Array.getElem?_extract]
   rw [Qxt om]
   exact v1
 | false =>
  rw [ha] at hs
  match xs, hs, e1, e2 with
  | [x], hs, e1, e2 =>
   simp only [mkS, Qxv] at hs
   subst hs
   obtain ⟨v, v1, v2⟩ := hl.2 (off + 0) x (e2 0 x (by simp [getL]))
   rw [Qzb] at v1
   exact ⟨v, by simp [v1], v2⟩
  | [], hs, _, _ => simp [mkS] at hs
  | _ :: _ :: _, hs, _, _ => simp [mkS] at hs
theorem QqT (hΓ : Qw P Γ) (w : World) (hl : RepL F H μ cs vs)
  (h : Ql9 Γ t f cs = some s) : ∃ r, (Instr.field t (.agg vs) f).run P w = .ok r w ∧ RepS F H μ s r := by
 unfold Ql9 at h
 cases h1 : Γ.at t with
 | none => simp [h1] at h
 | some i =>
  simp only [h1] at h
  obtain ⟨d, h2, h3⟩ := (hΓ t i h1).und
  cases htd : i.td with
  | strct l =>
   simp only [htd] at h h3
   cases d with
   | struct fs =>
    obtain ⟨e1, e2⟩ := h3
    cases hg : getL l f with
    | none => simp [hg] at h
    | some x =>
     simp only [hg] at h
     cases hj : Γ.at x.2 with
     | none => simp [hj] at h
     | some j =>
      simp only [hj] at h
      cases hc : cut cs x.1 j.size with
      | none => simp [hc] at h
      | some xs =>
       simp only [hc] at h
       rw [Qc, e1, Qyx] at hg
       cases hf : fs.toList[f]? with
       | none => simp [hf] at hg
       | some y =>
        simp only [hf, Qyd, Qxv] at hg
        subst hg
        obtain ⟨r, r1, r2⟩ := Qou (hΓ _ _ hj) w hl hc h
        refine ⟨r, ?_, r2⟩
        unfold Instr.field
        rw [Qg (run_underlying h2 w)]
        have : fs[f]? = some y := by simpa using hf
        simp only [this]
        rw [Qg (show (asAgg (.agg vs)).run P w = .ok vs w from rfl)]
        exact r1
   | _ => simp [tdOk] at h3
  | _ => simp [htd] at h
def splice {α : Type} : List α → Nat → List α → Option (List α)
 | l, 0, [] => some l
 | [], 0, _ :: _ => none
 | _ :: r, 0, y :: ys => match splice r 0 ys with
  | some l => some (y :: l)
  | none => none
 | [], _ + 1, _ => none
 | x :: r, k + 1, ys => match splice r k ys with
  | some l => some (x :: l)
  | none => none
theorem QbL {α : Type} : ∀ (l : List α) (k : Nat) (ys r : List α), splice l k ys = some r →
  r.length = l.length ∧ k + ys.length ≤ l.length ∧ ∀ (j : Nat), getL r j = if k ≤ j ∧ j < k + ys.length then getL ys (j - k) else getL l j
 | l, 0, [], r, h => by
  have : r = l := by cases l <;> simp [splice] at h <;> first | exact h | exact h.symm
  subst this
  refine ⟨rfl, by simp, fun j => ?_⟩
  rw [Qxu (by simp)]
 | [], 0, _ :: _, r, h => by simp [splice] at h
 | x :: l, 0, y :: ys, r, h => by
  simp only [splice] at h
  cases hs : splice l 0 ys with
  | none => simp [hs] at h
  | some l' =>
   simp only [hs, Qxv] at h
   subst h
   obtain ⟨h1, h2, h3⟩ := QbL l 0 ys l' hs
   refine ⟨by simp [h1], by simp at h2 ⊢; omega, fun j => ?_⟩
   cases j with
   | zero => simp [getL]
   | succ j =>
    simp only [getL, h3 j, QxR]
    by_cases hj : j < ys.length
    ·rw [Qxt om, Qxt om]; simp [getL]
    ·rw [Qxu om, Qxu om]
 | [], k + 1, ys, r, h => by simp [splice] at h
 | x :: l, k + 1, ys, r, h => by
  simp only [splice] at h
  cases hs : splice l k ys with
  | none => simp [hs] at h
  | some l' =>
   simp only [hs, Qxv] at h
   subst h
   obtain ⟨h1, h2, h3⟩ := QbL l k ys l' hs
   refine ⟨by simp [h1], by simp; omega, fun j => ?_⟩
   cases j with
   | zero => simp [getL]
   | succ j =>
    simp only [getL, h3 j]
    by_cases hj : k ≤ j ∧ j < k + ys.length
    ·rw [Qxt hj, Qxt om]; congr 1; omega
    ·rw [Qxu hj, Qxu om]
def S.cells : S → Option (List C)
 | .c x => some [x]
 | .a xs => some xs
 | _ => none
theorem Qdi (hs : RepS F H μ s v) (h : s.cells = some xs) : RepL F H μ xs v.cells := by
 cases s with
 | c x =>
  simp only [S.cells, Qxv] at h
  subst h
  have h1 := RepC.one x v hs
  have : v.cells = #[v] := by cases v <;> first | rfl | (simp [Value.oneCell'] at h1)
  rw [this]
  refine ⟨rfl, fun j y hy => ?_⟩
  cases j with
  | zero => simp [getL] at hy; subst hy; exact ⟨v, rfl, hs⟩
  | succ j => simp [getL] at hy
 | a l =>
  simp only [S.cells, Qxv] at h
  subst h
  obtain ⟨cs, rfl, hl⟩ := hs
  exact hl
 | _ => simp [S.cells] at h
theorem RepL.splice {l ys r : List C} {k : Nat} {cs : Array Value} (hl : RepL F H μ l cs) (hy : RepL F H μ ys vs) (h : splice l k ys = some r) :
  RepL F H μ r (vs.zipIdx.foldl (fun cs (c, j) => cs.setIfInBounds (k + j) c) cs) := by
 obtain ⟨h1, h2, h3⟩ := QbL l k ys r h
 have key : ∀ (us : List Value) (m : Nat) (cs : Array Value), k + m + us.length ≤ cs.size →
   ((us.zipIdx m).foldl (fun cs (c, j) => cs.setIfInBounds (k + j) c) cs).size = cs.size ∧
   ∀ q : Nat, ((us.zipIdx m).foldl (fun cs (c, j) => cs.setIfInBounds (k + j) c) cs)[q]? = if k + m ≤ q ∧ q < k + m + us.length then us[q - (k + m)]? else cs[q]? := by
  intro us
  induction us with
  | nil => intro m cs _; exact ⟨rfl, fun q => by simp; omega⟩
  | cons u us ih =>
   intro m cs hm
   simp only [QxR] at hm
   rw [List.zipIdx_cons, List.foldl_cons]
   obtain ⟨i1, i2⟩ := ih (m + 1) (cs.setIfInBounds (k + m) u) (by rw [Array.size_setIfInBounds]; omega)
   refine ⟨by rw [i1]; simp, fun q => ?_⟩
   rw [i2 q]
   simp only [QxR]
   by_cases c1 : k + m = q
   ·subst c1
    have hlt : k + m < cs.size := by omega
    rw [Qxu om, Qxt om]
    simp [hlt]
   ·by_cases c2 : k + m ≤ q ∧ q < k + m + (us.length + 1)
    ·rw [Qxt om, Qxt c2]
     rw [show q - (k + m) = (q - (k + (m + 1))) + 1 by omega]
     simp
    ·rw [Qxu om, Qxu c2, Qya c1]
 have hz : vs.zipIdx.foldl (fun cs (c, j) => cs.setIfInBounds (k + j) c) cs = (vs.toList.zipIdx 0).foldl (fun cs (c, j) => cs.setIfInBounds (k + j) c) cs := by
  rw [← Array.foldl_toList, Array.toList_zipIdx]
 have hsz : k + vs.size ≤ cs.size := by rw [hl.1, hy.1]; exact h2
 obtain ⟨z1, z2⟩ := key vs.toList 0 cs (by simp; exact hsz)
 rw [hz]
 refine ⟨by rw [z1, hl.1, h1], fun j x hx => ?_⟩
 rw [h3 j] at hx
 rw [z2 j]
 have hys := hy.1
 simp only [Qzb, Qx7]
 by_cases c : k ≤ j ∧ j < k + ys.length
 ·rw [Qxt c] at hx
  rw [Qxt om]
  obtain ⟨v, v1, v2⟩ := hy.2 _ x hx
  exact ⟨v, by simpa using v1, v2⟩
 ·rw [Qxu c] at hx
  rw [Qxu om]
  exact hl.2 j x hx
def QN (i : TI) : List C := i.zero.map Z.toC
theorem Qux (z : Z) : RepC F H μ z.toC z.toV := by
 cases z <;> first | rfl | skip
 ·exact ⟨rfl, by unfold maxLen; exact Qxx _⟩
theorem QcI (ht : TIok P t i) (w : World) :
  ∃ z, (zeroValue t).run P w = .ok z w ∧ RepL F H μ (QN i) z.cells ∧ (∃ x, P.info? t = some x ∧ x.zero = some z) := by
 obtain ⟨x, h1, _, _, z, h3, h4⟩ := ht.info
 refine ⟨z, by simp [zeroValue, typeInfo, h1, h3], ⟨?_, fun j c hc => ?_⟩, x, h1, h3⟩
 ·rw [← Qx7, h4]; simp [QN]
 ·rw [Qc] at hc
  simp only [QN, Qyx] at hc
  cases hz : i.zero[j]? with
  | none => simp [hz] at hc
  | some y =>
   simp only [hz, Qyd, Qxv] at hc
   subst hc
   refine ⟨y.toV, ?_, Qux y⟩
   rw [← Qyt, h4]
   simp [hz]
def QaD (ts : Ts) : List (Nat × Operand) → List Prop
 | [] => []
 | (_, x) :: r => (bare (opnd ts x)).1 ++ QaD ts r
def Qci (Γ : Env) (fs : List (Nat × Nat)) (ts : Ts) : List (Nat × Operand) → List C → Option (List C)
 | [], cells => some cells
 | (i, x) :: r, cells => match getL fs i with
  | some f => match Γ.at f.2 with
   | some j => match (bare (opnd ts x)).2.cells with
    | some ys => match Nat.beq ys.length j.size with
     | true => match splice cells f.1 ys with
      | some cells' => Qci Γ fs ts r cells'
      | none => none
     | false => none
    | none => none
   | none => none
  | none => none
def Qcb (es : Nat) (ts : Ts) : List (Nat × Operand) → List C → Option (List C)
 | [], cells => some cells
 | (i, x) :: r, cells => match (bare (opnd ts x)).2.cells with
  | some ys => match Nat.beq ys.length es with
   | true => match splice cells (i * es) ys with
    | some cells' => Qcb es ts r cells'
    | none => none
   | false => none
  | none => none
theorem Qrt {a : Act} (hT : TSat F H μ ts a.tmps) (es : Nat) :
  ∀ (ps : List (Nat × Operand)) (cells r : List C) (vs : Array Value), (∀ q ∈ QaD ts ps, q) → Qcb es ts ps cells = some r → RepL F H μ cells vs →
   ∃ us, Instr.fill (fun i => some (i * es, es)) vs (ps.map fun x => (x.1, a.eval x.2)) = some us ∧ RepL F H μ r us := by
 intro ps
 induction ps with
 | nil => intro cells r vs hq h hl; simp only [Qcb, Qxv] at h; subst h; exact ⟨vs, rfl, hl⟩
 | cons p ps ih =>
  obtain ⟨i, x⟩ := p
  intro cells r vs hq h hl
  simp only [Qcb] at h
  cases h3 : (bare (opnd ts x)).2.cells with
  | none => simp [h3] at h
  | some ys =>
   cases h4 : Nat.beq ys.length es with
   | false => simp only [h3, h4] at h; cases h
   | true =>
    cases h5 : Am.splice cells (i * es) ys with
    | none => simp only [h3, h4, h5] at h; cases h
    | some cells' =>
     simp only [h3, h4, h5] at h
     have hys := Qdi (Qaq (Q9 hT x) (Prod.eta _).symm (fun q hq' => hq q (by simp only [QaD]; exact Qyc.2 (.inl hq')))) h3
     obtain ⟨us, u1, u2⟩ := ih cells' r _ (fun q hq' => hq q (by simp only [QaD]; exact Qyc.2 (.inr hq'))) h (hl.splice hys h5)
     have hsz' : (a.eval x).cells.size = es := by rw [hys.1]; exact QxD h4
     have hfit := (QbL _ _ _ _ h5).2.1
     refine ⟨us, ?_, u2⟩
     simp only [Qyz, Instr.fill]
     rw [Qxu]
     ·exact u1
     ·have q1 := hl.1
      have q2 := hys.1
      simp [hsz']
      omega
def Qfy (Γ : Env) (ts : Ts) (t : Nat) (parts : List (Nat × Operand)) : Option S :=
 match Γ.at t with
 | some i => match i.td with
  | .strct fs => match Qci Γ fs ts parts (QN i) with
   | some cs => some (.a cs)
   | none => none
  | .arr _ e => match Γ.at e with
   | some j => match Qcb j.size ts parts (QN i) with
    | some cs => some (.a cs)
    | none => none
   | none => none
  | _ => none
 | none => none
theorem QqO (hΓ : Qw P Γ) {a : Act} (hT : TSat F H μ ts a.tmps) (fields : List Field) (fs : List (Nat × Nat))
  (hf : fs = fields.map fun f => (f.offset, f.type)) (places : List (Nat × Nat)) (hp : fields.mapM (fun f => (P.info? f.type).map fun i => (f.offset, i.size)) = some places) :
  ∀ (parts : List (Nat × Operand)) (cells : List C) (r : List C) (vs : Array Value), (∀ q ∈ QaD ts parts, q) → Qci Γ fs ts parts cells = some r → RepL F H μ cells vs →
   ∃ us, Instr.fill (places.toArray[·]?) vs (parts.map fun x => (x.1, a.eval x.2)) = some us ∧ RepL F H μ r us := by
 have hpl : ∀ (i : Nat) (f : Nat × Nat) (j : TI), getL fs i = some f → Γ.at f.2 = some j → places[i]? = some (f.1, j.size) := by
  intro i f j h1 h2
  rw [Qc, hf, Qyx] at h1
  cases hy : fields[i]? with
  | none => simp [hy] at h1
  | some y =>
   simp only [hy, Qyd, Qxv] at h1
   subst h1
   obtain ⟨x, x1, x2, _⟩ := (hΓ _ _ h2).info
   have key : ∀ (l : List Field) (p : List (Nat × Nat)) (i : Nat), l.mapM (fun f => (P.info? f.type).map fun i => (f.offset, i.size)) = some p → l[i]? = some y → p[i]? = some (y.offset, j.size) := by
    intro l
    induction l with
    | nil => intro p i _ h; simp at h
    | cons z l ih =>
     intro p i hm hi
     simp only [List.mapM_cons, Option.bind_eq_bind, Option.pure_def] at hm
     cases hz : P.info? z.type with
     | none => simp [hz] at hm
     | some iz =>
      cases hr : l.mapM (fun f => (P.info? f.type).map fun i => (f.offset, i.size)) with
      | none => simp [hz, hr] at hm
      | some p' =>
       simp [hz, hr] at hm
       subst hm
       cases i with
       | zero =>
        simp at hi
        subst hi
        rw [x1] at hz
        cases hz
        simp [x2]
       | succ i => simp at hi ⊢; exact ih p' i hr hi
   exact key fields places i hp hy
 intro parts
 induction parts with
 | nil => intro cells r vs hq h hl; simp only [Qci, Qxv] at h; subst h; exact ⟨vs, rfl, hl⟩
 | cons p parts ih =>
  obtain ⟨i, x⟩ := p
  intro cells r vs hq h hl
  simp only [Qci] at h
  cases h1 : getL fs i with
  | none => simp [h1] at h
  | some f =>
   cases h2 : Γ.at f.2 with
   | none => simp [h1, h2] at h
   | some j =>
    cases h3 : (bare (opnd ts x)).2.cells with
    | none => simp [h1, h2, h3] at h
    | some ys =>
     cases h4 : Nat.beq ys.length j.size with
     | false => simp only [h1, h2, h3, h4] at h; cases h
     | true =>
      cases h5 : splice cells f.1 ys with
      | none => simp only [h1, h2, h3, h4, h5] at h; cases h
      | some cells' =>
       simp only [h1, h2, h3, h4, h5] at h
       have hys := Qdi (Qaq (Q9 hT x) (Prod.eta _).symm (fun q hq' => hq q (by simp only [QaD]; exact Qyc.2 (.inl hq')))) h3
       obtain ⟨us, u1, u2⟩ := ih cells' r _ (fun q hq' => hq q (by simp only [QaD]; exact Qyc.2 (.inr hq'))) h (hl.splice hys h5)
       have hsz : (a.eval x).cells.size = j.size := by rw [hys.1]; exact QxD h4
       have hfit := (QbL _ _ _ _ h5).2.1
       refine ⟨us, ?_, u2⟩
       simp only [Qyz, Instr.fill]
       have := hpl i f j h1 h2
       simp only [QyU, this]
       rw [Qxu]
       ·simpa using u1
       ·have q1 := hl.1
        have q2 := hys.1
        simp [hsz]
        omega
theorem QqW (hΓ : Qw P Γ) {a : Act} (hT : TSat F H μ ts a.tmps) {parts : Array (Nat × Operand)} (w : World)
  (h : Qfy Γ ts t parts.toList = some s) (hq : ∀ q ∈ QaD ts parts.toList, q) : ∃ r, (Instr.build t (parts.map fun (i, x) => (i, a.eval x))).run P w = .ok r w ∧ RepS F H μ s r := by
 unfold Qfy at h
 cases h1 : Γ.at t with
 | none => simp [h1] at h
 | some i =>
  simp only [h1] at h
  have hti := hΓ t i h1
  obtain ⟨d, h2, h3⟩ := hti.und
  cases htd : i.td with
  | strct fs =>
   simp only [htd] at h h3
   cases d with
   | struct fields =>
    obtain ⟨e1, e2⟩ := h3
    cases hb : Qci Γ fs ts parts.toList (QN i) with
    | none => simp [hb] at h
    | some cs =>
     simp only [hb, Qxv] at h
     subst h
     obtain ⟨z, z1, z2, x, x1, x2⟩ := QcI (F := F) (H := H) (μ := μ) hti w
     have hm : ∃ places, fields.toList.mapM (fun f => (P.info? f.type).map fun i => (f.offset, i.size)) = some places := by
      have : ∀ l : List Field, (∀ f ∈ l, ∃ i, P.info? f.type = some i ∧ i.size ≠ 0) → ∃ places, l.mapM (fun f => (P.info? f.type).map fun i => (f.offset, i.size)) = some places := by
       intro l
       induction l with
       | nil => intro _; exact ⟨[], rfl⟩
       | cons f l ih =>
        intro hl
        obtain ⟨i, i1, _⟩ := hl f (by simp)
        obtain ⟨p, hp⟩ := ih (fun g hg => hl g (by simp [hg]))
        exact ⟨(f.offset, i.size) :: p, by simp [List.mapM_cons, i1, hp]⟩
      exact this _ e2
     obtain ⟨places, hp⟩ := hm
     obtain ⟨us, u1, u2⟩ := QqO hΓ hT fields.toList fs e1 places hp parts.toList (QN i) cs z.cells hq hb z2
     refine ⟨.agg us, run_build w t _ us ?_, us, rfl, u2⟩
     unfold Program.built
     simp only [x1, h2, x2, hp]
     simpa using u1
   | _ => simp [tdOk] at h3
  | arr n e =>
   simp only [htd] at h h3
   cases d with
   | array m e' =>
    obtain ⟨rfl, rfl⟩ := h3
    cases hj : Γ.at e' with
    | none => simp [hj] at h
    | some jt =>
     simp only [hj] at h
     cases hb : Qcb jt.size ts parts.toList (QN i) with
     | none => simp [hb] at h
     | some cs =>
      simp only [hb, Qxv] at h
      subst h
      obtain ⟨z, z1, z2, x, x1, x2⟩ := QcI (F := F) (H := H) (μ := μ) hti w
      obtain ⟨ie, e1, e2, -⟩ := (hΓ _ _ hj).info
      obtain ⟨us, u1, u2⟩ := Qrt hT jt.size parts.toList (QN i) cs z.cells hq hb z2
      refine ⟨.agg us, run_build w t _ us ?_, us, rfl, u2⟩
      unfold Program.built
      simp only [x1, h2, x2, e1, e2]
      simpa using u1
   | _ => simp [tdOk] at h3
  | _ => simp [htd] at h
def Qa1 (x : C) (lo hi mx : Option Int) : Option (List Prop × C) :=
 match x with
 | .isl es n get tight => match mx with
  | none => match lo with
   | none => match hi with
    | none => some ([], .isl es n get tight)
    | some h => some ([0 ≤ h, h ≤ n], .isl es h.toNat get false)
   | some l => match hi with
    | none => some ([0 ≤ l, l ≤ n], .isl es (n - l.toNat) (fun i j => get (l.toNat + i) j) false)
    | some h => some ([0 ≤ l, l ≤ h, h ≤ n], .isl es (h.toNat - l.toNat) (fun i j => get (l.toNat + i) j) false)
  | some m => match lo with
   | none => match hi with
    | none => none
    | some h => some ([0 ≤ h, h ≤ n, m = h], .isl es h.toNat get true)
   | some l => match hi with
    | none => none
    | some h => some ([0 ≤ l, l ≤ h, h ≤ n, m = h], .isl es (h.toNat - l.toNat) (fun i j => get (l.toNat + i) j) true)
 | .str s => match mx with
  | some _ => none
  | none => match lo with
   | none => match hi with
    | none => some ([], .str s)
    | some h => some ([0 ≤ h, h ≤ s.size], .str (s.extract 0 h.toNat))
   | some l => match hi with
    | none => some ([0 ≤ l, l ≤ s.size], .str (s.extract l.toNat s.size))
    | some h => some ([0 ≤ l, l ≤ h, h ≤ s.size], .str (s.extract l.toNat h.toNat))
 | _ => none
theorem Qdh {es : Nat} {get : Nat → Nat → C} {tight : Bool} (hx : RepF F (.isl es n get tight) (.slice a n cap)) (l h m : Nat) (tight' : Bool)
  (h1 : l ≤ h) (h2 : h ≤ n) (h3 : h ≤ m) (_h4 : m ≤ cap) (ht : tight' = true → m = h) (get' : Nat → Nat → C) (hg : ∀ i j, get' i j = get (l + i) j) :
  RepF F (.isl es (h - l) get' tight') (sliced a l h m es) := by
 obtain ⟨a', cap', e, q1, q2, q3, q3', q4⟩ := hx
 cases e
 refine ⟨_, _, rfl, om, om, fun e => by have := ht e; omega, fun e => ?_, ?_⟩
 ·by_cases c : m = l
  ·omega
  ·rw [Qxu c] at e
   cases a with
   | none => have := q3' rfl; omega
   | some a => simp at e
 by_cases h0 : h - l = 0
 ·exact .inl h0
 ·right
  rcases q4 with q4 | ⟨b, off, rfl, hc⟩
  ·omega
  ·rw [Qxu om]
   refine ⟨b, off + l * es, by simp [QaS], fun i hi j hj => ?_⟩
   obtain ⟨x, x1, x2⟩ := hc (l + i) om j hj
   refine ⟨x, ?_, by rw [hg]; exact x2⟩
   rw [← x1]; congr 1; rw [Qyh]; omega
def QfR : Option Int → Option Value → Prop
 | none, none => True
 | some n, some v => ∃ k, v = .int k n
 | _, _ => False
def QrY (P : Program) (Γ : Env) (t : Nat) : C → Prop
 | .isl es _ _ _ => ∃ e te, Q2 Γ t = some (e, te) ∧ es = te.size
 | _ => P.underlying t = some .string
theorem Qry (hΓ : Qw P Γ) (w : World) {lo hi mx : Option Int} {vlo vhi vmx : Option Value} 
  (hx : RepC F H μ x v) (h : Qa1 x lo hi mx = some (ns, c)) (hn : ∀ q ∈ ns, q) (hlo : QfR lo vlo) (hhi : QfR hi vhi) (hmx : QfR mx vmx)
  (ht : QrY P Γ t x) :
  ∃ r, (Instr.sliceAt t v vlo vhi vmx).run P w = .ok r w ∧ RepC F H μ c r := by
 cases x with
 | isl es n get tight =>
  obtain ⟨e, te, he, hes⟩ := ht
  obtain ⟨hu, hte⟩ := Qab hΓ he
  have hel : P.elem t = e := by simp [Program.elem, hu]
  have hu' : P.underlying t = some (.slice (P.elem t)) := by rw [hel]; exact hu
  have hsz : (sizeOf (P.elem t)).run P w = .ok es w := by rw [hel, hes]; exact Qbb hte w
  have hx' := hx
  obtain ⟨a, cap, rfl, q1, q2, q3, q3', q4⟩ := hx'
  rw [run_sliceAt_slice w t _ _ _ _ hu']
  cases mx with
  | none =>
   cases vmx with
   | some _ => exact hmx.elim
   | none =>
   cases lo with
   | none =>
    cases vlo with
    | some _ => exact hlo.elim
    | none =>
    cases hi with
    | none =>
     cases vhi with
     | some _ => exact hhi.elim
     | none =>
     simp only [Qa1, Qxv, QxI] at h
     obtain ⟨rfl, rfl⟩ := h
     rw [run_slice_all w t a n cap hu', hsz]
     refine ⟨_, rfl, RepF.toC H μ _ _ ?_⟩
     have := Qdh (F := F) hx 0 n cap tight om om q2 om q3 get (fun i j => by simp)
     simpa using this
    | some hh =>
     cases vhi with
     | none => exact hhi.elim
     | some vh =>
     obtain ⟨k, rfl⟩ := hhi
     simp only [Qa1, Qxv, QxI] at h
     obtain ⟨rfl, rfl⟩ := h
     have c0 : 0 ≤ hh := hn _ (by simp)
     have c1 : hh ≤ n := hn _ (by simp)
     rw [run_slice_h w t a n cap hu' k hh c0 om, hsz]
     refine ⟨_, rfl, RepF.toC H μ _ _ ?_⟩
     have := Qdh (F := F) hx 0 hh.toNat cap false om om om om (by simp) get (fun i j => by simp)
     simpa using this
   | some ll =>
    cases vlo with
    | none => exact hlo.elim
    | some vl =>
    obtain ⟨kl, rfl⟩ := hlo
    cases hi with
    | none =>
     cases vhi with
     | some _ => exact hhi.elim
     | none =>
     simp only [Qa1, Qxv, QxI] at h
     obtain ⟨rfl, rfl⟩ := h
     have c0 : 0 ≤ ll := hn _ (by simp)
     have c1 : ll ≤ n := hn _ (by simp)
     rw [run_slice_l w t a n cap hu' kl ll c0 om, hsz]
     refine ⟨_, rfl, RepF.toC H μ _ _ ?_⟩
     exact Qdh (F := F) hx ll.toNat n cap false om om om om (by simp) _ (fun i j => rfl)
    | some hh =>
     cases vhi with
     | none => exact hhi.elim
     | some vh =>
     obtain ⟨k, rfl⟩ := hhi
     simp only [Qa1, Qxv, QxI] at h
     obtain ⟨rfl, rfl⟩ := h
     have c0 : 0 ≤ ll := hn _ (by simp)
     have c1 : ll ≤ hh := hn _ (by simp)
     have c2 : hh ≤ n := hn _ (by simp)
     rw [run_slice_lh w t a n cap hu' kl k ll hh c0 c1 om, hsz]
     refine ⟨_, rfl, RepF.toC H μ _ _ ?_⟩
     exact Qdh (F := F) hx ll.toNat hh.toNat cap false om om om om (by simp) _ (fun i j => rfl)
  | some m =>
   cases vmx with
   | none => exact hmx.elim
   | some vm =>
   obtain ⟨km, rfl⟩ := hmx
   cases lo with
   | none =>
    cases vlo with
    | some _ => exact hlo.elim
    | none =>
    cases hi with
    | none => simp [Qa1] at h
    | some hh =>
     cases vhi with
     | none => exact hhi.elim
     | some vh =>
     obtain ⟨k, rfl⟩ := hhi
     simp only [Qa1, Qxv, QxI] at h
     obtain ⟨rfl, rfl⟩ := h
     have c0 : 0 ≤ hh := hn _ (by simp)
     have c1 : hh ≤ n := hn _ (by simp)
     have c2 : m = hh := hn _ (by simp)
     subst c2
     rw [run_slice_hm w t a n cap hu' k km m m c0 om om, hsz]
     refine ⟨_, rfl, RepF.toC H μ _ _ ?_⟩
     have := Qdh (F := F) hx 0 m.toNat m.toNat true om om om om (by simp) get (fun i j => by simp)
     simpa using this
   | some ll =>
    cases vlo with
    | none => exact hlo.elim
    | some vl =>
    obtain ⟨kl, rfl⟩ := hlo
    cases hi with
    | none => simp [Qa1] at h
    | some hh =>
     cases vhi with
     | none => exact hhi.elim
     | some vh =>
     obtain ⟨k, rfl⟩ := hhi
     simp only [Qa1, Qxv, QxI] at h
     obtain ⟨rfl, rfl⟩ := h
     have c0 : 0 ≤ ll := hn _ (by simp)
     have c1 : ll ≤ hh := hn _ (by simp)
     have c2 : hh ≤ n := hn _ (by simp)
     have c3 : m = hh := hn _ (by simp)
     subst c3
     rw [run_slice_lhm w t a n cap hu' kl k km ll m m c0 c1 om om, hsz]
     refine ⟨_, rfl, RepF.toC H μ _ _ ?_⟩
     exact Qdh (F := F) hx ll.toNat m.toNat m.toNat true om om om om (by simp) _ (fun i j => rfl)
 | str s =>
  have hu : P.underlying t = some .string := ht
  obtain ⟨rfl, hs⟩ := hx
  have bound : ∀ l h : Nat, (s.extract l h).size ≤ maxLen := by intro l h; simp [QyP]; omega
  rw [run_sliceAt_string w t _ _ _ _ hu]
  cases mx with
  | some _ => simp [Qa1] at h
  | none =>
   cases vmx with
   | some _ => exact hmx.elim
   | none =>
   cases lo with
   | none =>
    cases vlo with
    | some _ => exact hlo.elim
    | none =>
    cases hi with
    | none =>
     cases vhi with
     | some _ => exact hhi.elim
     | none =>
     simp only [Qa1, Qxv, QxI] at h
     obtain ⟨rfl, rfl⟩ := h
     refine ⟨.string (s.extract 0 s.size), by simp [Instr.slice, run_underlying hu, Instr.sliceBounds], ?_, hs⟩
     simp
    | some hh =>
     cases vhi with
     | none => exact hhi.elim
     | some vh =>
     obtain ⟨k, rfl⟩ := hhi
     simp only [Qa1, Qxv, QxI] at h
     obtain ⟨rfl, rfl⟩ := h
     have c0 : 0 ≤ hh := hn _ (by simp)
     have c1 : hh ≤ s.size := hn _ (by simp)
     exact ⟨.string (s.extract 0 hh.toNat), by simp [Instr.slice, run_underlying hu, Instr.sliceBounds, run_sliceBound, c0, c1], rfl, bound _ _⟩
   | some ll =>
    cases vlo with
    | none => exact hlo.elim
    | some vl =>
    obtain ⟨kl, rfl⟩ := hlo
    cases hi with
    | none =>
     cases vhi with
     | some _ => exact hhi.elim
     | none =>
     simp only [Qa1, Qxv, QxI] at h
     obtain ⟨rfl, rfl⟩ := h
     have c0 : 0 ≤ ll := hn _ (by simp)
     have c1 : ll ≤ s.size := hn _ (by simp)
     exact ⟨.string (s.extract ll.toNat s.size), by simp [Instr.slice, run_underlying hu, Instr.sliceBounds, run_sliceBound, c0, c1], rfl, bound _ _⟩
    | some hh =>
     cases vhi with
     | none => exact hhi.elim
     | some vh =>
     obtain ⟨k, rfl⟩ := hhi
     simp only [Qa1, Qxv, QxI] at h
     obtain ⟨rfl, rfl⟩ := h
     have c0 : 0 ≤ ll := hn _ (by simp)
     have c1 : ll ≤ hh := hn _ (by simp)
     have c2 : hh ≤ s.size := hn _ (by simp)
     have c3 : 0 ≤ hh := by omega
     have eh : (hh.toNat : Int) = hh := Int.toNat_of_nonneg om
     exact ⟨.string (s.extract ll.toNat hh.toNat), by simp [Instr.slice, run_underlying hu, Instr.sliceBounds, run_sliceBound, c0, c1, c2, c3, eh], rfl, bound _ _⟩
 | _ => simp [Qa1] at h
def Qc6 : C → UInt8
 | .int _ n => UInt8.ofNat n.toNat
 | _ => 0
def QQ (n : Nat) (get : Nat → Nat → C) : ByteArray := ⟨((List.range n).map fun i => Qc6 (get i 0)).toArray⟩
def QdL (te : TI) (H : List O) (x : C) (lo hi mx : Option Int) : Option (List Prop × S) :=
 match x with
 | .sl id es len tot xq => match Nat.beq es te.size with
  | true => match getL H id with
   | some (.arr _ _ n _) => match mx with
    | none => match lo with
     | none => match hi with
      | none => some ([tot = n], .c (.sl id es len tot xq))
      | some h => some ([0 ≤ h, h ≤ len, tot = n], .c (.sl id es h.toNat tot xq))
     | some l => match hi with
      | none => some ([0 ≤ l, l ≤ len, tot = n], .so id es l.toNat (len - l.toNat) tot)
      | some h => some ([0 ≤ l, l ≤ h, h ≤ len, tot = n], .so id es l.toNat (h.toNat - l.toNat) tot)
    | some _ => none
   | _ => none
  | false => none
 | _ => none
theorem QkT {id es : Nat} {g : Nat → Nat → C} (hid : getL H id = some (.arr e es n g)) (hm : μ id = .slice a n cap) (ha : a = none → cap = 0) (hb : ∀ q, a = some q → ∃ b, q = ⟨b, 0, none⟩) (hnc : n ≤ cap) (l h : Nat) (h1 : l ≤ h) (h2 : h ≤ n) :
  RepS F H μ (.so id es l (h - l) n) (sliced a l h cap es) := by
 refine ⟨_, _, rfl, fun q => ?_, e, n, g, hid, QxB _, om, fun _ => ?_⟩
 ·by_cases c : cap = l
  ·omega
  ·rw [Qxu c] at q
   cases a with
   | none => have := ha rfl; omega
   | some a => simp at q
 ·by_cases c : h - l = 0
  ·exact .inl c
  ·right
   rw [Qxu om]
   cases a with
   | none => have := ha rfl; omega
   | some q =>
    obtain ⟨b, rfl⟩ := hb q rfl
    exact ⟨b, cap, hm, by simp [QaS]⟩
theorem QqY (hΓ : Qw P Γ) (hw : HSat K F H μ w) {lo hi mx : Option Int} {vlo vhi vmx : Option Value} 
  (hx : RepC F H μ x v) (he : Q2 Γ t = some (e, te)) (h : QdL te H x lo hi mx = some (ns, s)) (hn : ∀ q ∈ ns, q) (hlo : QfR lo vlo) (hhi : QfR hi vhi) (hmx : QfR mx vmx) :
  ∃ r, (Instr.sliceAt t v vlo vhi vmx).run P w = .ok r w ∧ RepS F H μ s r := by
 cases x with
 | sl id es len tot xq =>
  simp only [QdL] at h
  cases hb : Nat.beq es te.size with
  | false => simp [hb] at h
  | true =>
   have hes : es = te.size := QxD hb
   simp only [hb] at h
   obtain ⟨h0, e', n, g, h1, h2, h2', h3⟩ := hx
   simp only [h1] at h
   obtain ⟨hu, hte⟩ := Qab hΓ he
   have hel : P.elem t = e := by simp [Program.elem, hu]
   have hu' : P.underlying t = some (.slice (P.elem t)) := by rw [hel]; exact hu
   have hsz : (sizeOf (P.elem t)).run P w = .ok es w := by rw [hel, hes]; exact Qbb hte w
   have shape : ∀ (a : Option Addr) (cap : Nat), μ id = .slice a n cap → (a = none → cap = 0) ∧ (∀ q, a = some q → ∃ b, q = ⟨b, 0, none⟩) ∧ n ≤ cap := by
    intro a cap hm
    obtain ⟨xs, o1, _, _⟩ := hw.ob id _ h1
    rcases o1.2 with ⟨q1, q2⟩ | ⟨b, cap', cur, q1, _, _, q4, _⟩
    ·rw [hm] at q1
     cases q1
     exact ⟨fun _ => rfl, fun q e => by (cases e), om⟩
    ·rw [hm] at q1
     cases q1
     exact ⟨fun e => by (cases e), fun q e => by (cases e; exact ⟨b, rfl⟩), q4⟩
   cases mx with
   | some _ => simp at h
   | none =>
    cases vmx with
    | some _ => exact hmx.elim
    | none =>
    simp only at h
    cases lo with
    | none =>
     cases vlo with
     | some _ => exact hlo.elim
     | none =>
     cases hi with
     | none =>
      cases vhi with
      | some _ => exact hhi.elim
      | none =>
      simp only [Qxv, QxI] at h
      obtain ⟨rfl, rfl⟩ := h
      have c2 : tot = n := hn _ (by simp)
      obtain ⟨a, cap, m1, rfl, m3⟩ := h3 c2
      obtain ⟨s1, s2, s3⟩ := shape a cap m1
      rw [run_sliceAt_slice w t _ _ _ _ hu', run_slice_all w t a len cap hu', hsz]
      refine ⟨_, rfl, rfl, e', n, g, h1, h2, h2', fun _ => ⟨a, cap, m1, ?_, m3⟩⟩
      have ea : a.map (fun q => q.add (0 * es)) = a := by
       cases a with
       | none => rfl
       | some q => obtain ⟨b, rfl⟩ := s2 q rfl; simp [QaS]
      unfold sliced
      split
      ·simp
      ·rw [ea]; simp
     | some hh =>
      cases vhi with
      | none => exact hhi.elim
      | some vh =>
      obtain ⟨k, rfl⟩ := hhi
      simp only [Qxv, QxI] at h
      obtain ⟨rfl, rfl⟩ := h
      have c0 : 0 ≤ hh := hn _ (by simp)
      have c1 : hh ≤ len := hn _ (by simp)
      have c2 : tot = n := hn _ (by simp)
      obtain ⟨a, cap, m1, rfl, m3⟩ := h3 c2
      obtain ⟨s1, s2, s3⟩ := shape a cap m1
      rw [run_sliceAt_slice w t _ _ _ _ hu', run_slice_h w t a len cap hu' k hh c0 om, hsz]
      refine ⟨_, rfl, rfl, e', n, g, h1, h2, om, fun _ => ⟨a, cap, m1, ?_, m3⟩⟩
      have ea : a.map (fun q => q.add (0 * es)) = a := by
       cases a with
       | none => rfl
       | some q => obtain ⟨b, rfl⟩ := s2 q rfl; simp [QaS]
      unfold sliced
      split
      ·simp
      ·rw [ea]; simp
    | some ll =>
     cases vlo with
     | none => exact hlo.elim
     | some vl =>
     obtain ⟨kl, rfl⟩ := hlo
     cases hi with
     | none =>
      cases vhi with
      | some _ => exact hhi.elim
      | none =>
      simp only [Qxv, QxI] at h
      obtain ⟨rfl, rfl⟩ := h
      have c0 : 0 ≤ ll := hn _ (by simp)
      have c1 : ll ≤ len := hn _ (by simp)
      have c2 : tot = n := hn _ (by simp)
      obtain ⟨a, cap, m1, rfl, m3⟩ := h3 c2
      obtain ⟨s1, s2, s3⟩ := shape a cap m1
      rw [run_sliceAt_slice w t _ _ _ _ hu', run_slice_l w t a len cap hu' kl ll c0 om, hsz]
      subst c2
      exact ⟨_, rfl, QkT h1 m1 s1 s2 s3 ll.toNat len om om⟩
     | some hh =>
      cases vhi with
      | none => exact hhi.elim
      | some vh =>
      obtain ⟨k, rfl⟩ := hhi
      simp only [Qxv, QxI] at h
      obtain ⟨rfl, rfl⟩ := h
      have c0 : 0 ≤ ll := hn _ (by simp)
      have c1 : ll ≤ hh := hn _ (by simp)
      have c3 : hh ≤ len := hn _ (by simp)
      have c2 : tot = n := hn _ (by simp)
      obtain ⟨a, cap, m1, rfl, m3⟩ := h3 c2
      obtain ⟨s1, s2, s3⟩ := shape a cap m1
      rw [run_sliceAt_slice w t _ _ _ _ hu', run_slice_lh w t a len cap hu' kl k ll hh c0 c1 om, hsz]
      subst c2
      exact ⟨_, rfl, QkT h1 m1 s1 s2 s3 ll.toNat hh.toNat om om⟩
 | _ => simp [QdL] at h
end Go.Am
end
