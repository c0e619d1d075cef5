/- Contracts, lemmas; no condition. -/
import Derived.Test.YtjjlblnbeggejaaGreatP14
set_option linter.all false
namespace Go.Am
variable {K : Keep} {F : Mem} {μ : Nat → Value} {v : Value} {d s T i j : Nat} {n : Int} {kk : IntKind} {vs : Array Value} {q : Bool} {oj : Oper}
def Keep.andO (K : Keep) (b : Nat) (o : Obj) : Keep := { K with mem := fun b' => if b' = b then some o else K.mem b' }
theorem QvU {H : List O} {w : World} (hw : HSat K F H μ w) {id b : Nat} (h : QS H μ id b) : b < w.heap.size := by
 obtain ⟨⟨o, o1, o2⟩, hb⟩ := h
 have := hw.ob id o o1
 cases o with
 | vr cs =>
  obtain ⟨b', c, T, q1, q2, _⟩ := this
  rw [q1] at hb; cases hb
  exact (QxH.1 q2).1
 | arr e es n g =>
  obtain ⟨xs, q1, _⟩ := this
  rcases q1.2 with ⟨q, _⟩ | ⟨b', cap, cur, q, _, q3, _⟩
  ·rw [q] at hb; cases hb
  ·rw [q] at hb; cases hb
   exact (QxH.1 q3).1
 | dead => simp at o2
 | mp sh z va ks val =>
  obtain ⟨b', es, ck, q1, q2, _⟩ := this
  rw [q1] at hb; cases hb
  exact (QxH.1 q2).1
theorem HSat.also {H : List O} {w w' : World} {b : Nat} {o : Obj} (hw : HSat K F H μ w) (hg : w.grownBy w' none) (hb : w.heap.size ≤ b) (ho : w'.heap[b]? = some o) : HSat (K.andO b o) F H μ w' ∧ K.mem b = none := by
 have h' := hw.grown hg
 have hlt : ∀ b' o', w.heap[b']? = some o' → b' ≠ b := fun b' o' h e => by
  have := (QxH.1 h).1
  omega
 refine ⟨⟨h'.os, h'.tape, h'.output, h'.fr, fun b' o' h => ?_, h'.ob, fun id b' h => ?_, h'.ij, fun b' o' h => ?_⟩, ?_⟩
 ·simp only [Keep.andO] at h
  split at h
  ·rename_i e; subst e; cases h; exact ho
  ·exact h'.kp b' o' h
 ·refine ⟨(h'.sp id b' h).1, ?_⟩
  simp only [Keep.andO]
  rw [Qxu (fun e => by have := QvU hw h; omega)]
  exact (h'.sp id b' h).2
 ·simp only [Keep.andO]
  rw [Qxu (hlt b' o' (hw.fr b' o' h))]
  exact hw.dj b' o' h
 ·cases h : K.mem b with
  | none => rfl
  | some q => exact absurd rfl (hlt b q (hw.kp b q h))
theorem HSat.lessK {H : List O} {w : World} {b : Nat} {o : Obj} (h : HSat (K.andO b o) F H μ w) (hn : K.mem b = none) : HSat K F H μ w := by
 have key : ∀ b', (K.andO b o).mem b' = none → K.mem b' = none := fun b' h => by
  simp only [Keep.andO] at h
  split at h
  ·cases h
  ·exact h
 refine ⟨h.os, h.tape, h.output, h.fr, fun b' o' q => h.kp b' o' ?_, h.ob, fun id b' q => ⟨(h.sp id b' q).1, key b' (h.sp id b' q).2⟩, h.ij, fun b' o' q => key b' (h.dj b' o' q)⟩
 simp only [Keep.andO]
 rw [Qxu (fun e => by subst e; rw [hn] at q; cases q)]
 exact q
section
variable {P : Program} {Γ : Env} (hΓ : Qw P Γ) {w : World} {t k e : Nat} {sh : KS} {te : TI} {b ck : Nat} {es : Array MapEntry} {key : Key}
include hΓ
theorem QvZ (hm : QdH Γ t = some (sh, k, e, te)) (hb : w.heap[b]? = some (.map es ck)) (hk : key.sh = sh) (hs : ∀ x ∈ es.toList, ∃ y : Key, y.sh = sh ∧ x.key = y.toV) (hn : ∀ x ∈ es.toList, x.key ≠ key.toV) (v : Value) :
  (Instr.mapUpdate t (.map (some b)) key.toV v).run P w = .ok () { w with heap := w.heap.setIfInBounds b (.map (es.push ⟨key.toV, v, ck⟩) (ck + 1)) } := by
 obtain ⟨hu, hkl, hte⟩ := Qf4 hΓ hm
 rcases hkl.find w key hk es.toList hs with ⟨q1, q2⟩ | ⟨j, x, q1, q2, q3⟩
 ·unfold Instr.mapUpdate
  rw [Qg (run_underlying hu w)]
  simp only
  rw [Qg (MapKept.run_getObj_map hb)]
  simp only
  rw [Qg (hkl.check w _ key hk), Qg q1]
  simp only
  exact MapKept.run_setObj_map _ hb
 ·exact absurd q3 (hn x (Qx8 q2))
theorem Qv2 (hm : QdH Γ t = some (sh, k, e, te)) (hb : w.heap[b]? = some (.map es ck)) (hk : key.sh = sh) (hs : ∀ x ∈ es.toList, ∃ y : Key, y.sh = sh ∧ x.key = y.toV) (h1 : ∃ x ∈ es.toList, x.key = key.toV) (hv : ∀ x ∈ es.toList, x.key = key.toV → x.val = v) :
  (Instr.lookup t (.map (some b)) key.toV true).run P w = .ok (.tuple #[v, .bool true]) w := by
 obtain ⟨hu, hkl, hte⟩ := Qf4 hΓ hm
 rcases hkl.find w key hk es.toList hs with ⟨q1, q2⟩ | ⟨j, x, q1, q2, q3⟩
 ·obtain ⟨x, x1, x2⟩ := h1
  exact absurd x2 (q2 x x1)
 ·have := hv x (Qx8 q2) q3
  subst this
  unfold Instr.lookup
  rw [Qg (run_underlying hu w)]
  simp only
  rw [Qg (MapKept.run_getObj_map hb)]
  simp only
  rw [Qg (show (pure es : Sem (Array MapEntry)).run P w = .ok es w from rfl), Qg (hkl.check w _ key hk), Qg q1]
  rfl
theorem Qv0 (hm : QdH Γ t = some (sh, k, e, te)) (hb : w.heap[b]? = some (.map es ck)) (hk : key.sh = sh) (hs : ∀ x ∈ es.toList, ∃ y : Key, y.sh = sh ∧ x.key = y.toV) (hn : ∀ x ∈ es.toList, x.key ≠ key.toV) :
  ∃ z, (Instr.lookup t (.map (some b)) key.toV true).run P w = .ok (.tuple #[z, .bool false]) w := by
 obtain ⟨hu, hkl, hte⟩ := Qf4 hΓ hm
 obtain ⟨z, z1, z2, z3, z4⟩ := Qt2 hte w
 rcases hkl.find w key hk es.toList hs with ⟨q1, q2⟩ | ⟨j, x, q1, q2, q3⟩
 ·refine ⟨z, ?_⟩
  unfold Instr.lookup
  rw [Qg (run_underlying hu w)]
  simp only
  rw [Qg (MapKept.run_getObj_map hb)]
  simp only
  rw [Qg (show (pure es : Sem (Array MapEntry)).run P w = .ok es w from rfl), Qg (hkl.check w _ key hk), Qg q1]
  simp only
  rw [Qg z1]
  rfl
 ·exact absurd q3 (hn x (Qx8 q2))
end
theorem HSat.swapO {H : List O} {w : World} {b : Nat} {o o' : Obj} (h : HSat (K.andO b o) F H μ w) : HSat (K.andO b o') F H μ { w with heap := w.heap.setIfInBounds b o' } := by
 have hb : w.heap[b]? = some o := h.kp b o (by simp [Keep.andO])
 have hlt : b < w.heap.size := (QxH.1 hb).1
 have hgr : w.grownBy { w with heap := w.heap.setIfInBounds b o' } (some b) :=
  ⟨rfl, rfl, rfl, by simp, fun k _ hk => by simp [show b ≠ k from fun q => hk (by rw [q])]⟩
 have keep : ∀ b', b' ≠ b → ∀ q, w.heap[b']? = some q → ({ w with heap := w.heap.setIfInBounds b o' } : World).heap[b']? = some q := fun b' hne q hq => by
  rw [show ({ w with heap := w.heap.setIfInBounds b o' } : World).heap[b']? = w.heap[b']? by simp [QyL hne]]
  exact hq
 have nF : F b = none := by
  cases hq : F b with
  | none => rfl
  | some q => have := h.dj b q hq; simp [Keep.andO] at this
 have nO : ∀ id b', QS H μ id b' → b' ≠ b := fun id b' q e => by
  have := (h.sp id b' q).2
  subst e
  simp [Keep.andO] at this
 refine ⟨h.os, h.tape, h.output, fun b' q hq => keep b' (fun e => by subst e; rw [nF] at hq; cases hq) q (h.fr b' q hq), fun b' q hq => ?_, fun id q hq => ?_, fun id b' q => ⟨(h.sp id b' q).1, ?_⟩, h.ij, fun b' q hq => ?_⟩
 ·simp only [Keep.andO] at hq
  split at hq
  ·rename_i e; subst e; cases hq; simp [hlt]
  ·rename_i hne
   exact keep b' hne q (h.kp b' q (by simp only [Keep.andO]; rw [Qxu hne]; exact hq))
 ·by_cases hd : q = .dead
  ·subst hd
   exact h.ob id _ hq
  ·exact (h.ob id q hq).other (Ext.refl H μ) rfl fun b' hb' ho => by
    simp [QyL (nO id b' ⟨⟨q, hq, hd⟩, ho⟩)]
 ·simp only [Keep.andO]
  rw [Qxu (nO id b' q)]
  have := (h.sp id b' q).2
  simp only [Keep.andO] at this
  rwa [Qxu (nO id b' q)] at this
 ·have hne : b' ≠ b := fun e => by subst e; rw [nF] at hq; cases hq
  have := h.dj b' q hq
  simp only [Keep.andO] at this ⊢
  rwa [Qxu hne] at this ⊢
def lkR : List (Nat × Value) → Nat → Option Value
 | [], _ => none
 | (u, v) :: r, t => match Nat.beq u t with
  | true => some v
  | false => lkR r t
theorem QnS {t : Nat} {v : Value} : ∀ {R : List (Nat × Value)}, lkR R t = some v → t ∈ R.map Prod.fst
 | [], h => by cases h
 | (u, x) :: r, h => by
  simp only [lkR] at h
  cases hb : Nat.beq u t with
  | true => rw [QxD hb]; exact Qys
  | false => rw [hb] at h; exact Qyi _ (QnS h)
def RawOk (R : List (Nat × Value)) (a : Act) : Prop := ∀ t v, lkR R t = some v → a.tmps.getD t undef = v
theorem RawOk.put {R : List (Nat × Value)} {a : Act} {d : Nat} {v : Value} (h : RawOk R a) (hd : d < a.tmps.size) : RawOk ((d, v) :: R) (a.put (some d) v) := by
 intro t u hu
 simp only [lkR] at hu
 show (a.tmps.setIfInBounds d v).getD t undef = u
 cases hb : Nat.beq d t with
 | true =>
  have := QxD hb
  subst this
  rw [hb] at hu
  cases hu
  simp [Array.getD, hd]
 | false =>
  rw [hb] at hu
  have hne := Nat.ne_of_beq_eq_false hb
  rw [← h t u hu]
  simp only [Array.getD, Array.size_setIfInBounds]
  split
  ·exact Array.getElem_setIfInBounds_ne (hj := by assumption) hne
  ·rfl
structure RwM (X : Cx) (ops : Array Oper) (l : List Oper) (c : Code) (ts : Ts) (H : List O) (b : Nat) (es : Array MapEntry) (ck : Nat) (R : List (Nat × Value)) (k : Kp) : Prop where
 out : ∀ K F0 H0 μ0 F μ a w, K.mem b = none → Sat X (K.andO b (.map es ck)) F0 H0 μ0 ts H F μ a w → RawOk R a → wpList X.P ops (Exit.then (c.wp X.P (Post X K F0 H0 μ0 k)) (Post X K F0 H0 μ0 k)) l a w
section
variable {X : Cx} {ops : Array Oper} {o : Oper} {l : List Oper} {c : Code} {ts : Ts} {H : List O} {b ck : Nat} {es : Array MapEntry} {R : List (Nat × Value)} {k : Kp}
theorem RwM.val (g : o.guard = none) (dd : o.dst = some d) (hd : Nat.blt d X.nt = true) (hr : ∀ a w, RawOk R a → w.heap[b]? = some (.map es ck) → (execOp a.eval o).run X.P w = .ok (.value v) w)
  (h : RwM X ops l c ((d, .u) :: ts) H b es ck ((d, v) :: R) k) : RwM X ops (o :: l) c ts H b es ck R k := by
 refine ⟨fun K F0 H0 μ0 F μ a w hn hs hR => wpList_step fun k1 hk1 => ?_⟩
 simp only [Region.wanted, g, Qyo]
 unfold Oper.wp
 rw [hr a w hR (hs.hs.kp b _ (by simp [Keep.andO])), Oper.upon_value, dd]
 refine hk1 _ _ (h.out K F0 H0 μ0 F μ _ _ hn ⟨hs.le, hs.ext, hs.hs, QvY hs.tp, by simp [Act.put, hs.sz], hs.df, hs.n0⟩ (hR.put (by rw [hs.sz]; exact QxJ hd)))
theorem RwM.mv (ho : o.op = .move (.tmp s)) (g : o.guard = none) (dd : o.dst = some d) (hd : Nat.blt d X.nt = true) (hv : lkR R s = some v)
  (h : RwM X ops l c ((d, .u) :: ts) H b es ck ((d, v) :: R) k) : RwM X ops (o :: l) c ts H b es ck R k := by
 refine RwM.val g dd hd (fun a w hR _ => ?_) h
 unfold execOp
 rw [ho]
 have := hR s v hv
 show _ = Result.ok (Next.value v) w
 rw [← this]
 rfl
theorem Qwk (ho : o.op = .assign (.tmp s)) (g : o.guard = none) (dd : o.dst = some d) (hd : Nat.blt d X.nt = true) (hv : lkR R s = some v)
  (h : RwM X ops l c ((d, .u) :: ts) H b es ck ((d, v) :: R) k) : RwM X ops (o :: l) c ts H b es ck R k := by
 refine RwM.val g dd hd (fun a w hR _ => ?_) h
 unfold execOp
 rw [ho]
 have := hR s v hv
 show _ = Result.ok (Next.value v) w
 rw [← this]
 rfl
theorem QwI {f : Nat} (ho : o.op = .makeFunc (.func f) #[.tmp s] #[]) (g : o.guard = none) (dd : o.dst = some d) (hd : Nat.blt d X.nt = true) (hv : lkR R s = some v)
  (h : RwM X ops l c ((d, .u) :: ts) H b es ck ((d, .func (.func f) #[v] #[]) :: R) k) : RwM X ops (o :: l) c ts H b es ck R k := by
 refine RwM.val g dd hd (fun a w hR _ => ?_) h
 unfold execOp
 rw [ho]
 refine val1 ?_
 have : a.eval (.tmp s) = v := hR s v hv
 simp [Instr.makeFunc, this]
theorem Qhx {P : Program} {ops : Array Oper} {Q : Exit → Act → World → Prop} {T : Act → World → Prop} {a0 : Act} {L l2 : List Oper} : ∀ (l1 : List Oper) (a : Act) (w : World), (∀ o ∈ l1, o ∈ L) → KeepT a0 L a → wpList P ops (fun e a' w' => e = .normal ∧ T a' w') l1 a w →
  (∀ a' w', KeepT a0 L a' → T a' w' → wpList P ops Q l2 a' w') → wpList P ops Q (l1 ++ l2) a w
 | [], a, w, _, ha, h, hT => hT a w ha h.2
 | o :: r, a, w, hl, ha, h, hT => by
  unfold wpList at h
  rw [List.cons_append]
  unfold wpList
  have hm := hl o Qys
  have hr : ∀ o ∈ r, o ∈ L := fun x hx => hl x (Qyi _ hx)
  split
  ·rename_i hw
   simp only [hw, Qyo] at h
   rcases h with h1 | h1
   ·exact .inl (QsW hm (fun e a w q hn => absurd q.1 hn) (fun a w ha h => Qhx r a w hr ha h hT) ha h1)
   ·obtain ⟨x, y, z⟩ := h1.2
    cases z.1
  ·rename_i hw
   simp only [hw] at h
   exact Qhx r _ w hr (ha.put hm _) h hT
theorem RwM.vc {l2 : List Oper} (hΓ : Qw X.P X.Γ) (pre : List Oper) (hR : (R.map Prod.fst).all (Qtw pre) = true) (h : QcS X ops.toList pre ts H fun ts' H' => RwM X ops l2 c ts' H' b es ck R k) : RwM X ops (pre ++ l2) c ts H b es ck R k := by
 refine ⟨fun K F0 H0 μ0 F μ a w hn hs hRa => ?_⟩
 have hq := Qnv (X := X) hΓ ops.toList (Q := fun e a' w' => e = .normal ∧ ∃ ts' H' F' μ', RwM X ops l2 c ts' H' b es ck R k ∧ Sat X (K.andO b (.map es ck)) F0 H0 μ0 ts' H' F' μ' a' w') pre h hs fun ts' H' F' μ' a' w' q1 q2 => ⟨rfl, ts', H', F', μ', q1, q2⟩
 rw [show ops.toList.toArray = ops by simp] at hq
 refine Qhx (a0 := a) (L := pre) pre a w (fun _ h => h) (fun _ _ => rfl) hq ?_
 rintro a' w' hk ⟨ts', H', F', μ', q1, q2⟩
 refine q1.out K F0 H0 μ0 F' μ' a' w' hn q2 fun t v hv => ?_
 rw [← hRa t v hv]
 exact hk t (Qs6 (Qx2.1 hR t (QnS hv)))
theorem RwM.vcN (hΓ : Qw X.P X.Γ) (n : Nat) (hR : (R.map Prod.fst).all (Qtw (l.take n)) = true) (h : QcS X ops.toList (l.take n) ts H fun ts' H' => RwM X ops (l.drop n) c ts' H' b es ck R k) : RwM X ops l c ts H b es ck R k := by
 have := RwM.vc hΓ (l.take n) hR h
 rwa [List.take_append_drop] at this
theorem QwA (hΓ : Qw X.P X.Γ) {m e te' : Nat} {te : TI} {sh : KS} (ho : o.op = .insert T (.tmp m) (.const (.int kk n)) (.tmp s)) (g : o.guard = none) (dd : o.dst = none) (hT : QdH X.Γ T = some (sh, te', e, te)) (hsh : KS.c (some kk) = sh)
  (hm : lkR R m = some (.map (some b))) (hv : lkR R s = some v) (hes : ∀ x ∈ es.toList, ∃ q : Int, x.key = .int kk q ∧ q ≠ n)
  (h : RwM X ops l c ts H b (es.push ⟨.int kk n, v, ck⟩) (ck + 1) R k) : RwM X ops (o :: l) c ts H b es ck R k := by
 refine ⟨fun K F0 H0 μ0 F μ a w hn hs hR => wpList_step fun k1 hk1 => ?_⟩
 simp only [Region.wanted, g, Qyo]
 unfold Oper.wp
 have r : (execOp a.eval o).run X.P w = .ok .skip { w with heap := w.heap.setIfInBounds b (.map (es.push ⟨.int kk n, v, ck⟩) (ck + 1)) } := by
  have e1 : a.eval (.tmp m) = .map (some b) := hR m _ hm
  have e2 : a.eval (.tmp s) = v := hR s _ hv
  have := QvZ (P := X.P) hΓ (w := w) (key := .c (.i kk n)) hT (hs.hs.kp b (.map es ck) (by simp [Keep.andO])) hsh (fun x hx => by
   obtain ⟨q, q1, q2⟩ := hes x hx
   exact ⟨.c (.i kk q), hsh, q1⟩) (fun x hx => by
   obtain ⟨q, q1, q2⟩ := hes x hx
   rw [q1]
   intro he
   apply q2
   simpa [Key.toV, KC.toV] using he) v
  unfold execOp
  rw [ho]
  simp only [e1, e2]
  rw [Qg (show (Instr.mapUpdate T (.map (some b)) (a.eval (.const (.int kk n))) v).run X.P w = _ from this)]
  rfl
 rw [r, Oper.upon_skip, dd]
 refine hk1 _ _ (h.out K F0 H0 μ0 F μ _ _ hn ⟨hs.le, hs.ext, hs.hs.swapO, hs.tp, hs.sz, hs.df, hs.n0⟩ hR)
theorem RwM.look (hΓ : Qw X.P X.Γ) {m e te' t1 : Nat} {te : TI} {sh : KS} (ho : o.op = .lookup T (.tmp m) (.tmp t1) true) (g : o.guard = none) (dd : o.dst = some d) (hd : Nat.blt d X.nt = true) (hT : QdH X.Γ T = some (sh, te', e, te)) (hsh : KS.c (some kk) = sh)
  (hm : lkR R m = some (.map (some b))) (hk : find t1 ts = .c (.int kk n)) (hes : ∀ x ∈ es.toList, ∃ q : Int, x.key = .int kk q) (h1 : ∃ x ∈ es.toList, x.key = .int kk n) (hv : ∀ x ∈ es.toList, x.key = .int kk n → x.val = v)
  (h : RwM X ops l c ((d, .u) :: ts) H b es ck ((d, .tuple #[v, .bool true]) :: R) k) : RwM X ops (o :: l) c ts H b es ck R k := by
 refine ⟨fun K F0 H0 μ0 F μ a w hn hs hR => wpList_step fun k1 hk1 => ?_⟩
 simp only [Region.wanted, g, Qyo]
 unfold Oper.wp
 have r : (execOp a.eval o).run X.P w = .ok (.value (.tuple #[v, .bool true])) w := by
  have e1 : a.eval (.tmp m) = .map (some b) := hR m _ hm
  have e2 : a.eval (.tmp t1) = .int kk n := by have := hs.tp t1; rw [hk] at this; exact this
  unfold execOp
  rw [ho]
  refine val1 ?_
  simp only [e1, e2]
  exact Qv2 (P := X.P) hΓ (w := w) (key := .c (.i kk n)) hT (hs.hs.kp b (.map es ck) (by simp [Keep.andO])) hsh (fun x hx => by
   obtain ⟨q, q1⟩ := hes x hx
   exact ⟨.c (.i kk q), hsh, q1⟩) h1 hv
 rw [r, Oper.upon_value, dd]
 refine hk1 _ _ (h.out K F0 H0 μ0 F μ _ _ hn ⟨hs.le, hs.ext, hs.hs, QvY hs.tp, by simp [Act.put, hs.sz], hs.df, hs.n0⟩ (hR.put (by rw [hs.sz]; exact QxJ hd)))
theorem Qw7 (hΓ : Qw X.P X.Γ) {m e te' t1 : Nat} {te : TI} {sh : KS} (ho : o.op = .lookup T (.tmp m) (.tmp t1) true) (g : o.guard = none) (dd : o.dst = some d) (hd : Nat.blt d X.nt = true) (hT : QdH X.Γ T = some (sh, te', e, te)) (hsh : KS.c (some kk) = sh)
  (hm : lkR R m = some (.map (some b))) (hk : find t1 ts = .c (.int kk n)) (hes : ∀ x ∈ es.toList, ∃ q : Int, x.key = .int kk q ∧ q ≠ n)
  (h : ∀ z, RwM X ops l c ((d, .u) :: ts) H b es ck ((d, .tuple #[z, .bool false]) :: R) k) : RwM X ops (o :: l) c ts H b es ck R k := by
 refine ⟨fun K F0 H0 μ0 F μ a w hn hs hR => wpList_step fun k1 hk1 => ?_⟩
 simp only [Region.wanted, g, Qyo]
 unfold Oper.wp
 have r : ∃ z, (execOp a.eval o).run X.P w = .ok (.value (.tuple #[z, .bool false])) w := by
  have e1 : a.eval (.tmp m) = .map (some b) := hR m _ hm
  have e2 : a.eval (.tmp t1) = .int kk n := by have := hs.tp t1; rw [hk] at this; exact this
  obtain ⟨z, hz⟩ := Qv0 (P := X.P) hΓ (w := w) (key := .c (.i kk n)) hT (hs.hs.kp b (.map es ck) (by simp [Keep.andO])) hsh (fun x hx => by
   obtain ⟨q, q1, q2⟩ := hes x hx
   exact ⟨.c (.i kk q), hsh, q1⟩) (fun x hx => by
   obtain ⟨q, q1, q2⟩ := hes x hx
   rw [q1]
   intro he
   apply q2
   simpa [Key.toV, KC.toV] using he)
  refine ⟨z, ?_⟩
  unfold execOp
  rw [ho]
  refine val1 ?_
  simp only [e1, e2]
  exact hz
 obtain ⟨z, r⟩ := r
 rw [r, Oper.upon_value, dd]
 refine hk1 _ _ ((h z).out K F0 H0 μ0 F μ _ _ hn ⟨hs.le, hs.ext, hs.hs, QvY hs.tp, by simp [Act.put, hs.sz], hs.df, hs.n0⟩ (hR.put (by rw [hs.sz]; exact QxJ hd)))
theorem RwM.ext (ho : o.op = .extract (.tmp s) i) (g : o.guard = none) (dd : o.dst = some d) (hd : Nat.blt d X.nt = true) (hv : lkR R s = some (.tuple vs)) (hi : vs[i]? = some v)
  (h : RwM X ops l c ((d, .u) :: ts) H b es ck ((d, v) :: R) k) : RwM X ops (o :: l) c ts H b es ck R k := by
 refine RwM.val g dd hd (fun a w hR _ => ?_) h
 unfold execOp
 rw [ho]
 refine val1 ?_
 have : a.eval (.tmp s) = .tuple vs := hR s _ hv
 simp [Instr.extract, this, hi]
theorem Qwn (ho : o.op = .extract (.tmp s) i) (g : o.guard = none) (dd : o.dst = some d) (hd : Nat.blt d X.nt = true) (hv : lkR R s = some (.tuple vs)) (hi : vs[i]? = some (.bool q)) (hR' : (R.map Prod.fst).all (fun t => !Nat.beq d t) = true)
  (h : RwM X ops l c ((d, .c (.bool q)) :: ts) H b es ck R k) : RwM X ops (o :: l) c ts H b es ck R k := by
 refine ⟨fun K F0 H0 μ0 F μ a w hn hs hR => wpList_step fun k1 hk1 => ?_⟩
 simp only [Region.wanted, g, Qyo]
 unfold Oper.wp
 have r : (execOp a.eval o).run X.P w = .ok (.value (.bool q)) w := by
  have : a.eval (.tmp s) = .tuple vs := hR s _ hv
  unfold execOp
  rw [ho]
  refine val1 ?_
  simp [Instr.extract, this, hi]
 have hlt : d < a.tmps.size := by rw [hs.sz]; exact QxJ hd
 rw [r, Oper.upon_value, dd]
 refine hk1 _ _ (h.out K F0 H0 μ0 F μ _ _ hn ⟨hs.le, hs.ext, hs.hs, hs.tp.put hlt rfl, by simp [Act.put, hs.sz], hs.df, hs.n0⟩ fun t v hv => ?_)
 have := Qx2.1 hR' t (QnS hv)
 have hne : d ≠ t := fun e => by subst e; simp at this
 rw [← hR t v hv]
 simp only [Act.put, QxQ]
 rw [Qya hne]
structure AWm (X : Cx) (c : Code) (ts : Ts) (H : List O) (b : Nat) (es : Array MapEntry) (ck : Nat) (R : List (Nat × Value)) (k : Kp) : Prop where
 out : ∀ K F0 H0 μ0 F μ a w, K.mem b = none → Sat X (K.andO b (.map es ck)) F0 H0 μ0 ts H F μ a w → RawOk R a → c.wp X.P (Post X K F0 H0 μ0 k) a w
theorem RwM.fin (h : AWm X c ts H b es ck R k) : RwM X ops [] c ts H b es ck R k := ⟨fun K F0 H0 μ0 F μ a w hn hs hR => h.out K F0 H0 μ0 F μ a w hn hs hR⟩
theorem AWm.rg (h : RwM X ops ops.toList c ts H b es ck R k) : AWm X (.seq (.region i ops false) c) ts H b es ck R k :=
 ⟨fun K F0 H0 μ0 F μ a w hn hs hR => wp_seq (wp_region_list (h.out K F0 H0 μ0 F μ a w hn hs hR))⟩
theorem AWm.assoc {x y : Code} (h : AWm X x ts H b es ck R fun e ts' H' => match e with
  | .normal => AWn X y ts' H' k
  | .exit id => k (.exit id) ts' H'
  | .ret => k .ret ts' H') : AWm X (.seq x y) ts H b es ck R k := by
 refine ⟨fun K F0 H0 μ0 F μ a w hn hs hR => wp_seq (wp_mono (h.out K F0 H0 μ0 F μ a w hn hs hR) ?_)⟩
 rintro e a' w' ⟨ts', H', F', μ', hs', he⟩
 cases e with
 | normal => exact AWn.out he K F0 H0 μ0 F' μ' a' w' hs'
 | exit id => exact ⟨ts', H', F', μ', hs', he⟩
 | ret => exact ⟨ts', H', F', μ', hs', he⟩
 | goto l => exact he.elim
 | panic ch => exact he.elim
 | outgrown => exact he.elim
theorem AWm.drop (h : AWn X c ts H k) : AWm X c ts H b es ck R k :=
 ⟨fun K F0 H0 μ0 F μ a w hn hs _ => h.out K F0 H0 μ0 F μ a w ⟨hs.le, hs.ext, hs.hs.lessK hn, hs.tp, hs.sz, hs.df, hs.n0⟩⟩
theorem RwM.drop (h : RwN X ops l c ts H k) : RwM X ops l c ts H b es ck R k :=
 ⟨fun K F0 H0 μ0 F μ a w hn hs _ => h.out K F0 H0 μ0 F μ a w ⟨hs.le, hs.ext, hs.hs.lessK hn, hs.tp, hs.sz, hs.df, hs.n0⟩⟩
theorem RwN.vc (hΓ : Qw X.P X.Γ) (h : QcS X ops.toList l ts H fun ts' H' => AWn X c ts' H' k) : RwN X ops l c ts H k := by
 refine ⟨fun K F0 H0 μ0 F μ a w hs => ?_⟩
 have := Qnv (X := X) hΓ ops.toList (Q := Exit.then (c.wp X.P (Post X K F0 H0 μ0 k)) (Post X K F0 H0 μ0 k)) l h hs fun ts' H' F' μ' a' w' q1 q2 => q1.out K F0 H0 μ0 F' μ' a' w' q2
 rwa [show ops.toList.toArray = ops by simp] at this
theorem Qn1 {F0 : Mem} {H0 : List O} {μ0 : Nat → Value} {a : Act} {w : World} (hs : Sat X K F0 H0 μ0 ts H F μ a w) (g : o.guard = some (j, q)) (hj : ops[j]? = some oj) (dj : oj.dst = some d) (hd : Nat.blt d X.nt = true) (hf : find d ts = .c (.bool q)) : Region.wanted o (yielded ops a.tmps) = true := by
 have hlt : d < a.tmps.size := by rw [hs.sz]; exact QxJ hd
 have hr := hs.tp d
 rw [hf] at hr
 have hr : a.tmps.getD d undef = .bool q := hr
 simp only [Region.wanted, g, yielded, hj, Option.bind_some, dj]
 have : a.tmps[d]? = some a.tmps[d] := Qx9 hlt
 simp only [this]
 rw [show a.tmps.getD d undef = a.tmps[d] by simp [Array.getD, hlt]] at hr
 rw [hr]
 simp
theorem QwB {dg : Nat} (ho : o.op = .move (.tmp s)) (g : o.guard = some (j, q)) (hj : ops[j]? = some oj) (dj : oj.dst = some dg) (hg : Nat.blt dg X.nt = true) (hf : find dg ts = .c (.bool q)) (dd : o.dst = some d) (hd : Nat.blt d X.nt = true) (hv : lkR R s = some v)
  (h : RwM X ops l c ((d, .u) :: ts) H b es ck ((d, v) :: R) k) : RwM X ops (o :: l) c ts H b es ck R k := by
 refine ⟨fun K F0 H0 μ0 F μ a w hn hs hR => wpList_step fun k1 hk1 => ?_⟩
 rw [Qxt (Qn1 hs g hj dj hg hf)]
 unfold Oper.wp
 have r : (execOp a.eval o).run X.P w = .ok (.value v) w := by
  unfold execOp
  rw [ho]
  have := hR s v hv
  show _ = Result.ok (Next.value v) w
  rw [← this]
  rfl
 rw [r, Oper.upon_value, dd]
 refine hk1 _ _ (h.out K F0 H0 μ0 F μ _ _ hn ⟨hs.le, hs.ext, hs.hs, QvY hs.tp, by simp [Act.put, hs.sz], hs.df, hs.n0⟩ (hR.put (by rw [hs.sz]; exact QxJ hd)))
theorem AWn.mapM {tj : Nat} (hp : ops.toList = o :: l) (ho : o.op = .makeMap T none) (g : o.guard = none) (dd : o.dst = some d) (hd : Nat.blt d X.nt = true) (hne : Nat.beq d tj = false)
  (h : ∀ b p, RwM X ops l c ((d, .u) :: ts) H b #[] 0 [(d, .map (some b)), (tj, p)] k) : AWn X (.seq (.region i ops false) c) ts H k := by
 refine ⟨fun K F0 H0 μ0 F μ a w hs => wp_seq (wp_region_list ?_)⟩
 rw [hp]
 refine wpList_step fun k1 hk1 => ?_
 simp only [Region.wanted, g, Qyo]
 unfold Oper.wp
 have r : (execOp a.eval o).run X.P w = .ok (.value (.map (some w.heap.size))) (w.alloc (.map #[] 0)) := by
  unfold execOp
  rw [ho]
  refine val1 ?_
  simp [Instr.makeMap, newObj, Sem.run, Result.andThen]
 have hlt : d < a.tmps.size := by rw [hs.sz]; exact QxJ hd
 obtain ⟨q1, q2⟩ := hs.hs.also (World.grownBy_alloc w (.map #[] 0) none) (QxB _) (heap_alloc_new w _)
 rw [r, Oper.upon_value, dd]
 refine hk1 _ _ ((h w.heap.size (a.tmps.getD tj undef)).out K F0 H0 μ0 F μ _ _ q2 ⟨hs.le, hs.ext, q1, QvY hs.tp, by simp [Act.put, hs.sz], hs.df, hs.n0⟩ (RawOk.put ?_ hlt))
 intro t v hv
 simp only [lkR] at hv
 cases hb : Nat.beq tj t with
 | true => rw [hb] at hv; cases hv; rw [QxD hb]
 | false => rw [hb] at hv; cases hv
theorem RwM.call {s tj f j dg : Nat} {p : Value} {q : Bool} {oj : Oper} {tys : Array TypeId} {s1 : S} (ho : o.op = .call { callee := .value (.tmp s), args := #[], argTypes := tys }) (g : o.guard = some (j, q)) (hj : ops[j]? = some oj) (dj : oj.dst = some dg) (hg : Nat.blt dg X.nt = true) (hf : find dg ts = .c (.bool q))
  (hv : lkR R s = some (.func (.func f) #[p] #[])) (hp : lkR R tj = some p) (h1 : find tj ts = s1) (h : CallN X f [s1] o.dst ts H fun ts' H' => RwN X ops l c ts' H' k) : RwM X ops (o :: l) c ts H b es ck R k := by
 refine ⟨fun K F0 H0 μ0 F μ a w hn hs hR => wpList_step fun k1 hk1 => ?_⟩
 rw [Qxt (Qn1 hs g hj dj hg hf)]
 unfold Oper.wp
 obtain ⟨⟨fnn, f1, f2, f3⟩⟩ := h.body
 have r : (execOp a.eval o).run X.P w = .ok (.enter f #[p]) w := by
  have e1 : a.eval (.tmp s) = .func (.func f) #[p] #[] := hR s _ hv
  unfold execOp
  rw [ho]
  show (do let d ← resolve _ _ o.type; invoke d.target d.args : Sem Next).run X.P w = _
  simp only [resolve, e1]
  show (do let d ← Deferred.ofValue (Value.func (.func f) #[p] #[]) _; invoke d.target d.args : Sem Next).run X.P w = _
  simp only [Deferred.ofValue]
  rw [Qg (show (pure _ : Sem Deferred).run X.P w = .ok _ w from rfl)]
  simp only [invoke]
  unfold callFunc
  rw [Qg (show program.run X.P w = .ok X.P w from rfl)]
  simp only [f1, f3]
  have : fnn.body.isNone = false := by cases hfb : fnn.body <;> simp_all
  simp only [this]
  rw [Qxu (by simp), Qxu (by simp)]
  simp
 have hs' : Sat X K F0 H0 μ0 ts H F μ a w := ⟨hs.le, hs.ext, hs.hs.lessK hn, hs.tp, hs.sz, hs.df, hs.n0⟩
 rw [r, Oper.upon_enter]
 refine (h.run K F0 H0 μ0 F μ a w #[p] hs' ⟨rfl, fun i s hi => ?_⟩).mono ?_
 ·match i, hi with
  | 0, hi =>
   simp only [getL, Qxv] at hi
   subst hi
   refine ⟨p, rfl, ?_⟩
   have := hs.tp tj
   rw [h1, hR tj p hp] at this
   exact this
  | i + 1, hi => simp [getL] at hi
 ·rintro e w' ⟨v, rfl, ts', H', F', μ', q1, q2⟩
  exact hk1 _ _ (q1.out K F0 H0 μ0 F' μ' _ _ q2)
theorem RwN.vcN (hΓ : Qw X.P X.Γ) (n : Nat) (h : QcS X ops.toList (l.take n) ts H fun ts' H' => RwN X ops (l.drop n) c ts' H' k) : RwN X ops l c ts H k := by
 refine ⟨fun K F0 H0 μ0 F μ a w hs => ?_⟩
 have := Qc2 (X := X) hΓ ops.toList (Q := Exit.then (c.wp X.P (Post X K F0 H0 μ0 k)) (Post X K F0 H0 μ0 k)) (l.drop n) (l.take n) h hs fun ts' H' F' μ' a' w' q1 q2 => by
  rw [show ops.toList.toArray = ops by simp]
  exact q1.out K F0 H0 μ0 F' μ' a' w' q2
 rwa [show ops.toList.toArray = ops by simp, List.take_append_drop] at this
theorem RwN.skip {dg : Nat} (g : o.guard = some (j, q)) (hj : ops[j]? = some oj) (dj : oj.dst = some dg) (hg : Nat.blt dg X.nt = true) (hf : find dg ts = .c (.bool (!q))) (dd : o.dst = some d) (hd : Nat.blt d X.nt = true) (g0 : Bool) (s0 : S) (h0 : g0 = false) (h : RwN X ops l c ((d, .lz g0 s0) :: ts) H k) : RwN X ops (o :: l) c ts H k := by
 subst h0
 refine ⟨fun K F0 H0 μ0 F μ a w hs => wpList_step fun k1 hk1 => ?_⟩
 have hlt : dg < a.tmps.size := by rw [hs.sz]; exact QxJ hg
 have hr := hs.tp dg
 rw [hf] at hr
 have hr : a.tmps.getD dg undef = .bool (!q) := hr
 have hw : Region.wanted o (yielded ops a.tmps) = false := by
  simp only [Region.wanted, g, yielded, hj, Option.bind_some, dj]
  have : a.tmps[dg]? = some a.tmps[dg] := Qx9 hlt
  simp only [this]
  rw [show a.tmps.getD dg undef = a.tmps[dg] by simp [Array.getD, hlt]] at hr
  rw [hr]
  cases q <;> simp
 rw [Qxu (by rw [hw]; simp), dd]
 exact hk1 _ _ (h.out K F0 H0 μ0 F μ _ _ ⟨hs.le, hs.ext, hs.hs, hs.tp.put (by rw [hs.sz]; exact QxJ hd) ⟨fun z => (by cases z), fun _ => rfl⟩, by simp [Act.put, hs.sz], hs.df, hs.n0⟩)
theorem Qxf (h : RwN X ops ops.toList c ts H k) : AWn X (.seq (.region i ops false) c) ts H k :=
 ⟨fun K F0 H0 μ0 F μ a w hs => wp_seq (wp_region_list (h.out K F0 H0 μ0 F μ a w hs))⟩
end
end Go.Am
