/- Contracts, lemmas; no condition. -/
import Derived.Test.YtjjlblnbeggejaaGreatP13
import Derived.Test.YtjjlblnbeggejaaGreatP10
import Derived.Defers
set_option linter.all false
section
namespace Go.Am
def KeepT (a0 : Act) (l : List Oper) (a : Act) : Prop := ∀ t, (∀ o ∈ l, o.dst ≠ some t) → a.tmps.getD t undef = a0.tmps.getD t undef
theorem KeepT.put {a0 a : Act} {l : List Oper} {o : Oper} (h : KeepT a0 l a) (ho : o ∈ l) (v : Value) : KeepT a0 l (a.put o.dst v) := by
 intro t ht
 rw [← h t ht]
 cases hd : o.dst with
 | none => rfl
 | some d =>
  have hne : d ≠ t := fun e => ht o ho (by rw [hd, e])
  simp only [Act.put, Array.getD_eq_getD_getElem?]
  rw [Array.getElem?_setIfInBounds_ne hne]
theorem QsW {P : Program} {a0 : Act} {l : List Oper} {o : Oper} (ho : o ∈ l) {a : Act} {w : World} {K K' : Act → World → Prop} {Q Q' : Exit → Act → World → Prop} (hq : ∀ e a w, Q e a w → e ≠ .normal → Q' e a w)
  (h : ∀ a w, KeepT a0 l a → K a w → K' a w) (ha : KeepT a0 l a) (hh : o.wp P a w K Q) : o.wp P a w K' Q' := by
 have hL : LetsOut Q → LetsOut Q' := fun ⟨x, y, z⟩ => ⟨x, y, hq _ _ _ z (by simp)⟩
 unfold Oper.wp at *
 generalize (execOp a.eval o).run P w = r at *
 cases r with
 | ok n w' =>
  cases n with
  | value v => exact h _ _ (ha.put ho v) hh
  | skip => exact h _ _ (ha.put ho _) hh
  | defer d => exact h _ _ (KeepT.put (a := { a with defers := d :: a.defers }) (fun t ht => ha t ht) ho _) hh
  | enter f args =>
   refine Calls.mono hh fun e w'' he => ?_
   cases e with
   | returned v => exact h _ _ (ha.put ho v) he
   | panicked c => exact hq _ _ _ he (by simp)
   | outgrown => exact hL he
  | row r args => exact Rows.mono hh fun v w'' he => h _ _ (ha.put ho v) he
  | _ => exact hh
 | halt x w' =>
  cases x with
  | panic v => exact hq _ _ _ hh (by simp)
  | _ => exact hh
theorem QdI {P : Program} {md : Region.Mode} {ops : Array Oper} {Q : Exit → Act → World → Prop} {a0 : Act} : ∀ (fuel : Nat) (listed : Array Bool) (a : Act) (w : World), KeepT a0 ops.toList a → wpAny P md ops Q fuel listed a w →
  wpAny P md ops (fun e a' w' => Q e a' w' ∧ (e = .normal → KeepT a0 ops.toList a')) fuel listed a w
 | 0, listed, a, w, ha, h => ⟨h.1, h.2, fun _ => ha⟩
 | fuel + 1, listed, a, w, ha, h => by
  refine ⟨fun hr => ⟨h.1 hr, fun _ => ha⟩, fun i hi => ?_⟩
  have := h.2 i hi
  unfold wpOp at this ⊢
  cases ho : ops[i]? with
  | none =>
   simp only [ho] at this ⊢
   exact QdI fuel _ a w ha this
  | some o =>
   simp only [ho] at this ⊢
   have hm : o ∈ ops.toList := by
    have := Array.mem_of_getElem? ho
    simpa using this
   split
   ·rename_i hw
    simp only [hw, if_true] at this
    rcases this with h1 | h1
    ·exact .inl (QsW hm (fun e a w q hn => ⟨q, fun e' => absurd e' hn⟩) (fun a w ha h => QdI fuel _ a w ha h) ha h1)
    ·obtain ⟨x, y, z⟩ := h1.2
     exact .inr ⟨h1.1, x, y, z, fun e' => by cases e'⟩
   ·rename_i hw
    simp only [hw] at this
    exact QdI fuel _ _ w (ha.put hm _) this
inductive BwT (H : List O) (ts : Ts) : Ts → Prop
 | nil : BwT H ts []
 | cons {t : Nat} {s : S} {r : Ts} (h : BwS H (find t ts) s) (k : BwT H ts r) : BwT H ts ((t, s) :: r)
theorem BwT.ok {K : Keep} {F : Mem} {H : List O} {μ : Nat → Value} {w : World} {ts : Ts} {tm : Array Value} (hw : HSat K F H μ w) (ht : TSat F H μ ts tm) {r : Ts} (h : BwT H ts r) : TSat (QaV w) [] μ r tm := by
 induction h with
 | nil => intro t; trivial
 | @cons t s r h k ih =>
  intro t'
  simp only [find]
  cases hb : Nat.beq t t' with
  | true =>
   have := Nat.eq_of_beq_eq_true hb
   subst this
   exact QrF hw h (ht t)
  | false => exact ih t'
def QjI (ts : Ts) : Bool := ts.all fun p => p.2.flat
def Qtw (l : List Oper) (t : Nat) : Bool := l.all fun o => match o.dst with
 | none => true
 | some d => !Nat.beq d t
theorem Qs6 {l : List Oper} {t : Nat} (h : Qtw l t = true) : ∀ o ∈ l, o.dst ≠ some t := by
 intro o ho hd
 have := List.all_eq_true.1 h o ho
 rw [hd] at this
 simp at this
theorem Qm3 {F : Mem} {H : List O} {μ : Nat → Value} {r : Ts} {t : Nat} {v : Value} (hr : RepS F H μ (find t r) v) : ∀ {l : Ts}, RepS F H μ (find t l) v → RepS F H μ (find t (l ++ r)) v
 | [], _ => hr
 | (d, s) :: l, h => by
  simp only [List.cons_append, find] at h ⊢
  cases hb : Nat.beq d t with
  | true => rw [hb] at h; exact h
  | false => rw [hb] at h; exact Qm3 hr h
theorem Qks {t : Nat} : ∀ {l : Ts}, QjI l = true → (find t l).flat = true
 | [], _ => rfl
 | (d, s) :: l, h => by
  simp only [QjI, List.all_cons, Bool.and_eq_true] at h
  simp only [find]
  split
  ·exact h.1
  ·exact Qks (l := l) h.2
theorem Dr.thaw {X : Cx} (hΓ : Qw X.P X.Γ) (hm : X.P.follows .mixedOrders = true) {id : Nat} {ops : Array Oper} {ts : Ts} {H : List O} {k : Kp} (kp : List Nat) (tsF : Ts) (hF : BwT H ts tsF) (hkp : kp.all (Qtw ops.toList) = true)
  (hok : Qeb [] [] ops.toList = true) (h : Qb7 { X with n0 := 0 } [] ops.toList ops.toList tsF [] fun ts' _ => ∃ tsN, WT idN 0 ts' tsN ∧ QjI tsN = true ∧ k .normal (tsN ++ QeU kp ts) H) : Dr X id ops ts H k := by
 refine ⟨fun K F0 H0 μ0 F μ a w hs => ?_⟩
 have hw0 : HSat { K with mem := fun _ => none } (QaV w) [] μ w :=
  ⟨hs.hs.os, hs.hs.tape, hs.hs.output, fun b o hb => hb, fun b o hb => (by cases hb), fun id o ho => by simp [getL] at ho, fun id b ⟨⟨o, ho, _⟩, _⟩ => by simp [getL] at ho, fun id id' b ⟨⟨o, ho, _⟩, _⟩ => by simp [getL] at ho, fun _ _ _ => rfl⟩
 have s0 : Sat { X with n0 := 0 } { K with mem := fun _ => none } (QaV w) [] μ tsF [] (QaV w) μ a w :=
  ⟨Mem.le_refl _, Ext.refl [] μ, hw0, hF.ok hs.hs hs.tp, hs.sz, hs.df, Nat.le_refl _⟩
 have h1 := QiM (X := { X with n0 := 0 }) (k := fun e ts' _ => match e with
  | .normal => ∃ tsN, WT idN 0 ts' tsN ∧ QjI tsN = true ∧ k .normal (tsN ++ QeU kp ts) H
  | _ => False) hΓ hm [] [] hok h _ _ _ _ _ _ _ _ s0
 refine wp_mono (wp_region_any hm (QdI (a0 := a) _ _ _ _ (fun _ _ => rfl) h1)) ?_
 rintro e a' w' ⟨⟨ts', H', F', μ', hs', he⟩, hk⟩
 cases e with
 | normal =>
  obtain ⟨tsN, n1, n2, n3⟩ := he
  have kk := hk rfl
  have old : ∀ b o, w.heap[b]? = some o → w'.heap[b]? = some o := fun b o hb => hs'.hs.fr b o (hs'.le b o hb)
  refine ⟨_, H, F, μ, ⟨hs.le, hs.ext, hs.hs.later (hs'.hs.os.trans hs.hs.os.symm) (hs'.hs.tape.trans hs.hs.tape.symm) (hs'.hs.output.trans hs.hs.output.symm) old, fun t => ?_, hs'.sz, hs'.df, hs.n0⟩, n3⟩
  have hN : RepS F H μ (find t tsN) (a'.tmps.getD t undef) := by
   have h1 : HWk idN H' [] := ⟨fun i o' h => by simp [getL] at h, fun i j h => by simp at h⟩
   exact Qpz (Qks n2) (TSat.wk h1 n1.out hs'.tp t)
  refine Qm3 ?_ hN
  clear n3 hN h h1
  induction kp with
  | nil => trivial
  | cons t0 r ih =>
   simp only [List.all_cons, Bool.and_eq_true] at hkp
   simp only [QeU, find]
   cases hb : Nat.beq t0 t with
   | true =>
    have := Nat.eq_of_beq_eq_true hb
    subst this
    rw [kk t0 (Qs6 hkp.1)]
    exact hs.tp t0
   | false => exact ih hkp.2
 | exit id => exact he.elim
 | ret => exact he.elim
 | _ => exact he.elim
def DSpec (P : Program) (f : FuncId) (args : List S) (H : List O) (Q : S → List O → Prop) : Prop :=
 ∀ K F μ w vs u, HSat K F H μ w → RepA F H μ args vs → CallsD P f vs u w fun e u' w' => u' = u ∧ ∃ v F' μ' s H', e = .returned v ∧ F.le F' ∧ HSat K F' H' μ' w' ∧ Ext H μ H' μ' ∧ RepS F' H' μ' s v ∧ Q s H'
theorem DSpec.of_vc {P : Program} {Γ : Env} (hΓ : Qw P Γ) {f : FuncId} {fn : Func} {c : Code} (hf : P.funcs[f]? = some fn) {args : List S} {H : List O} {Q : S → List O → Prop} (nt n0 : Nat) (rs : List ResultVar)
  (hnt : fn.ntmps = nt) (h : Qco 0 args fun ts => vc ⟨P, Γ, nt, n0⟩ c ts H (retK Γ rs Q)) (hb : fn.body = some c := by rfl) (hn0 : H.length = n0 := by rfl) (hrs : fn.results.toList = rs := by rfl) (hn : Nat.ble args.length nt = true := by rfl) : DSpec P f args H Q := by
 subst hnt
 subst hn0
 subst hrs
 rw [Qea] at h
 have hn := Nat.le_of_ble_eq_true hn
 intro K F μ w vs u hw hA
 refine callsD_of_wp hf hb ?_
 have hsz : (vs ++ Array.replicate (fn.ntmps - vs.size) undef).size = fn.ntmps := by
  rw [Array.size_append, Array.size_replicate, hA.1]; omega
 have hT : TSat F H μ (params 0 args) (vs ++ Array.replicate (fn.ntmps - vs.size) undef) := by
  intro t
  rcases Qdy args 0 t with e | ⟨j, s, rfl, e1, e2⟩
  ·rw [e]; trivial
  ·rw [e2]
   obtain ⟨v, v1, v2⟩ := hA.2 j s e1
   have hlt : j < vs.size := (Array.getElem?_eq_some_iff.1 v1).1
   rw [Nat.zero_add, Array.getD_eq_getD_getElem?, Array.getElem?_append_left hlt, v1]
   exact v2
 have hs : Sat ⟨P, Γ, fn.ntmps, H.length⟩ { K with ds := [] } F H μ (params 0 args) H F μ ⟨vs ++ Array.replicate (fn.ntmps - vs.size) undef, []⟩ w :=
  ⟨Mem.le_refl F, Ext.refl H μ, hw.ds [], hT, hsz, rfl, Nat.le_refl _⟩
 refine wp_mono (Qdf (X := ⟨P, Γ, fn.ntmps, H.length⟩) hΓ c h { K with ds := [] } F H μ F μ _ w hs) ?_
 rintro e a' w' ⟨ts', H', F', μ', hs', he⟩
 have fin : resK Γ fn.results.toList ts' H' Q → a'.defers = [] ∧ ∃ v, (results fn a'.tmps).run P w' = .ok v w' ∧ (fun e w' => ∃ v F' μ' s H', e = Ending.returned v ∧ F.le F' ∧ HSat K F' H' μ' w' ∧ Ext H μ H' μ' ∧ RepS F' H' μ' s v ∧ Q s H') (.returned v) w' := by
  intro hr
  obtain ⟨v, s, r1, r2, r3⟩ := QjO (P := P) hΓ hs'.hs hs'.tp hr
  exact ⟨hs'.df, v, r1, v, F', μ', s, H', rfl, hs'.le, hs'.hs.ds K.ds, hs'.ext, r2, r3⟩
 cases e with
 | normal => exact fin he
 | ret => exact fin he
 | exit id => exact he.elim
 | goto l => exact he.elim
 | panic ch => exact he.elim
 | outgrown => exact he.elim
structure DNode (P : Program) (f : FuncId) (args : List S) (H : List O) (Q : S → List O → Prop) : Prop where
 intro ::
 out : DSpec P f args H Q
structure DfrN (X : Cx) (n1 : Nat) (g : FuncId) (x : Operand) (dst : Option Tmp) (c : Code) (ts : Ts) (H : List O) (k : List S → Ts → List O → Prop) : Prop where
 intro ::
 out : ∃ n get, opnd ts x = .c (.fn (.func g) n get) ∧ H.length ≤ n1 ∧ putK X.nt dst .u ts fun ts' => vc { X with n0 := n1 } c ts' H fun e ts'' H'' => match e with
  | .exit _ => False
  | _ => k (capS get 0 n) ts'' H''
theorem QpB {P : Program} {F : Mem} {H : List O} {μ : Nat → Value} {ts : Ts} {a : Act} (hT : TSat F H μ ts a.tmps) {o : Oper} {x : Operand} {aT : Array TypeId} (ho : o.op = .defer ⟨.value x, #[], aT⟩) {g : FuncId} {n : Nat} {get : Nat → C} (hx : opnd ts x = .c (.fn (.func g) n get))
  {fn : Func} (hf : P.funcs[g]? = some fn) (hb : fn.body.isSome = true) (hname : (fn.name == "runtime.NumGoroutine") = false) (w : World) :
  ∃ cs, (execOp a.eval o).run P w = .ok (.defer ⟨.fn (.func g) cs, #[]⟩) w ∧ (∀ w', (invoke (.fn (.func g) cs) #[]).run P w' = .ok (.enter g cs) w') ∧ RepA F H μ (capS get 0 n) cs := by
 have hv := Q9 hT x
 rw [hx] at hv
 obtain ⟨cs, c1, c2, c3⟩ := hv
 obtain ⟨k1, k2⟩ := Qii get n 0
 refine ⟨cs, ?_, fun w' => ?_, by rw [k1, c2], fun j s hs => ?_⟩
 ·unfold execOp
  rw [ho]
  show (do pure (.defer (← resolve a.eval _ o.type)) : Sem Next).run P w = _
  simp only [resolve, c1, Deferred.ofValue, Array.map_empty, Array.append_empty]
  rfl
 ·simp only [invoke, Array.empty_append]
  unfold callFunc
  rw [Qg (show program.run P w' = .ok P w' from rfl)]
  simp only [hf, hname]
  have : fn.body.isNone = false := by cases hfb : fn.body <;> simp_all
  simp only [this]
  rfl
 ·obtain ⟨h3, h4⟩ := k2 _ s hs
  obtain ⟨v, v1, v2⟩ := c3 _ h3
  subst h4
  exact ⟨v, v1, by rw [Nat.zero_add]; exact v2⟩
theorem CSpec.of_dfr {P : Program} {Γ : Env} (hΓ : Qw P Γ) {f : FuncId} {fn : Func} {c0 c : Code} {i : Nat} {ops : Array Oper} (hf : P.funcs[f]? = some fn) {args : List S} {H : List O} {Q : S → List O → Prop} (nt n0 n1 : Nat) (rs : List ResultVar) {g : FuncId} (pre : List Oper) {oD : Oper} {x : Operand} {aT : Array TypeId}
  (hnt : fn.ntmps = nt) (hg : HasBody P g) (h : Qco 0 args fun ts => vc ⟨P, Γ, nt, n0⟩ c0 ts H fun e ts1 H1 => match e with
   | .normal => QcS ⟨P, Γ, nt, n0⟩ ops.toList pre ts1 H1 fun ts2 H2 => DfrN ⟨P, Γ, nt, n0⟩ n1 g x oD.dst c ts2 H2 fun cs ts3 H3 => DNode P g cs H3 fun _ H4 => resK Γ rs ts3 H4 Q
   | _ => False)
  (hb : fn.body = some (.seq c0 (.seq (.region i ops false) c)) := by rfl) (hops : ops.toList = pre ++ [oD] := by rfl) (hD : oD.op = .defer ⟨.value x, #[], aT⟩ := by rfl) (gD : oD.guard = none := by rfl)
  (hn0 : H.length = n0 := by rfl) (hrs : fn.results.toList = rs := by rfl) (hn : Nat.ble args.length nt = true := by rfl) : CSpec P f args H Q := by
 subst hnt
 subst hn0
 subst hrs
 rw [Qea] at h
 have hn := Nat.le_of_ble_eq_true hn
 obtain ⟨gn, g1, g2, g3⟩ := hg.out
 intro K F μ w vs hw hA
 refine calls_of_wp_defers hf hb ?_
 have hsz : (vs ++ Array.replicate (fn.ntmps - vs.size) undef).size = fn.ntmps := by
  rw [Array.size_append, Array.size_replicate, hA.1]; omega
 have hT : TSat F H μ (params 0 args) (vs ++ Array.replicate (fn.ntmps - vs.size) undef) := by
  intro t
  rcases Qdy args 0 t with e | ⟨j, s, rfl, e1, e2⟩
  ·rw [e]; trivial
  ·rw [e2]
   obtain ⟨v, v1, v2⟩ := hA.2 j s e1
   have hlt : j < vs.size := (Array.getElem?_eq_some_iff.1 v1).1
   rw [Nat.zero_add, Array.getD_eq_getD_getElem?, Array.getElem?_append_left hlt, v1]
   exact v2
 have hs : Sat ⟨P, Γ, fn.ntmps, H.length⟩ { K with ds := [] } F H μ (params 0 args) H F μ ⟨vs ++ Array.replicate (fn.ntmps - vs.size) undef, []⟩ w :=
  ⟨Mem.le_refl F, Ext.refl H μ, hw.ds [], hT, hsz, rfl, Nat.le_refl _⟩
 refine wp_seq (wp_mono (Qdf (X := ⟨P, Γ, fn.ntmps, H.length⟩) hΓ c0 h { K with ds := [] } F H μ F μ _ w hs) ?_)
 rintro e a1 w1 ⟨ts1, H1, F1, μ1, hs1, he⟩
 cases e with
 | normal =>
  refine wp_seq (wp_region_list ?_)
  rw [hops]
  have hv : QcS ⟨P, Γ, fn.ntmps, H.length⟩ (pre ++ [oD]) pre ts1 H1 fun ts2 H2 => DfrN ⟨P, Γ, fn.ntmps, H.length⟩ n1 g x oD.dst c ts2 H2 fun cs ts3 H3 => DNode P g cs H3 fun _ H4 => resK Γ fn.results.toList ts3 H4 Q := by rw [← hops]; exact he
  have ho : ops = (pre ++ [oD]).toArray := by rw [← hops]
  rw [ho]
  refine Qc2 (X := ⟨P, Γ, fn.ntmps, H.length⟩) hΓ (pre ++ [oD]) [oD] pre hv hs1 fun ts2 H2 F2 μ2 a2 w2 hd hs2 => ?_
  obtain ⟨n, get, x1, x2, x3⟩ := hd.out
  obtain ⟨cs, d1, d2, d3⟩ := QpB (P := P) hs2.tp hD x1 g1 g2 g3 w2
  refine wpList_step fun kk hkk => ?_
  simp only [Region.wanted, gD, if_true]
  unfold Oper.wp
  rw [d1, Oper.upon_defer]
  refine hkk _ _ ?_
  obtain ⟨ts2', p1, p2⟩ := hs2.put (s := .u) (v := undef) (Mem.le_refl F2) (Ext.refl H2 μ2) hs2.hs trivial x3
  have hs2' : Sat ⟨P, Γ, fn.ntmps, n1⟩ { K with ds := [⟨.fn (.func g) cs, #[]⟩] } F2 H2 μ2 ts2' H2 F2 μ2 ({ a2 with defers := ⟨.fn (.func g) cs, #[]⟩ :: a2.defers }.put oD.dst undef) w2 :=
   ⟨Mem.le_refl F2, Ext.refl H2 μ2, hs2.hs.ds _, by have := p2.tp; cases hdst : oD.dst <;> rw [hdst] at this <;> exact this, by have := p2.sz; cases hdst : oD.dst <;> rw [hdst] at this <;> exact this, by
    have := hs2.df
    cases hdst : oD.dst <;> simp [Act.put, this], x2⟩
  refine wp_mono (Qdf (X := ⟨P, Γ, fn.ntmps, n1⟩) hΓ c p1 _ F2 H2 μ2 F2 μ2 _ w2 hs2') ?_
  rintro e a3 w3 ⟨ts3, H3, F3, μ3, hs3, he3⟩
  have fin : (DNode P g (capS get 0 n) H3 fun _ H4 => resK Γ fn.results.toList ts3 H4 Q) → Leaves P fn a3.tmps (fun e w' => ∃ v F' μ' s H', e = Ending.returned v ∧ F.le F' ∧ HSat K F' H' μ' w' ∧ Ext H μ H' μ' ∧ RepS F' H' μ' s v ∧ Q s H') a3.defers .returning w3 := by
   intro hq
   have hdf : a3.defers = [⟨.fn (.func g) cs, #[]⟩] := hs3.df
   rw [hdf]
   refine leaves_cons (by intro e; cases e) (d2 w3) ?_
   refine (hq.out _ F3 μ3 w3 cs .returning hs3.hs ⟨d3.1, fun j s hj => ?_⟩).mono ?_
   ·obtain ⟨v, v1, v2⟩ := d3.2 j s hj
    exact ⟨v, v1, RepS.mono hs3.le hs3.ext s v v2⟩
   ·rintro e u' w4 ⟨rfl, v, F4, μ4, s, H4, rfl, q1, q2, q3, q4, q5⟩
    obtain ⟨v', s', r1, r2, r3⟩ := QjO (P := P) hΓ q2 (hs3.tp.mono q1 q3) q5
    exact ⟨v', r1, v', F4, μ4, s', H4, rfl, (hs2.le.le_trans' hs3.le).le_trans' q1, q2.ds K.ds, (hs2.ext.trans hs3.ext).trans q3, r2, r3⟩
  cases e with
  | normal => exact fin he3
  | ret => exact fin he3
  | exit id => exact he3.elim
  | goto l => exact he3.elim
  | panic ch => exact he3.elim
  | outgrown => exact he3.elim
 | exit id => exact he.elim
 | ret => exact he.elim
 | goto l => exact he.elim
 | panic ch => exact he.elim
 | outgrown => exact he.elim
theorem CSpec.of_dfr2 {P : Program} {Γ : Env} (hΓ : Qw P Γ) {f : FuncId} {fn : Func} {c0 c : Code} {i : Nat} {oM oD : Oper} (hf : P.funcs[f]? = some fn) (hb : fn.body = some (.seq c0 (.seq (.region i #[oM, oD] false) c))) {x : Operand} {aT : Array TypeId} (hD : oD.op = .defer ⟨.value x, #[], aT⟩) {args : List S} {H : List O} {Q : S → List O → Prop} (nt n0 n1 : Nat) (rs : List ResultVar) {g : FuncId}
  (hnt : fn.ntmps = nt) (hg : HasBody P g) (h : Qco 0 args fun ts => vc ⟨P, Γ, nt, n0⟩ c0 ts H fun e ts1 H1 => match e with
   | .normal => QcS ⟨P, Γ, nt, n0⟩ [oM, oD] [oM] ts1 H1 fun ts2 H2 => DfrN ⟨P, Γ, nt, n0⟩ n1 g x oD.dst c ts2 H2 fun cs ts3 H3 => DNode P g cs H3 fun _ H4 => resK Γ rs ts3 H4 Q
   | _ => False)
  (gD : oD.guard = none := by rfl) (hn0 : H.length = n0 := by rfl) (hrs : fn.results.toList = rs := by rfl) (hn : Nat.ble args.length nt = true := by rfl) : CSpec P f args H Q :=
 CSpec.of_dfr hΓ hf nt n0 n1 rs [oM] hnt hg h hb rfl hD gD hn0 hrs hn
end Go.Am
end
