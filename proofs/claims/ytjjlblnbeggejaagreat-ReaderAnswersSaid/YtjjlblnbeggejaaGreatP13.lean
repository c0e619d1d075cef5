/- Contracts, lemmas; no condition. -/
import Derived.Test.YtjjlblnbeggejaaGreatA26
import Derived.Maps.RangeRun
set_option linter.all false
section
namespace Go.Am
open Go.ChangeMaps (setBlock)
variable {F : Mem} {H : List O} {μ : Nat → Value} {k : Kp} {P : Program} {c : Code} {a : Act} {w : World} {sh : KS} {z : List Z} {va : Bool} {ks L : List Key} {val : Key → Nat → C} {es : Array MapEntry} {seen : Array Nat} {X : Cx} {K : Keep} {ts : Ts} {b r d : Nat} {o : Obj}
def Key.toE : Key → C ⊕ List C
 | .c (.i k n) => .inl (.int k n)
 | .c (.s b) => .inl (.str b)
 | .a l => .inr (l.map fun | .i k n => .int k n | .s b => .str b)
def Key.small : Key → Prop
 | .c (.s b) => b.size ≤ maxLen
 | .c _ => True
 | .a _ => False
theorem QwV {k : Key} (h : k.small) : RepE F H μ k.toE k.toV := by
 cases k with
 | c x => cases x with
  | i q n => exact rfl
  | s b => exact ⟨rfl, h⟩
 | a l => exact h.elim
theorem QuJ {Q : Exit → Act → World → Prop} (I : Nat → Act → World → Prop) (h0 : ∃ n, I n a w)
  (step : ∀ n a w, I n a w → c.wp P (Exit.then (fun a' w' => ∃ n', n' < n ∧ I n' a' w') Q) a w) : (Code.loop c).wp P Q a w := by
 classical
 let least : Act → World → Nat := fun a w => if h : ∃ n, I n a w then (Qbe h).choose else 0
 refine wp_loop (fun a w => ∃ n, I n a w) least h0 ?_
 intro a w hI
 have hl : least a w = (Qbe hI).choose := by simp only [least]; rw [dif_pos hI]
 refine wp_mono (step (least a w) a w (by rw [hl]; exact (Qbe hI).choose_spec.1)) ?_
 intro e a' w' he
 cases e with
 | normal =>
  obtain ⟨n', n1, n2⟩ := he
  have hI' : ∃ n, I n a' w' := ⟨n', n2⟩
  refine ⟨hI', ?_⟩
  have hl' : least a' w' = (Qbe hI').choose := by simp only [least]; rw [dif_pos hI']
  rw [hl']
  exact Nat.lt_of_le_of_lt ((Qbe hI').choose_spec.2 n' n2) n1
 | _ => exact he
structure Left (es : Array MapEntry) (seen : Array Nat) (L : List Key) : Prop where
 nd : L.Nodup
 mem : ∀ k, k ∈ L ↔ ∃ e ∈ es.toList, e.key = k.toV ∧ seen.contains e.born = false
theorem Qw4 (h : MRep F sh z va ks val es.toList) : Left es #[] ks := by
 refine ⟨h.nd, fun k => ⟨fun hk => ?_, fun ⟨e, h1, h2, _⟩ => ?_⟩⟩
 ·have : k.toV ∈ es.toList.map (·.key) := by rw [h.keys]; exact QyJ hk
  obtain ⟨e, e1, e2⟩ := Qyj.1 this
  exact ⟨e, e1, e2, by simp⟩
 ·have : e.key ∈ ks.map Key.toV := by rw [← h.keys]; exact QyJ h1
  obtain ⟨y, y1, y2⟩ := Qyj.1 this
  have : y = k := Key.toV_inj (by rw [y2, h2])
  exact this ▸ y1
theorem Left.none (h : Left es seen L) (h0 : (leftOf es seen).size = 0) : L = [] := by
 cases L with
 | nil => rfl
 | cons k r =>
  obtain ⟨e, e1, e2, e3⟩ := (h.mem k).1 (by simp)
  have := all_seen es seen h0 e e1
  rw [e3] at this; cases this
theorem Left.next (hr : MRep F sh z va ks val es.toList) (hb : (es.toList.map (·.born)).Nodup) (h : Left es seen L) {e : MapEntry} (he : e ∈ (leftOf es seen).toList) :
  ∃ k, k ∈ L ∧ k ∈ ks ∧ e.key = k.toV ∧ RepV F va z.length (val k) e.val ∧ Left es (seen.push e.born) (L.erase k) := by
 obtain ⟨h1, h2⟩ := mem_left he
 obtain ⟨j, hj⟩ := List.mem_iff_getElem?.1 h1
 have hlen : es.toList.length = ks.length := by
  have := QxK List.length hr.keys
  simpa using this
 have hjl := (QxU.1 hj).1
 have hk : ks[j]? = some (ks[j]'om) := by simp
 have ek : e.key = (ks[j]'om).toV := by
  have h1 : (es.toList.map (·.key))[j]? = some e.key := by rw [Qyx, hj]; rfl
  rw [hr.keys, Qyx, hk] at h1
  exact (Qyv h1).symm
 refine ⟨_, (h.mem _).2 ⟨e, h1, ek, h2⟩, Qx8 hk, ek, hr.vals j e _ hj hk, h.nd.erase _, fun k' => ?_⟩
 rw [h.nd.mem_erase_iff, h.mem k']
 constructor
 ·rintro ⟨hne, e', e1, e2, e3⟩
  refine ⟨e', e1, e2, ?_⟩
  rw [contains_push, e3]
  simp only [Bool.false_or, Qze]
  intro q
  have : e' = e := born_inj hb e1 h1 q
  subst this
  exact hne (Key.toV_inj (by rw [← e2, ek]))
 ·rintro ⟨e', e1, e2, e3⟩
  rw [contains_push] at e3
  simp only [Bool.or_eq_false_iff, Qze] at e3
  refine ⟨fun q => ?_, e', e1, e2, e3.1⟩
  subst q
  have hkk : e'.key = e.key := by rw [e2, ek]
  obtain ⟨j', hj'⟩ := List.mem_iff_getElem?.1 e1
  have hjl' := (QxU.1 hj').1
  have h3 : (es.toList.map (·.key))[j']? = some e'.key := by rw [Qyx, hj']; rfl
  have h4 : (es.toList.map (·.key))[j]? = some e.key := by rw [Qyx, hj]; rfl
  have hnd : (es.toList.map (·.key)).Nodup := by
   rw [hr.keys]
   exact List.Pairwise.map _ (fun a b hab q => hab (Key.toV_inj q)) hr.nd
  have : j' = j := (List.getElem?_inj (by simpa using hjl') hnd).1 (by rw [h3, h4, hkk])
  subst this
  rw [hj] at hj'
  exact e3.2 (by cases hj'; rfl)
theorem Sat.drop {F0 : Mem} {H0 : List O} {μ0 : Nat → Value} {ts' : Ts} (h : Sat X K F0 H0 μ0 ts H F μ a w) (ht : WT idN 0 ts ts') : TSat F [] μ ts' a.tmps := by
 intro t
 have h1 : HWk idN H [] := ⟨fun i o' h => by simp [getL] at h, fun i j h => by simp at h⟩
 exact TSat.wk h1 ht.out h.tp t
theorem Qq8 {i : Nat} : ¬ QS [] μ i b := by
 rintro ⟨⟨o, ho, _⟩, _⟩
 simp [getL] at ho
noncomputable def Keep.two (K : Keep) (b : Nat) (o : Obj) (r : Nat) (o' : Obj) : Keep := { K with mem := fun x => if x = b then some o else if x = r then some o' else K.mem x }
theorem QuI (h : HSat K F H μ w) (hr : K.mem r = some o) {i : Nat} (ho : QS H μ i b) : b ≠ r := by
 intro e
 subst e
 have := (h.sp i b ho).2
 rw [hr] at this; cases this
theorem HSat.swap {w1 : World} {o1 o2 : Obj} (h : HSat (K.two b o r o1) F H μ w) (hne : r ≠ b) (hw : w1 = w ∨ w1 = w.drew) : HSat (K.two b o r o2) F H μ (setBlock w1 r o2) := by
 have e1 : w1.os = w.os ∧ w1.tape = w.tape ∧ w1.output = w.output ∧ w1.heap = w.heap := by rcases hw with rfl | rfl <;> exact ⟨rfl, rfl, rfl, rfl⟩
 obtain ⟨e1, e2, e3, e4⟩ := e1
 have mr : (K.two b o r o1).mem r = some o1 := by simp [Keep.two, hne]
 have hr : w.heap[r]? = some o1 := h.kp r o1 mr
 have hrl := (QxH.1 hr).1
 have hs : (setBlock w1 r o2).heap = w.heap.setIfInBounds r o2 := by simp [setBlock, e4]
 have hold : ∀ x, x ≠ r → (setBlock w1 r o2).heap[x]? = w.heap[x]? := fun x hx => by
  rw [hs, Qya (QyL hx)]
 have hnew : (setBlock w1 r o2).heap[r]? = some o2 := by rw [hs]; simp [hrl]
 have hmem : ∀ x, (K.two b o r o1).mem x = none → (K.two b o r o2).mem x = none := fun x hx => by
  simp only [Keep.two] at hx ⊢
  split at hx
  ·cases hx
  ·rename_i c
   rw [Qxu c]
   split at hx
   ·cases hx
   ·rename_i c2; rw [Qxu c2]; exact hx
 refine ⟨by show w1.os = _; rw [e1]; exact h.os, by show w1.tape = _; rw [e2]; exact h.tape, by show w1.output = _; rw [e3]; exact h.output, fun x y hx => ?_, fun x y hx => ?_, fun i oo hi => ?_, fun i x hx => ⟨(h.sp i x hx).1, hmem x (h.sp i x hx).2⟩, h.ij, fun x y hx => hmem x (h.dj x y hx)⟩
 ·have : x ≠ r := fun q => by
   subst q
   have := h.dj x y hx
   rw [mr] at this; cases this
  rw [hold x this]; exact h.fr x y hx
 ·by_cases c : x = r
  ·subst c
   simp only [Keep.two, Qxu hne, Qxt] at hx
   cases hx
   exact hnew
  ·rw [hold x c]
   refine h.kp x y ?_
   simp only [Keep.two, Qxu c] at hx ⊢
   exact hx
 ·by_cases hd : oo = .dead
  ·subst hd; trivial
  ·exact (h.ob i oo hi).other (Ext.refl H μ) rfl fun x _ hx => hold x (QuI h mr ⟨⟨oo, hi, hd⟩, hx⟩)
theorem HSat.two {K : Keep} {F : Mem} {H : List O} {μ : Nat → Value} {w : World} (h : HSat K F H μ w) {i b : Nat} (hb : QS H μ i b) {o : Obj} (ho : w.heap[b]? = some o) (o' : Obj) (μ' : Nat → Value) :
  HSat (K.two b o w.heap.size o') F [] μ' (w.alloc o') := by
 have hbl := (QxH.1 ho).1
 have hold : ∀ x y, w.heap[x]? = some y → (w.alloc o').heap[x]? = some y := fun x y hx => by rw [heap_alloc_old w o' (QxH.1 hx).1]; exact hx
 refine ⟨h.os, h.tape, h.output, fun x y hx => hold x y (h.fr x y hx), fun x y hx => ?_, fun i o hi => by simp [getL] at hi, fun i x hx => absurd hx Qq8, fun i j x hx => absurd hx Qq8, fun x y hx => ?_⟩
 ·simp only [Keep.two] at hx
  split at hx
  ·rename_i c; subst c; cases hx; exact hold x _ ho
  ·split at hx
   ·rename_i c; subst c; cases hx; exact heap_alloc_new w o'
   ·exact hold x y (h.kp x y hx)
 ·have h1 := h.fr x y hx
  have hxl := (QxH.1 h1).1
  have hxb : x ≠ b := fun q => by
   subst q
   have := (h.sp i x hb).1
   rw [this] at hx; cases hx
  simp only [Keep.two, Qxu hxb, Qxu (Nat.ne_of_lt hxl)]
  exact h.dj x y hx
theorem HSat.untwo {o' : Obj} (h : HSat (K.two b o r o') F H μ w) (hb : K.mem b = none ∨ K.mem b = some o) (hr : K.mem r = none) : HSat K F H μ w := by
 have hmem : ∀ x, (K.two b o r o').mem x = none → K.mem x = none := fun x hx => by
  simp only [Keep.two] at hx
  split at hx
  ·cases hx
  ·split at hx
   ·cases hx
   ·exact hx
 refine ⟨h.os, h.tape, h.output, h.fr, fun x y hx => h.kp x y ?_, h.ob, fun i x hx => ⟨(h.sp i x hx).1, hmem x (h.sp i x hx).2⟩, h.ij, fun x y hx => hmem x (h.dj x y hx)⟩
 simp only [Keep.two]
 split
 ·rename_i c; subst c
  rcases hb with hb | hb
  ·rw [hb] at hx; cases hx
  ·rw [hb] at hx; exact hx
 ·split
  ·rename_i c; subst c; rw [hr] at hx; cases hx
  ·exact hx
structure AWn (X : Cx) (c : Code) (ts : Ts) (H : List O) (k : Kp) : Prop where
 out : AW X c ts H k
theorem QvX (hΓ : Qw X.P X.Γ) (h : vc X c ts H k) : AWn X c ts H k := ⟨Qdf hΓ c h⟩
theorem AWn.seq {X : Cx} (hΓ : Qw X.P X.Γ) {x y : Code} {ts : Ts} {H : List O} {k : Kp} (h : vc X x ts H fun e ts' H' => match e with
  | .normal => AWn X y ts' H' k
  | .exit id => k (.exit id) ts' H'
  | .ret => k .ret ts' H') : AWn X (.seq x y) ts H k := by
 refine ⟨fun K F0 H0 μ0 F μ a w hs => wp_seq (wp_mono (Qdf hΓ x h K F0 H0 μ0 F μ a w hs) ?_)⟩
 rintro e a' w' ⟨ts', H', F', μ', hs', he⟩
 cases e with
 | normal => exact AWn.out he K F0 H0 μ0 F' μ' a' w' hs'
 | exit id => exact ⟨ts', H', F', μ', hs', he⟩
 | ret => exact ⟨ts', H', F', μ', hs', he⟩
 | goto l => exact he.elim
 | panic ch => exact he.elim
 | outgrown => exact he.elim
theorem AWn.assoc {x y : Code} (h : AWn X x ts H fun e ts' H' => match e with
  | .normal => AWn X y ts' H' k
  | .exit id => k (.exit id) ts' H'
  | .ret => k .ret ts' H') : AWn X (.seq x y) ts H k := by
 refine ⟨fun K F0 H0 μ0 F μ a w hs => wp_seq (wp_mono (h.out K F0 H0 μ0 F μ a w hs) ?_)⟩
 rintro e a' w' ⟨ts', H', F', μ', hs', he⟩
 cases e with
 | normal => exact AWn.out he K F0 H0 μ0 F' μ' a' w' hs'
 | exit id => exact ⟨ts', H', F', μ', hs', he⟩
 | ret => exact ⟨ts', H', F', μ', hs', he⟩
 | goto l => exact he.elim
 | panic ch => exact he.elim
 | outgrown => exact he.elim
theorem QwU {Γ : Env} (hΓ : Qw P Γ) {f : FuncId} {fn : Func} (hf : P.funcs[f]? = some fn) {args : List S} {Q : S → List O → Prop} (nt n0 : Nat) (rs : List ResultVar)
  (hnt : fn.ntmps = nt) (h : AWn ⟨P, Γ, nt, n0⟩ c (params 0 args) H (retK Γ rs Q)) (hb : fn.body = some c := by rfl) (hn0 : H.length = n0 := by rfl) (hrs : fn.results.toList = rs := by rfl) (hn : Nat.ble args.length nt = true := by rfl) : CSpec P f args H Q := by
 subst hnt
 subst hn0
 subst hrs
 have hn := QxJ hn
 intro K F μ w vs hw hA
 refine calls_of_wp hf hb ?_
 have hsz : (vs ++ Array.replicate (fn.ntmps - vs.size) undef).size = fn.ntmps := by
  rw [Array.size_append, Array.size_replicate, hA.1]; omega
 have hT : TSat F H μ (params 0 args) (vs ++ Array.replicate (fn.ntmps - vs.size) undef) := by
  intro t
  rcases Qdy args 0 t with e | ⟨j, s, rfl, e1, e2⟩
  ·rw [e]; trivial
  ·rw [e2]
   obtain ⟨v, v1, v2⟩ := hA.2 j s e1
   have hlt : j < vs.size := (QxH.1 v1).1
   rw [QxX, QxQ, Qyr hlt, v1]
   exact v2
 have hs : Sat ⟨P, Γ, fn.ntmps, H.length⟩ { K with ds := [] } F H μ (params 0 args) H F μ ⟨vs ++ Array.replicate (fn.ntmps - vs.size) undef, []⟩ w :=
  ⟨Mem.le_refl F, Ext.refl H μ, hw.ds [], hT, hsz, rfl, QxB _⟩
 refine wp_mono (h.out { K with ds := [] } F H μ F μ _ w hs) ?_
 rintro e a' w' ⟨ts', H', F', μ', hs', he⟩
 have fin : resK Γ fn.results.toList ts' H' Q → a'.defers = [] ∧ ∃ v, (results fn a'.tmps).run P w' = .ok v w' ∧ (fun e w' => ∃ v F' μ' s H', e = Ending.returned v ∧ F.le F' ∧ HSat K F' H' μ' w' ∧ Ext H μ H' μ' ∧ RepS F' H' μ' s v ∧ Q s H') (.returned v) w' := by
  intro hr
  obtain ⟨v, s, r1, r2, r3⟩ := QjO (P := P) hΓ hs'.hs hs'.tp hr
  exact ⟨hs'.df, v, r1, v, F', μ', s, H', rfl, hs'.le, hs'.hs.ds K.ds, hs'.ext, r2, r3⟩
 cases e with
 | normal => exact fin he
 | ret => exact fin he
 | exit id => exact he.elim
 | goto l => exact he.elim
 | panic ch => exact he.elim
 | outgrown => exact he.elim
structure RgN (X : Cx) (ops : Array Oper) (o : Oper) (c : Code) (ts : Ts) (H : List O) (k : Kp) : Prop where
 intro ::
 out : ∀ K F0 H0 μ0 F μ a w, Sat X K F0 H0 μ0 ts H F μ a w → wpList X.P ops (Exit.then (c.wp X.P (Post X K F0 H0 μ0 k)) (Post X K F0 H0 μ0 k)) [o] a w
def QuC (b0 i7 : Nat) (ops7 : Array Oper) (dx b1 i8 : Nat) (ops8 : Array Oper) (body : Code) : Code :=
 .block b0 (.loop (.seq (.region i7 ops7 false) (.seq (.cond (.tmp dx) .skip (.exit b0)) (.block b1 (.seq (.region i8 ops8 false) body)))))
theorem Qqx (d : Nat) (s : S) (ts : Ts) : find d ((d, s) :: ts) = s := by simp [find]
theorem Qro {nt : Nat} (ht : TSat F H μ ts a.tmps) (hz : a.tmps.size = nt) (hd : Nat.blt d nt = true) {s : S} {v : Value} (hs : RepS F H μ s v) : TSat F H μ ((d, s) :: ts) (a.put (some d) v).tmps :=
 ht.put (by rw [hz]; exact QxJ hd) hs
set_option maxHeartbeats 1000000 in
theorem RgN.mk (hΓ : Qw X.P X.Γ) (h0 : X.n0 = 0) {ops6 : Array Oper} {oR : Oper} {b0 i7 : Nat} {oN oX : Oper} {b1 i8 : Nat} {ops8 : Array Oper} {body : Code}
  {t dn dx de : Nat} {m : Operand} {kt e : Nat} {te : TI} (mid : Nat) {oE : Oper} {r8 : List Oper}
  (hR : oR.op = .range t m) (gR : oR.guard = none) (dR : oR.dst = some d) (hd : Nat.blt d X.nt = true)
  (hN : oN.op = .next (.tmp d) false) (gN : oN.guard = none) (dN : oN.dst = some dn) (hdn : Nat.blt dn X.nt = true)
  (hX : oX.op = .extract (.tmp dn) 0) (gX : oX.guard = none) (dX : oX.dst = some dx) (hdx : Nat.blt dx X.nt = true)
  (h8 : ops8.toList = oE :: r8) (hE : oE.op = .entry (.tmp d)) (gE : oE.guard = none) (dE : oE.dst = some de) (hde : Nat.blt de X.nt = true)
  (hne : Nat.beq d dn = false ∧ Nat.beq d dx = false)
  (hm : QdH X.Γ t = some (sh, kt, e, te)) (hx : opnd ts m = .c (.mpr mid)) (hg : getL H mid = some (.mp sh te.zero te.agg ks val)) (hsm : ∀ k ∈ ks, k.small) (hva : te.agg = false → te.zero.length = 1)
  {ι : Type} (st : Nat → ι → Ts) (Hs : ι → List O) (ok : ι → Prop) (left : ι → List Key) (i0 : ι) (ok0 : ok i0) (l0 : left i0 = ks)
  (ts1 : Ts) (hts : WT idN 0 ts ts1) (hmv : ∀ r, Mv X ((d, .c (.raw r)) :: ts1) [] (st r i0) (Hs i0)) (hkeep : ∀ r i, find d (st r i) = .c (.raw r))
  (round : ∀ r i key, ok i → key ∈ left i → key ∈ ks → QcS X ops8.toList r8 ((de, .t [key.toE, elS te.agg te.zero.length (val key)]) :: (dx, .c (.bool true)) :: (dn, .u) :: st r i) (Hs i) fun ts' H' => vc X body ts' H' fun ex ts'' H'' => match ex with
   | .normal => ∃ j, ok j ∧ left j = (left i).erase key ∧ Mv X ts'' H'' (st r j) (Hs j)
   | .exit _ => False
   | .ret => k .ret ts'' H'')
  (fin : ∀ r i, ok i → left i = [] → k .normal ((dx, .c (.bool false)) :: (dn, .u) :: st r i) (Hs i)) :
  RgN X ops6 oR (QuC b0 i7 #[oN, oX] dx b1 i8 ops8 body) ts H k := by
 refine ⟨fun K F0 H0 μ0 F μ a w hs => ?_⟩
 have hH0 : H0 = [] := Qyg (by have := hs.n0; omega)
 subst hH0
 obtain ⟨hu, hkl, hte⟩ := Qf4 hΓ hm
 have hxv := Q9 hs.tp m
 rw [hx] at hxv
 obtain ⟨_, b, m1, m2⟩ : RepC F H μ (.mpr mid) (a.eval m) := hxv
 obtain ⟨b', es, ck, q1, q2, q3, q4⟩ := hs.hs.ob mid _ hg
 rw [m1] at q1
 cases q1
 have hown : QS H μ mid b := ⟨⟨_, hg, by simp⟩, by rw [m1]; rfl⟩
 have hbl := (QxH.1 q2).1
 refine wpList_step fun kk hkk => ?_
 simp only [Region.wanted, gR, Qyo]
 unfold Oper.wp
 have run : (execOp a.eval oR).run X.P w = .ok (.value (.pointer (some ⟨w.heap.size, 0, none⟩))) (w.alloc (.mapIter (some b) ck #[] ck)) := by
  unfold execOp
  rw [hR]
  refine val1 ?_
  rw [m2]
  exact run_range_map w t kt e b es ck hu q2
 rw [run, Oper.upon_value, dR]
 refine hkk _ _ ?_
 show (QuC b0 i7 #[oN, oX] dx b1 i8 ops8 body).wp X.P (Post X K F0 [] μ0 k) _ _
 generalize hr : w.heap.size = r
 have hrb : r ≠ b := by omega
 have hKb : K.mem b = none := (hs.hs.sp mid b hown).2
 have hKr : K.mem r = none := by
  cases hh : K.mem r with
  | none => rfl
  | some o =>
   have := hs.hs.kp _ _ hh
   rw [← hr, Qx1 (QxB _)] at this
   cases this
 let KK : Array Nat → Keep := fun seen => K.two b (.map es ck) r (.mapIter (some b) ck seen ck)
 have s0 : Sat X (KK #[]) F [] μ ((d, .c (.raw r)) :: ts1) [] F μ (a.put (some d) (.pointer (some ⟨r, 0, none⟩))) (w.alloc (.mapIter (some b) ck #[] ck)) :=
  ⟨Mem.le_refl F, Ext.refl [] μ, by have := hs.hs.two hown q2 (.mapIter (some b) ck #[] ck) μ; rw [hr] at this; exact this, Qro (Sat.drop hs hts) hs.sz hd rfl, by simp [Act.put, hs.sz], hs.df, Qxx _⟩
 obtain ⟨F1, μ1, s1⟩ := hmv r _ _ _ _ _ _ _ _ s0
 have back : ∀ {seen : Array Nat} {ex : Exit} {a' : Act} {w' : World} {kx : Kp}, Post X (KK seen) F [] μ kx ex a' w' → Post X K F0 [] μ0 kx ex a' w' := by
  rintro seen ex a' w' kx ⟨ts', H', F', μ', hs', he⟩
  exact ⟨ts', H', F', μ', ⟨hs.le.le_trans' hs'.le, ⟨fun _ _ h => by simp [getL] at h, fun _ _ _ _ _ h => by simp [getL] at h, fun _ _ _ _ _ _ h => by simp [getL] at h⟩, hs'.hs.untwo (.inl hKb) hKr, hs'.tp, hs'.sz, hs'.df, Qxx _⟩, he⟩
 let I : Nat → Act → World → Prop := fun n a w => ∃ i seen F1 μ1, (left i).length = n ∧ ok i ∧ Left es seen (left i) ∧ Sat X (KK seen) F [] μ (st r i) (Hs i) F1 μ1 a w
 unfold QuC
 refine wp_block (QuJ I ⟨_, i0, #[], F1, μ1, rfl, ok0, by rw [l0]; exact Qw4 q3, s1⟩ ?_)
 rintro n a1 w1 ⟨i, seen, F2, μ2, rfl, hi, hL, hs2⟩
 have hr2 : w1.heap[r]? = some (.mapIter (some b) ck seen ck) := hs2.hs.kp r _ (by simp [KK, Keep.two, hrb])
 have hb2 : w1.heap[b]? = some (.map es ck) := hs2.hs.kp b _ (by simp [KK, Keep.two])
 have hd2 : a1.eval (.tmp d) = .pointer (some ⟨r, 0, none⟩) := by
  have := hs2.tp d
  rw [hkeep] at this
  exact this
 refine wp_seq (wp_region_list ?_)
 refine wpList_step fun kk2 hkk2 => ?_
 simp only [Region.wanted, gN, Qyo]
 unfold Oper.wp
 have rest : ∀ (bb : Bool) (a3 : Act) (w3 : World) (l : Array Value), a3.tmps.size = X.nt → l[0]? = some (.bool bb) → a3.tmps.getD dn undef = .tuple l → ∀ Q : Exit → Act → World → Prop,
   (∀ a4 : Act, a4 = a3.put (some dx) (.bool bb) → Exit.then ((Code.seq (.cond (.tmp dx) .skip (.exit b0)) (.block b1 (.seq (.region i8 ops8 false) body))).wp X.P Q) Q .normal a4 w3) → wpList X.P #[oN, oX] (Exit.then ((Code.seq (.cond (.tmp dx) .skip (.exit b0)) (.block b1 (.seq (.region i8 ops8 false) body))).wp X.P Q) Q) [oX] a3 w3 := by
  intro bb a3 w3 l hz hl hv Q hQ
  refine wpList_step fun kk3 hkk3 => ?_
  simp only [Region.wanted, gX, Qyo]
  unfold Oper.wp
  have run3 : (execOp a3.eval oX).run X.P w3 = .ok (.value (.bool bb)) w3 := by
   unfold execOp
   rw [hX]
   refine val1 ?_
   show (Instr.extract (a3.tmps.getD dn undef) 0).run X.P w3 = _
   rw [hv]
   simp [Instr.extract, hl]
  rw [run3, Oper.upon_value, dX]
  exact hkk3 _ _ (hQ _ rfl)
 rcases run_next_at (P := X.P) w1 oN.type r b ck ck seen es ck hr2 hb2 q4.1 (QxB _) with ⟨z1, z2⟩ | ⟨en, en1, w2, en2, z2⟩
 ·have run2 : (execOp a1.eval oN).run X.P w1 = .ok (.value (.tuple #[.bool false])) w1 := by
   unfold execOp
   rw [hN]
   refine val1 ?_
   rw [hd2]; exact z2
  rw [run2, Oper.upon_value, dN]
  have hlt : dn < a1.tmps.size := by rw [hs2.sz]; exact QxJ hdn
  refine hkk2 _ _ (rest false _ _ #[.bool false] (by simp [Act.put, hs2.sz]) rfl (by simp [Act.put, Array.getD, hlt]) _ fun a4 ha4 => ?_)
  subst ha4
  have t4 : TSat F2 (Hs i) μ2 ((dx, .c (.bool false)) :: (dn, .u) :: st r i) ((a1.put (some dn) (.tuple #[.bool false])).put (some dx) (.bool false)).tmps :=
   Qro (QvY hs2.tp) (by simp [Act.put, hs2.sz]) hdx rfl
  have hL0 := hL.none z1
  refine wp_seq (wp_cond_split (t := false) (by have := t4 dx; rw [Qqx] at this; exact this) (fun e => by cases e) fun _ => wp_exit ?_)
  show (if b0 = b0 then _ else _)
  rw [Qxt rfl]
  exact back (seen := seen) ⟨_, _, F2, μ2, ⟨hs2.le, hs2.ext, hs2.hs, t4, by simp [Act.put, hs2.sz], hs2.df, hs2.n0⟩, fin r i hi hL0⟩
 ·have run2 : (execOp a1.eval oN).run X.P w1 = .ok (.value (.tuple #[.bool true, en.key, en.val])) (setBlock w2 r (.mapIter (some b) ck (seen.push en.born) ck)) := by
   unfold execOp
   rw [hN]
   refine val1 ?_
   rw [hd2]; exact z2
  rw [run2, Oper.upon_value, dN]
  have hlt : dn < a1.tmps.size := by rw [hs2.sz]; exact QxJ hdn
  refine hkk2 _ _ (rest true _ _ #[.bool true, en.key, en.val] (by simp [Act.put, hs2.sz]) rfl (by simp [Act.put, Array.getD, hlt]) _ fun a4 ha4 => ?_)
  subst ha4
  have t4 : TSat F2 (Hs i) μ2 ((dx, .c (.bool true)) :: (dn, .u) :: st r i) ((a1.put (some dn) (.tuple #[.bool true, en.key, en.val])).put (some dx) (.bool true)).tmps :=
   Qro (QvY hs2.tp) (by simp [Act.put, hs2.sz]) hdx rfl
  obtain ⟨key, k1, k2, k3, k4, k5⟩ := Left.next q3 q4.2 hL en1
  obtain ⟨me, -⟩ := mem_left en1
  have hs3 : HSat (KK (seen.push en.born)) F2 (Hs i) μ2 (setBlock w2 r (.mapIter (some b) ck (seen.push en.born) ck)) := hs2.hs.swap hrb en2
  generalize hw3 : setBlock w2 r (.mapIter (some b) ck (seen.push en.born) ck) = w3 at hs3
  generalize ha4 : (a1.put (some dn) (.tuple #[.bool true, en.key, en.val])).put (some dx) (.bool true) = a4 at t4
  have hz4 : a4.tmps.size = X.nt := by rw [← ha4]; simp [Act.put, hs2.sz]
  have hdf4 : a4.defers = K.ds := by rw [← ha4]; exact hs2.df
  refine wp_seq (wp_cond_split (t := true) (by have := t4 dx; rw [Qqx] at this; exact this) (fun _ => wp_skip ?_) (fun e => by cases e))
  refine wp_block (wp_seq (wp_region_list ?_))
  rw [h8]
  refine wpList_step fun kk4 hkk4 => ?_
  simp only [Region.wanted, gE, Qyo]
  unfold Oper.wp
  have hd4 : a4.eval (.tmp d) = .pointer (some ⟨r, 0, none⟩) := by
   have := t4 d
   have e1 : Nat.beq dx d = false := by
    have := hne.2
    cases hh : Nat.beq dx d with
    | false => rfl
    | true => rw [QxD hh] at this; simp at this
   have e2 : Nat.beq dn d = false := by
    have := hne.1
    cases hh : Nat.beq dn d with
    | false => rfl
    | true => rw [QxD hh] at this; simp at this
   simp only [find, e1, e2, hkeep] at this
   exact this
  have run4 : (execOp a4.eval oE).run X.P w3 = .ok (.value (.tuple #[en.key, en.val])) w3 := by
   unfold execOp
   rw [hE]
   refine val1 ?_
   rw [hd4]
   exact run_entry_at w3 r b ck seen es ck en (hs3.kp r _ (by simp [KK, Keep.two, hrb])) (hs3.kp b _ (by simp [KK, Keep.two])) me q4.2
  rw [run4, Oper.upon_value, dE]
  refine hkk4 _ _ ?_
  have t5 : TSat F2 (Hs i) μ2 ((de, .t [key.toE, elS te.agg te.zero.length (val key)]) :: (dx, .c (.bool true)) :: (dn, .u) :: st r i) (a4.put (some de) (.tuple #[en.key, en.val])).tmps := by
   refine Qro t4 hz4 hde ⟨#[en.key, en.val], rfl, rfl, fun j y hj => ?_⟩
   match j with
   | 0 => simp only [getL, Qxv] at hj; subst hj; exact ⟨en.key, rfl, by rw [k3]; exact QwV (hsm key k2)⟩
   | 1 => simp only [getL, Qxv] at hj; subst hj; exact ⟨en.val, rfl, RepV.el hva (k4.mono hs2.le)⟩
   | j + 2 => simp [getL] at hj
  have hs5 : Sat X (KK (seen.push en.born)) F [] μ ((de, .t [key.toE, elS te.agg te.zero.length (val key)]) :: (dx, .c (.bool true)) :: (dn, .u) :: st r i) (Hs i) F2 μ2 (a4.put (some de) (.tuple #[en.key, en.val])) w3 :=
   ⟨hs2.le, hs2.ext, hs3, t5, by simp [Act.put, hz4], hdf4, hs2.n0⟩
  have hround := round r i key hi k1 k2
  rw [show ops8 = (oE :: r8).toArray by rw [← h8]] at hround ⊢
  refine Qnv hΓ (oE :: r8) r8 (by simpa using hround) hs5 fun ts6 H6 F6 μ6 a6 w6 hv6 hs6 => ?_
  refine wp_mono (Qdf hΓ body hv6 _ _ _ _ _ _ _ _ hs6) ?_
  rintro ex a7 w7 ⟨ts7, H7, F7, μ7, hs7, he7⟩
  cases ex with
  | normal =>
   obtain ⟨j, j1, j2, j3⟩ := he7
   obtain ⟨F8, μ8, hs8⟩ := j3 _ _ _ _ _ _ _ _ hs7
   refine ⟨(left j).length, ?_, j, seen.push en.born, F8, μ8, rfl, j1, by rw [j2]; exact k5, hs8⟩
   rw [j2, List.length_erase_of_mem k1]
   have := List.length_pos_of_mem k1
   omega
  | exit id => exact he7.elim
  | ret => exact back ⟨ts7, H7, F7, μ7, hs7, he7⟩
  | goto l => exact he7.elim
  | panic ch => exact he7.elim
  | outgrown => exact he7.elim
end Go.Am
end

section
namespace Go.Am
end Go.Am
end

section
namespace Go.Am
variable {F F' : Mem} {H : List O} {μ : Nat → Value} {c : C} {v : Value}
def C.loose : C → Bool
 | .ptr .. => true
 | .sl .. => true
 | .mpr .. => true
 | c => c.flat
def E.loose : C ⊕ List C → Bool
 | .inl y => y.loose
 | .inr ys => ys.all C.loose
def S.loose : S → Bool
 | .u => true
 | .c x => x.loose
 | .a xs => xs.all C.loose
 | .t l => l.all E.loose
 | .lz _ _ => false
 | .so .. => false
def O.loose : O → Prop
 | .vr cs => cs.all C.loose = true
 | .arr _ es n g => ∀ i, i < n → ∀ j, j < es → (g i j).loose = true
 | .dead => True
 | .mp _ _ _ ks val => ks = [] ∧ ∀ k j, (val k j).flat = true
def LooseH (H : List O) : Prop := ∀ id o, getL H id = some o → o.loose
theorem LooseH.nil : LooseH [] := fun id o h => by simp [getL] at h
theorem LooseH.cons {o : O} {H : List O} (ho : o.loose) (h : LooseH H) : LooseH (o :: H) := fun id o' h' => by
 cases id with
 | zero => simp only [getL, Qxv] at h'; subst h'; exact ho
 | succ id => exact h id o' h'
theorem QwP : ∀ {c : C}, c.loose = true → c.flat = true ∨ (∃ i o, c = .ptr i o) ∨ (∃ i es l t x, c = .sl i es l t x) ∨ ∃ i, c = .mpr i
 | .ptr i o, _ => .inr (.inl ⟨i, o, rfl⟩)
 | .sl i es l t x, _ => .inr (.inr (.inl ⟨i, es, l, t, x, rfl⟩))
 | .mpr i, _ => .inr (.inr (.inr ⟨i, rfl⟩))
 | .junk, _ => .inl rfl
 | .bool _, _ => .inl rfl
 | .int _ _, _ => .inl rfl
 | .str _, _ => .inl rfl
 | .nilp, _ => .inl rfl
 | .nilfn, _ => .inl rfl
 | .nils, _ => .inl rfl
 | .nilm, _ => .inl rfl
 | .isl _ _ _ _, h => .inl h
theorem QuH (hc : c.loose = true) (h : RepC F H μ c v) : RepC F' H μ c v := by
 rcases QwP hc with h1 | ⟨i, o, rfl⟩ | ⟨i, es, l, t, x, rfl⟩ | ⟨i, rfl⟩
 ·exact Qpi h1 h
 ·exact h
 ·exact h
 ·exact h
theorem QuO {xs : List C} (hc : xs.all C.loose = true) {cs : Array Value} (h : RepL F H μ xs cs) : RepL F' H μ xs cs :=
 ⟨h.1, fun j x hx => let ⟨v, v1, v2⟩ := h.2 j x hx; ⟨v, v1, QuH (Qde hc hx) v2⟩⟩
theorem QuS (hc : c.flat = true) (h : RepF F c v) : RepF F' c v := by
 have := Qpi (F := F) (F' := F') (H := []) (H' := []) (μ := fun _ => undef) (μ' := fun _ => undef) hc (RepF.toC _ _ c v h)
 cases c <;> first | exact this | cases hc
theorem HSat.loose {K K1 : Keep} {w : World} (h : HSat K F' H μ w) (hl : LooseH H) (hF : F.le F') (e1 : K.os = K1.os) (e2 : K.tape = K1.tape) (e3 : K.output = K1.output)
  (hk : ∀ b o, K1.mem b = some o → F' b = some o) (hd : ∀ b o, F b = some o → K1.mem b = none) : HSat K1 F H μ w := by
 refine ⟨h.os.trans e1, h.tape.trans e2, h.output.trans e3, fun b o hb => h.fr b o (hF b o hb), fun b o hb => h.fr b o (hk b o hb), fun id o ho => ?_, fun id b hb => ⟨?_, ?_⟩, h.ij, hd⟩
 ·have h1 := h.ob id o ho
  have h2 := hl id o ho
  cases o with
  | vr cs =>
   obtain ⟨b, c, T, q1, q2, q3⟩ := h1
   exact ⟨b, c, T, q1, q2, QuO h2 q3⟩
  | arr e es n g =>
   obtain ⟨xs, q1, q2, q3, q4⟩ := h1
   exact ⟨xs, q1, q2, fun i hi j hj => by
    obtain ⟨v, v1, v2⟩ := q3 i hi j hj
    exact ⟨v, v1, QuH (h2 i hi j hj) v2⟩, q4⟩
  | dead => trivial
  | mp sh z va ks val =>
   obtain ⟨b, es, ck, q1, q2, q3, q4⟩ := h1
   obtain ⟨h3, h4⟩ := h2
   subst h3
   refine ⟨b, es, ck, q1, q2, ⟨q3.nd, q3.shp, q3.keys, fun i e k _ hk => by simp at hk, fun k hs hn j hj => ?_⟩, q4⟩
   obtain ⟨x, x1, x2⟩ := q3.none k hs hn j hj
   exact ⟨x, x1, QuS (h4 k j) x2⟩
 ·have := (h.sp id b hb).1
  cases hq : F b with
  | none => rfl
  | some o => rw [hF b o hq] at this; cases this
 ·have := (h.sp id b hb).1
  cases hq : K1.mem b with
  | none => rfl
  | some o => rw [hk b o hq] at this; cases this
def immTs (ts : Ts) : Prop := ∀ t, (find t ts).imm = true
theorem immTs.nil : immTs [] := fun _ => rfl
theorem immTs.cons {d : Nat} {s : S} {ts : Ts} (h : s.imm = true) (k : immTs ts) : immTs ((d, s) :: ts) := fun t => by
 simp only [find]
 split
 ·exact h
 ·exact k t
end Go.Am
end
