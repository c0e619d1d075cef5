/- Contracts, lemmas; no condition. -/
import Derived.Test.YtkelkepdcfogaaaGreatA26D
import Derived.Maps.RangeRun
import Derived.Sort.Grow
import Derived.Test.YtkelkepdcfogaaaGreatP13D
import Derived.Shelf.GgSortFunc.SmallK
set_option linter.all false
section
namespace Go.Am
open Go.ChangeMaps (setBlock)
def Key.toE : Key → C ⊕ List C
 | .c (.i k n) => .inl (.int k n)
 | .c (.s b) => .inl (.str b)
 | .a l => .inr (l.map fun | .i k n => .int k n | .s b => .str b)
def Key.small : Key → Prop
 | .c (.s b) => b.size ≤ maxLen
 | .c _ => True
 | .a _ => False
theorem Key.toE_rep {F : Mem} {H : List O} {μ : Nat → Value} {k : Key} (h : k.small) : RepE F H μ k.toE k.toV := by
 cases k with
 | c x => cases x with
  | i q n => exact rfl
  | s b => exact ⟨rfl, h⟩
 | a l => exact h.elim
theorem Qs9 {P : Program} {c : Code} {Q : Exit → Act → World → Prop} (I : Nat → Act → World → Prop) {a : Act} {w : World} (h0 : ∃ n, I n a w)
  (step : ∀ n a w, I n a w → c.wp P (Exit.then (fun a' w' => ∃ n', n' < n ∧ I n' a' w') Q) a w) : (Code.loop c).wp P Q a w := by
 classical
 let least : Act → World → Nat := fun a w => if h : ∃ n, I n a w then (QG h).choose else 0
 refine wp_loop (fun a w => ∃ n, I n a w) least h0 ?_
 intro a w hI
 have hl : least a w = (QG hI).choose := by simp only [least]; rw [dif_pos hI]
 refine wp_mono (step (least a w) a w (by rw [hl]; exact (QG hI).choose_spec.1)) ?_
 intro e a' w' he
 cases e with
 | normal =>
  obtain ⟨n', n1, n2⟩ := he
  have hI' : ∃ n, I n a' w' := ⟨n', n2⟩
  refine ⟨hI', ?_⟩
  have hl' : least a' w' = (QG hI').choose := by simp only [least]; rw [dif_pos hI']
  rw [hl']
  exact Nat.lt_of_le_of_lt ((QG hI').choose_spec.2 n' n2) n1
 | _ => exact he
structure Left (es : Array MapEntry) (seen : Array Nat) (L : List Key) : Prop where
 nd : L.Nodup
 mem : ∀ k, k ∈ L ↔ ∃ e ∈ es.toList, e.key = k.toV ∧ seen.contains e.born = false
theorem Left.start {F : Mem} {sh : KS} {z : List Z} {va : Bool} {ks : List Key} {val : Key → Nat → C} {es : Array MapEntry} (h : MRep F sh z va ks val es.toList) : Left es #[] ks := by
 refine ⟨h.nd, fun k => ⟨fun hk => ?_, fun ⟨e, h1, h2, _⟩ => ?_⟩⟩
 ·have : k.toV ∈ es.toList.map (·.key) := by rw [h.keys]; exact List.mem_map_of_mem hk
  obtain ⟨e, e1, e2⟩ := List.mem_map.1 this
  exact ⟨e, e1, e2, by simp⟩
 ·have : e.key ∈ ks.map Key.toV := by rw [← h.keys]; exact List.mem_map_of_mem h1
  obtain ⟨y, y1, y2⟩ := List.mem_map.1 this
  have : y = k := Key.toV_inj (by rw [y2, h2])
  exact this ▸ y1
theorem Left.none {es : Array MapEntry} {seen : Array Nat} {L : List Key} (h : Left es seen L) (h0 : (leftOf es seen).size = 0) : L = [] := by
 cases L with
 | nil => rfl
 | cons k r =>
  obtain ⟨e, e1, e2, e3⟩ := (h.mem k).1 (by simp)
  have := all_seen es seen h0 e e1
  rw [e3] at this; cases this
theorem Left.next {F : Mem} {sh : KS} {z : List Z} {va : Bool} {ks : List Key} {val : Key → Nat → C} {es : Array MapEntry} (hr : MRep F sh z va ks val es.toList) (hb : (es.toList.map (·.born)).Nodup) {seen : Array Nat} {L : List Key} (h : Left es seen L) {e : MapEntry} (he : e ∈ (leftOf es seen).toList) :
  ∃ k, k ∈ L ∧ k ∈ ks ∧ e.key = k.toV ∧ RepV F va z.length (val k) e.val ∧ Left es (seen.push e.born) (L.erase k) := by
 obtain ⟨h1, h2⟩ := mem_left he
 obtain ⟨j, hj⟩ := List.mem_iff_getElem?.1 h1
 have hlen : es.toList.length = ks.length := by
  have := congrArg List.length hr.keys
  simpa using this
 have hjl := (List.getElem?_eq_some_iff.1 hj).1
 have hk : ks[j]? = some (ks[j]'(by omega)) := by simp
 have ek : e.key = (ks[j]'(by omega)).toV := by
  have h1 : (es.toList.map (·.key))[j]? = some e.key := by rw [List.getElem?_map, hj]; rfl
  rw [hr.keys, List.getElem?_map, hk] at h1
  exact (Option.some.inj h1).symm
 refine ⟨_, (h.mem _).2 ⟨e, h1, ek, h2⟩, List.mem_of_getElem? hk, ek, hr.vals j e _ hj hk, h.nd.erase _, fun k' => ?_⟩
 rw [h.nd.mem_erase_iff, h.mem k']
 constructor
 ·rintro ⟨hne, e', e1, e2, e3⟩
  refine ⟨e', e1, e2, ?_⟩
  rw [contains_push, e3]
  simp only [Bool.false_or, beq_eq_false_iff_ne]
  intro q
  have : e' = e := born_inj hb e1 h1 q
  subst this
  exact hne (Key.toV_inj (by rw [← e2, ek]))
 ·rintro ⟨e', e1, e2, e3⟩
  rw [contains_push] at e3
  simp only [Bool.or_eq_false_iff, beq_eq_false_iff_ne] at e3
  refine ⟨fun q => ?_, e', e1, e2, e3.1⟩
  subst q
  have hkk : e'.key = e.key := by rw [e2, ek]
  obtain ⟨j', hj'⟩ := List.mem_iff_getElem?.1 e1
  have hjl' := (List.getElem?_eq_some_iff.1 hj').1
  have h3 : (es.toList.map (·.key))[j']? = some e'.key := by rw [List.getElem?_map, hj']; rfl
  have h4 : (es.toList.map (·.key))[j]? = some e.key := by rw [List.getElem?_map, hj]; rfl
  have hnd : (es.toList.map (·.key)).Nodup := by
   rw [hr.keys]
   exact List.Pairwise.map _ (fun a b hab q => hab (Key.toV_inj q)) hr.nd
  have : j' = j := (List.getElem?_inj (by simpa using hjl') hnd).1 (by rw [h3, h4, hkk])
  subst this
  rw [hj] at hj'
  exact e3.2 (by cases hj'; rfl)
theorem Sat.drop {X : Cx} {K : Keep} {F0 : Mem} {H0 : List O} {μ0 : Nat → Value} {ts ts' : Ts} {H : List O} {F : Mem} {μ : Nat → Value} {a : Act} {w : World} (h : Sat X K F0 H0 μ0 ts H F μ a w) (ht : WT idN 0 ts ts') : TSat F [] μ ts' a.tmps := by
 intro t
 have h1 : HWk idN H [] := ⟨fun i o' h => by simp [getL] at h, fun i j h => by simp at h⟩
 exact TSat.wk h1 ht.out h.tp t
theorem QkG {μ : Nat → Value} {i b : Nat} : ¬ QD [] μ i b := by
 rintro ⟨⟨o, ho, _⟩, _⟩
 simp [getL] at ho
noncomputable def Keep.two (K : Keep) (b : Nat) (o : Obj) (r : Nat) (o' : Obj) : Keep := { K with mem := fun x => if x = b then some o else if x = r then some o' else K.mem x }
theorem Qth {K : Keep} {F : Mem} {H : List O} {μ : Nat → Value} {w : World} {r : Nat} {o : Obj} (h : HSat K F H μ w) (hr : K.mem r = some o) {i b : Nat} (ho : QD H μ i b) : b ≠ r := by
 intro e
 subst e
 have := (h.sp i b ho).2
 rw [hr] at this; cases this
theorem HSat.swap {K : Keep} {F : Mem} {H : List O} {μ : Nat → Value} {w w1 : World} {b r : Nat} {o o1 o2 : Obj} (h : HSat (K.two b o r o1) F H μ w) (hne : r ≠ b) (hw : w1 = w ∨ w1 = w.drew) : HSat (K.two b o r o2) F H μ (setBlock w1 r o2) := by
 have e1 : w1.os = w.os ∧ w1.tape = w.tape ∧ w1.output = w.output ∧ w1.heap = w.heap := by rcases hw with rfl | rfl <;> exact ⟨rfl, rfl, rfl, rfl⟩
 obtain ⟨e1, e2, e3, e4⟩ := e1
 have mr : (K.two b o r o1).mem r = some o1 := by simp [Keep.two, hne]
 have hr : w.heap[r]? = some o1 := h.kp r o1 mr
 have hrl := (Array.getElem?_eq_some_iff.1 hr).1
 have hs : (setBlock w1 r o2).heap = w.heap.setIfInBounds r o2 := by simp [setBlock, e4]
 have hold : ∀ x, x ≠ r → (setBlock w1 r o2).heap[x]? = w.heap[x]? := fun x hx => by
  rw [hs, Array.getElem?_setIfInBounds_ne (Ne.symm hx)]
 have hnew : (setBlock w1 r o2).heap[r]? = some o2 := by rw [hs]; simp [hrl]
 have hmem : ∀ x, (K.two b o r o1).mem x = none → (K.two b o r o2).mem x = none := fun x hx => by
  simp only [Keep.two] at hx ⊢
  split at hx
  ·cases hx
  ·rename_i c
   rw [if_neg c]
   split at hx
   ·cases hx
   ·rename_i c2; rw [if_neg c2]; exact hx
 refine ⟨by show w1.os = _; rw [e1]; exact h.os, by show w1.tape = _; rw [e2]; exact h.tape, by show w1.output = _; rw [e3]; exact h.output, fun x y hx => ?_, fun x y hx => ?_, fun i oo hi => ?_, fun i x hx => ⟨(h.sp i x hx).1, hmem x (h.sp i x hx).2⟩, h.ij, fun x y hx => hmem x (h.dj x y hx)⟩
 ·have : x ≠ r := fun q => by
   subst q
   have := h.dj x y hx
   rw [mr] at this; cases this
  rw [hold x this]; exact h.fr x y hx
 ·by_cases c : x = r
  ·subst c
   simp only [Keep.two, if_neg hne, if_pos] at hx
   cases hx
   exact hnew
  ·rw [hold x c]
   refine h.kp x y ?_
   simp only [Keep.two, if_neg c] at hx ⊢
   exact hx
 ·by_cases hd : oo = .dead
  ·subst hd; trivial
  ·exact (h.ob i oo hi).other (Ext.refl H μ) rfl fun x _ hx => hold x (Qth h mr ⟨⟨oo, hi, hd⟩, hx⟩)
theorem HSat.two {K : Keep} {F : Mem} {H : List O} {μ : Nat → Value} {w : World} (h : HSat K F H μ w) {i b : Nat} (hb : QD H μ i b) {o : Obj} (ho : w.heap[b]? = some o) (o' : Obj) (μ' : Nat → Value) :
  HSat (K.two b o w.heap.size o') F [] μ' (w.alloc o') := by
 have hbl := (Array.getElem?_eq_some_iff.1 ho).1
 have hold : ∀ x y, w.heap[x]? = some y → (w.alloc o').heap[x]? = some y := fun x y hx => by rw [heap_alloc_old w o' (Array.getElem?_eq_some_iff.1 hx).1]; exact hx
 refine ⟨h.os, h.tape, h.output, fun x y hx => hold x y (h.fr x y hx), fun x y hx => ?_, fun i o hi => by simp [getL] at hi, fun i x hx => absurd hx QkG, fun i j x hx => absurd hx QkG, fun x y hx => ?_⟩
 ·simp only [Keep.two] at hx
  split at hx
  ·rename_i c; subst c; cases hx; exact hold x _ ho
  ·split at hx
   ·rename_i c; subst c; cases hx; exact heap_alloc_new w o'
   ·exact hold x y (h.kp x y hx)
 ·have h1 := h.fr x y hx
  have hxl := (Array.getElem?_eq_some_iff.1 h1).1
  have hxb : x ≠ b := fun q => by
   subst q
   have := (h.sp i x hb).1
   rw [this] at hx; cases hx
  simp only [Keep.two, if_neg hxb, if_neg (Nat.ne_of_lt hxl)]
  exact h.dj x y hx
theorem HSat.untwo {K : Keep} {F : Mem} {H : List O} {μ : Nat → Value} {w : World} {b r : Nat} {o o' : Obj} (h : HSat (K.two b o r o') F H μ w) (hb : K.mem b = none ∨ K.mem b = some o) (hr : K.mem r = none) : HSat K F H μ w := by
 have hmem : ∀ x, (K.two b o r o').mem x = none → K.mem x = none := fun x hx => by
  simp only [Keep.two] at hx
  split at hx
  ·cases hx
  ·split at hx
   ·cases hx
   ·exact hx
 refine ⟨h.os, h.tape, h.output, h.fr, fun x y hx => h.kp x y ?_, h.ob, fun i x hx => ⟨(h.sp i x hx).1, hmem x (h.sp i x hx).2⟩, h.ij, fun x y hx => hmem x (h.dj x y hx)⟩
 simp only [Keep.two]
 split
 ·rename_i c; subst c
  rcases hb with hb | hb
  ·rw [hb] at hx; cases hx
  ·rw [hb] at hx; exact hx
 ·split
  ·rename_i c; subst c; rw [hr] at hx; cases hx
  ·exact hx
structure AWn (X : Cx) (c : Code) (ts : Ts) (H : List O) (k : Kp) : Prop where
 out : AW X c ts H k
theorem AWn.ofVc {X : Cx} (hΓ : Qo X.P X.Γ) {c : Code} {ts : Ts} {H : List O} {k : Kp} (h : vc X c ts H k) : AWn X c ts H k := ⟨QcZ hΓ c h⟩
theorem AWn.seq {X : Cx} (hΓ : Qo X.P X.Γ) {x y : Code} {ts : Ts} {H : List O} {k : Kp} (h : vc X x ts H fun e ts' H' => match e with
  | .normal => AWn X y ts' H' k
  | .exit id => k (.exit id) ts' H'
  | .ret => k .ret ts' H') : AWn X (.seq x y) ts H k := by
 refine ⟨fun K F0 H0 μ0 F μ a w hs => wp_seq (wp_mono (QcZ hΓ x h K F0 H0 μ0 F μ a w hs) ?_)⟩
 rintro e a' w' ⟨ts', H', F', μ', hs', he⟩
 cases e with
 | normal => exact AWn.out he K F0 H0 μ0 F' μ' a' w' hs'
 | exit id => exact ⟨ts', H', F', μ', hs', he⟩
 | ret => exact ⟨ts', H', F', μ', hs', he⟩
 | goto l => exact he.elim
 | panic ch => exact he.elim
 | outgrown => exact he.elim
theorem AWn.assoc {X : Cx} {x y : Code} {ts : Ts} {H : List O} {k : Kp} (h : AWn X x ts H fun e ts' H' => match e with
  | .normal => AWn X y ts' H' k
  | .exit id => k (.exit id) ts' H'
  | .ret => k .ret ts' H') : AWn X (.seq x y) ts H k := by
 refine ⟨fun K F0 H0 μ0 F μ a w hs => wp_seq (wp_mono (h.out K F0 H0 μ0 F μ a w hs) ?_)⟩
 rintro e a' w' ⟨ts', H', F', μ', hs', he⟩
 cases e with
 | normal => exact AWn.out he K F0 H0 μ0 F' μ' a' w' hs'
 | exit id => exact ⟨ts', H', F', μ', hs', he⟩
 | ret => exact ⟨ts', H', F', μ', hs', he⟩
 | goto l => exact he.elim
 | panic ch => exact he.elim
 | outgrown => exact he.elim
theorem CSpec.of_aw {P : Program} {Γ : Env} (hΓ : Qo P Γ) {f : FuncId} {fn : Func} {c : Code} (hf : P.funcs[f]? = some fn) {args : List S} {H : List O} {Q : S → List O → Prop} (nt n0 : Nat) (rs : List ResultVar)
  (hnt : fn.ntmps = nt) (h : AWn ⟨P, Γ, nt, n0⟩ c (params 0 args) H (retK Γ rs Q)) (hb : fn.body = some c := by rfl) (hn0 : H.length = n0 := by rfl) (hrs : fn.results.toList = rs := by rfl) (hn : Nat.ble args.length nt = true := by rfl) : CSpec P f args H Q := by
 subst hnt
 subst hn0
 subst hrs
 have hn := Nat.le_of_ble_eq_true hn
 intro K F μ w vs hw hA
 refine calls_of_wp hf hb ?_
 have hsz : (vs ++ Array.replicate (fn.ntmps - vs.size) undef).size = fn.ntmps := by
  rw [Array.size_append, Array.size_replicate, hA.1]; omega
 have hT : TSat F H μ (params 0 args) (vs ++ Array.replicate (fn.ntmps - vs.size) undef) := by
  intro t
  rcases Qfu args 0 t with e | ⟨j, s, rfl, e1, e2⟩
  ·rw [e]; trivial
  ·rw [e2]
   obtain ⟨v, v1, v2⟩ := hA.2 j s e1
   have hlt : j < vs.size := (Array.getElem?_eq_some_iff.1 v1).1
   rw [Nat.zero_add, Array.getD_eq_getD_getElem?, Array.getElem?_append_left hlt, v1]
   exact v2
 have hs : Sat ⟨P, Γ, fn.ntmps, H.length⟩ { K with ds := [] } F H μ (params 0 args) H F μ ⟨vs ++ Array.replicate (fn.ntmps - vs.size) undef, []⟩ w :=
  ⟨Mem.le_refl F, Ext.refl H μ, hw.ds [], hT, hsz, rfl, Nat.le_refl _⟩
 refine wp_mono (h.out { K with ds := [] } F H μ F μ _ w hs) ?_
 rintro e a' w' ⟨ts', H', F', μ', hs', he⟩
 have fin : resK Γ fn.results.toList ts' H' Q → a'.defers = [] ∧ ∃ v, (results fn a'.tmps).run P w' = .ok v w' ∧ (fun e w' => ∃ v F' μ' s H', e = Ending.returned v ∧ F.le F' ∧ HSat K F' H' μ' w' ∧ Ext H μ H' μ' ∧ RepS F' H' μ' s v ∧ Q s H') (.returned v) w' := by
  intro hr
  obtain ⟨v, s, r1, r2, r3⟩ := QpM (P := P) hΓ hs'.hs hs'.tp hr
  exact ⟨hs'.df, v, r1, v, F', μ', s, H', rfl, hs'.le, hs'.hs.ds K.ds, hs'.ext, r2, r3⟩
 cases e with
 | normal => exact fin he
 | ret => exact fin he
 | exit id => exact he.elim
 | goto l => exact he.elim
 | panic ch => exact he.elim
 | outgrown => exact he.elim
structure RgN (X : Cx) (ops : Array Oper) (o : Oper) (c : Code) (ts : Ts) (H : List O) (k : Kp) : Prop where
 intro ::
 out : ∀ K F0 H0 μ0 F μ a w, Sat X K F0 H0 μ0 ts H F μ a w → wpList X.P ops (Exit.then (c.wp X.P (Post X K F0 H0 μ0 k)) (Post X K F0 H0 μ0 k)) [o] a w
theorem AWn.rg {X : Cx} (hΓ : Qo X.P X.Γ) {i : Nat} {ops : Array Oper} {o : Oper} {c : Code} {ts : Ts} {H : List O} {k : Kp} (pre : List Oper) (hp : ops.toList = pre ++ [o]) (h : QcH X ops.toList pre ts H fun ts' H' => RgN X ops o c ts' H' k) :
  AWn X (.seq (.region i ops false) c) ts H k := by
 refine ⟨fun K F0 H0 μ0 F μ a w hs => wp_seq (wp_region_list ?_)⟩
 have := Qcu (K := K) (F0 := F0) (H0 := H0) (μ0 := μ0) hΓ ops.toList (Q := Exit.then (c.wp X.P (Post X K F0 H0 μ0 k)) (Post X K F0 H0 μ0 k)) [o] pre h hs fun ts' H' F' μ' a' w' h1 h2 => by simpa using h1.out K F0 H0 μ0 F' μ' a' w' h2
 rw [← hp] at this
 simpa using this
def Qmx (b0 i7 : Nat) (ops7 : Array Oper) (dx b1 i8 : Nat) (ops8 : Array Oper) (body : Code) : Code :=
 .block b0 (.loop (.seq (.region i7 ops7 false) (.seq (.cond (.tmp dx) .skip (.exit b0)) (.block b1 (.seq (.region i8 ops8 false) body)))))
theorem QkI (d : Nat) (s : S) (ts : Ts) : find d ((d, s) :: ts) = s := by simp [find]
theorem QlQ {F : Mem} {H : List O} {μ : Nat → Value} {ts : Ts} {a : Act} {nt : Nat} (ht : TSat F H μ ts a.tmps) (hz : a.tmps.size = nt) {d : Nat} (hd : Nat.blt d nt = true) {s : S} {v : Value} (hs : RepS F H μ s v) : TSat F H μ ((d, s) :: ts) (a.put (some d) v).tmps :=
 ht.put (by rw [hz]; exact Nat.le_of_ble_eq_true hd) hs
set_option maxHeartbeats 1000000 in
theorem RgN.mk {X : Cx} (hΓ : Qo X.P X.Γ) (h0 : X.n0 = 0) {ops6 : Array Oper} {oR : Oper} {ts : Ts} {H : List O} {k : Kp} {b0 i7 : Nat} {oN oX : Oper} {b1 i8 : Nat} {ops8 : Array Oper} {body : Code}
  {t d dn dx de : Nat} {m : Operand} {kt e : Nat} {te : TI} {sh : KS} {ks : List Key} {val : Key → Nat → C} (mid : Nat) {oE : Oper} {r8 : List Oper}
  (hR : oR.op = .range t m) (gR : oR.guard = none) (dR : oR.dst = some d) (hd : Nat.blt d X.nt = true)
  (hN : oN.op = .next (.tmp d) false) (gN : oN.guard = none) (dN : oN.dst = some dn) (hdn : Nat.blt dn X.nt = true)
  (hX : oX.op = .extract (.tmp dn) 0) (gX : oX.guard = none) (dX : oX.dst = some dx) (hdx : Nat.blt dx X.nt = true)
  (h8 : ops8.toList = oE :: r8) (hE : oE.op = .entry (.tmp d)) (gE : oE.guard = none) (dE : oE.dst = some de) (hde : Nat.blt de X.nt = true)
  (hne : Nat.beq d dn = false ∧ Nat.beq d dx = false)
  (hm : Qdt X.Γ t = some (sh, kt, e, te)) (hx : opnd ts m = .c (.mpr mid)) (hg : getL H mid = some (.mp sh te.zero te.agg ks val)) (hsm : ∀ k ∈ ks, k.small) (hva : te.agg = false → te.zero.length = 1)
  {ι : Type} (st : Nat → ι → Ts) (Hs : ι → List O) (ok : ι → Prop) (left : ι → List Key) (i0 : ι) (ok0 : ok i0) (l0 : left i0 = ks)
  (ts1 : Ts) (hts : WT idN 0 ts ts1) (hmv : ∀ r, Mv X ((d, .c (.raw r)) :: ts1) [] (st r i0) (Hs i0)) (hkeep : ∀ r i, find d (st r i) = .c (.raw r))
  (round : ∀ r i key, ok i → key ∈ left i → key ∈ ks → QcH X ops8.toList r8 ((de, .t [key.toE, elS te.agg te.zero.length (val key)]) :: (dx, .c (.bool true)) :: (dn, .u) :: st r i) (Hs i) fun ts' H' => vc X body ts' H' fun ex ts'' H'' => match ex with
   | .normal => ∃ j, ok j ∧ left j = (left i).erase key ∧ Mv X ts'' H'' (st r j) (Hs j)
   | .exit _ => False
   | .ret => k .ret ts'' H'')
  (fin : ∀ r i, ok i → left i = [] → k .normal ((dx, .c (.bool false)) :: (dn, .u) :: st r i) (Hs i)) :
  RgN X ops6 oR (Qmx b0 i7 #[oN, oX] dx b1 i8 ops8 body) ts H k := by
 refine ⟨fun K F0 H0 μ0 F μ a w hs => ?_⟩
 have hH0 : H0 = [] := List.eq_nil_of_length_eq_zero (by have := hs.n0; omega)
 subst hH0
 obtain ⟨hu, hkl, hte⟩ := QeO hΓ hm
 have hxv := Qab hs.tp m
 rw [hx] at hxv
 obtain ⟨_, b, m1, m2⟩ : RepC F H μ (.mpr mid) (a.eval m) := hxv
 obtain ⟨b', es, ck, q1, q2, q3, q4⟩ := hs.hs.ob mid _ hg
 rw [m1] at q1
 cases q1
 have hown : QD H μ mid b := ⟨⟨_, hg, by simp⟩, by rw [m1]; rfl⟩
 have hbl := (Array.getElem?_eq_some_iff.1 q2).1
 refine wpList_step fun kk hkk => ?_
 simp only [Region.wanted, gR, if_true]
 unfold Oper.wp
 have run : (execOp a.eval oR).run X.P w = .ok (.value (.pointer (some ⟨w.heap.size, 0, none⟩))) (w.alloc (.mapIter (some b) ck #[] ck)) := by
  unfold execOp
  rw [hR]
  refine val1 ?_
  rw [m2]
  exact run_range_map w t kt e b es ck hu q2
 rw [run, Oper.upon_value, dR]
 refine hkk _ _ ?_
 show (Qmx b0 i7 #[oN, oX] dx b1 i8 ops8 body).wp X.P (Post X K F0 [] μ0 k) _ _
 generalize hr : w.heap.size = r
 have hrb : r ≠ b := by omega
 have hKb : K.mem b = none := (hs.hs.sp mid b hown).2
 have hKr : K.mem r = none := by
  cases hh : K.mem r with
  | none => rfl
  | some o =>
   have := hs.hs.kp _ _ hh
   rw [← hr, Array.getElem?_eq_none (Nat.le_refl _)] at this
   cases this
 let KK : Array Nat → Keep := fun seen => K.two b (.map es ck) r (.mapIter (some b) ck seen ck)
 have s0 : Sat X (KK #[]) F [] μ ((d, .c (.raw r)) :: ts1) [] F μ (a.put (some d) (.pointer (some ⟨r, 0, none⟩))) (w.alloc (.mapIter (some b) ck #[] ck)) :=
  ⟨Mem.le_refl F, Ext.refl [] μ, by have := hs.hs.two hown q2 (.mapIter (some b) ck #[] ck) μ; rw [hr] at this; exact this, QlQ (Sat.drop hs hts) hs.sz hd rfl, by simp [Act.put, hs.sz], hs.df, Nat.zero_le _⟩
 obtain ⟨F1, μ1, s1⟩ := hmv r _ _ _ _ _ _ _ _ s0
 have back : ∀ {seen : Array Nat} {ex : Exit} {a' : Act} {w' : World} {kx : Kp}, Post X (KK seen) F [] μ kx ex a' w' → Post X K F0 [] μ0 kx ex a' w' := by
  rintro seen ex a' w' kx ⟨ts', H', F', μ', hs', he⟩
  exact ⟨ts', H', F', μ', ⟨hs.le.le_trans' hs'.le, ⟨fun _ _ h => by simp [getL] at h, fun _ _ _ _ _ h => by simp [getL] at h, fun _ _ _ _ _ _ h => by simp [getL] at h⟩, hs'.hs.untwo (.inl hKb) hKr, hs'.tp, hs'.sz, hs'.df, Nat.zero_le _⟩, he⟩
 let I : Nat → Act → World → Prop := fun n a w => ∃ i seen F1 μ1, (left i).length = n ∧ ok i ∧ Left es seen (left i) ∧ Sat X (KK seen) F [] μ (st r i) (Hs i) F1 μ1 a w
 unfold Qmx
 refine wp_block (Qs9 I ⟨_, i0, #[], F1, μ1, rfl, ok0, by rw [l0]; exact Left.start q3, s1⟩ ?_)
 rintro n a1 w1 ⟨i, seen, F2, μ2, rfl, hi, hL, hs2⟩
 have hr2 : w1.heap[r]? = some (.mapIter (some b) ck seen ck) := hs2.hs.kp r _ (by simp [KK, Keep.two, hrb])
 have hb2 : w1.heap[b]? = some (.map es ck) := hs2.hs.kp b _ (by simp [KK, Keep.two])
 have hd2 : a1.eval (.tmp d) = .pointer (some ⟨r, 0, none⟩) := by
  have := hs2.tp d
  rw [hkeep] at this
  exact this
 refine wp_seq (wp_region_list ?_)
 refine wpList_step fun kk2 hkk2 => ?_
 simp only [Region.wanted, gN, if_true]
 unfold Oper.wp
 have rest : ∀ (bb : Bool) (a3 : Act) (w3 : World) (l : Array Value), a3.tmps.size = X.nt → l[0]? = some (.bool bb) → a3.tmps.getD dn undef = .tuple l → ∀ Q : Exit → Act → World → Prop,
   (∀ a4 : Act, a4 = a3.put (some dx) (.bool bb) → Exit.then ((Code.seq (.cond (.tmp dx) .skip (.exit b0)) (.block b1 (.seq (.region i8 ops8 false) body))).wp X.P Q) Q .normal a4 w3) → wpList X.P #[oN, oX] (Exit.then ((Code.seq (.cond (.tmp dx) .skip (.exit b0)) (.block b1 (.seq (.region i8 ops8 false) body))).wp X.P Q) Q) [oX] a3 w3 := by
  intro bb a3 w3 l hz hl hv Q hQ
  refine wpList_step fun kk3 hkk3 => ?_
  simp only [Region.wanted, gX, if_true]
  unfold Oper.wp
  have run3 : (execOp a3.eval oX).run X.P w3 = .ok (.value (.bool bb)) w3 := by
   unfold execOp
   rw [hX]
   refine val1 ?_
   show (Instr.extract (a3.tmps.getD dn undef) 0).run X.P w3 = _
   rw [hv]
   simp [Instr.extract, hl]
  rw [run3, Oper.upon_value, dX]
  exact hkk3 _ _ (hQ _ rfl)
 rcases run_next_at (P := X.P) w1 oN.type r b ck ck seen es ck hr2 hb2 q4.1 (Nat.le_refl _) with ⟨z1, z2⟩ | ⟨en, en1, w2, en2, z2⟩
 ·have run2 : (execOp a1.eval oN).run X.P w1 = .ok (.value (.tuple #[.bool false])) w1 := by
   unfold execOp
   rw [hN]
   refine val1 ?_
   rw [hd2]; exact z2
  rw [run2, Oper.upon_value, dN]
  have hlt : dn < a1.tmps.size := by rw [hs2.sz]; exact Nat.le_of_ble_eq_true hdn
  refine hkk2 _ _ (rest false _ _ #[.bool false] (by simp [Act.put, hs2.sz]) rfl (by simp [Act.put, Array.getD, hlt]) _ fun a4 ha4 => ?_)
  subst ha4
  have t4 : TSat F2 (Hs i) μ2 ((dx, .c (.bool false)) :: (dn, .u) :: st r i) ((a1.put (some dn) (.tuple #[.bool false])).put (some dx) (.bool false)).tmps :=
   QlQ (TSat.put_u hs2.tp) (by simp [Act.put, hs2.sz]) hdx rfl
  have hL0 := hL.none z1
  refine wp_seq (wp_cond_split (t := false) (by have := t4 dx; rw [QkI] at this; exact this) (fun e => by cases e) fun _ => wp_exit ?_)
  show (if b0 = b0 then _ else _)
  rw [if_pos rfl]
  exact back (seen := seen) ⟨_, _, F2, μ2, ⟨hs2.le, hs2.ext, hs2.hs, t4, by simp [Act.put, hs2.sz], hs2.df, hs2.n0⟩, fin r i hi hL0⟩
 ·have run2 : (execOp a1.eval oN).run X.P w1 = .ok (.value (.tuple #[.bool true, en.key, en.val])) (setBlock w2 r (.mapIter (some b) ck (seen.push en.born) ck)) := by
   unfold execOp
   rw [hN]
   refine val1 ?_
   rw [hd2]; exact z2
  rw [run2, Oper.upon_value, dN]
  have hlt : dn < a1.tmps.size := by rw [hs2.sz]; exact Nat.le_of_ble_eq_true hdn
  refine hkk2 _ _ (rest true _ _ #[.bool true, en.key, en.val] (by simp [Act.put, hs2.sz]) rfl (by simp [Act.put, Array.getD, hlt]) _ fun a4 ha4 => ?_)
  subst ha4
  have t4 : TSat F2 (Hs i) μ2 ((dx, .c (.bool true)) :: (dn, .u) :: st r i) ((a1.put (some dn) (.tuple #[.bool true, en.key, en.val])).put (some dx) (.bool true)).tmps :=
   QlQ (TSat.put_u hs2.tp) (by simp [Act.put, hs2.sz]) hdx rfl
  obtain ⟨key, k1, k2, k3, k4, k5⟩ := Left.next q3 q4.2 hL en1
  obtain ⟨me, -⟩ := mem_left en1
  have hs3 : HSat (KK (seen.push en.born)) F2 (Hs i) μ2 (setBlock w2 r (.mapIter (some b) ck (seen.push en.born) ck)) := hs2.hs.swap hrb en2
  generalize hw3 : setBlock w2 r (.mapIter (some b) ck (seen.push en.born) ck) = w3 at hs3
  generalize ha4 : (a1.put (some dn) (.tuple #[.bool true, en.key, en.val])).put (some dx) (.bool true) = a4 at t4
  have hz4 : a4.tmps.size = X.nt := by rw [← ha4]; simp [Act.put, hs2.sz]
  have hdf4 : a4.defers = K.ds := by rw [← ha4]; exact hs2.df
  refine wp_seq (wp_cond_split (t := true) (by have := t4 dx; rw [QkI] at this; exact this) (fun _ => wp_skip ?_) (fun e => by cases e))
  refine wp_block (wp_seq (wp_region_list ?_))
  rw [h8]
  refine wpList_step fun kk4 hkk4 => ?_
  simp only [Region.wanted, gE, if_true]
  unfold Oper.wp
  have hd4 : a4.eval (.tmp d) = .pointer (some ⟨r, 0, none⟩) := by
   have := t4 d
   have e1 : Nat.beq dx d = false := by
    have := hne.2
    cases hh : Nat.beq dx d with
    | false => rfl
    | true => rw [Nat.eq_of_beq_eq_true hh] at this; simp at this
   have e2 : Nat.beq dn d = false := by
    have := hne.1
    cases hh : Nat.beq dn d with
    | false => rfl
    | true => rw [Nat.eq_of_beq_eq_true hh] at this; simp at this
   simp only [find, e1, e2, hkeep] at this
   exact this
  have run4 : (execOp a4.eval oE).run X.P w3 = .ok (.value (.tuple #[en.key, en.val])) w3 := by
   unfold execOp
   rw [hE]
   refine val1 ?_
   rw [hd4]
   exact run_entry_at w3 r b ck seen es ck en (hs3.kp r _ (by simp [KK, Keep.two, hrb])) (hs3.kp b _ (by simp [KK, Keep.two])) me q4.2
  rw [run4, Oper.upon_value, dE]
  refine hkk4 _ _ ?_
  have t5 : TSat F2 (Hs i) μ2 ((de, .t [key.toE, elS te.agg te.zero.length (val key)]) :: (dx, .c (.bool true)) :: (dn, .u) :: st r i) (a4.put (some de) (.tuple #[en.key, en.val])).tmps := by
   refine QlQ t4 hz4 hde ⟨#[en.key, en.val], rfl, rfl, fun j y hj => ?_⟩
   match j with
   | 0 => simp only [getL, Option.some.injEq] at hj; subst hj; exact ⟨en.key, rfl, by rw [k3]; exact Key.toE_rep (hsm key k2)⟩
   | 1 => simp only [getL, Option.some.injEq] at hj; subst hj; exact ⟨en.val, rfl, RepV.el hva (k4.mono hs2.le)⟩
   | j + 2 => simp [getL] at hj
  have hs5 : Sat X (KK (seen.push en.born)) F [] μ ((de, .t [key.toE, elS te.agg te.zero.length (val key)]) :: (dx, .c (.bool true)) :: (dn, .u) :: st r i) (Hs i) F2 μ2 (a4.put (some de) (.tuple #[en.key, en.val])) w3 :=
   ⟨hs2.le, hs2.ext, hs3, t5, by simp [Act.put, hz4], hdf4, hs2.n0⟩
  have hround := round r i key hi k1 k2
  rw [show ops8 = (oE :: r8).toArray by rw [← h8]] at hround ⊢
  refine QdP hΓ (oE :: r8) r8 (by simpa using hround) hs5 fun ts6 H6 F6 μ6 a6 w6 hv6 hs6 => ?_
  refine wp_mono (QcZ hΓ body hv6 _ _ _ _ _ _ _ _ hs6) ?_
  rintro ex a7 w7 ⟨ts7, H7, F7, μ7, hs7, he7⟩
  cases ex with
  | normal =>
   obtain ⟨j, j1, j2, j3⟩ := he7
   obtain ⟨F8, μ8, hs8⟩ := j3 _ _ _ _ _ _ _ _ hs7
   refine ⟨(left j).length, ?_, j, seen.push en.born, F8, μ8, rfl, j1, by rw [j2]; exact k5, hs8⟩
   rw [j2, List.length_erase_of_mem k1]
   have := List.length_pos_of_mem k1
   omega
  | exit id => exact he7.elim
  | ret => exact back ⟨ts7, H7, F7, μ7, hs7, he7⟩
  | goto l => exact he7.elim
  | panic ch => exact he7.elim
  | outgrown => exact he7.elim
end Go.Am
end

section
namespace Go.Am
open Go.Sort
theorem HSat.grown {K : Keep} {F : Mem} {H : List O} {μ : Nat → Value} {w w' : World} (h : HSat K F H μ w) (hg : w.grownBy w' none) : HSat K F H μ w' := by
 have hold : ∀ b o, w.heap[b]? = some o → w'.heap[b]? = some o := fun b o hb => by
  rw [hg.block b (Array.getElem?_eq_some_iff.1 hb).1 (fun e => by cases e)]; exact hb
 refine ⟨hg.os.trans h.os, hg.tape.trans h.tape, hg.output.trans h.output, fun b o hb => hold b o (h.fr b o hb), fun b o hb => hold b o (h.kp b o hb), fun i o hi => (h.ob i o hi).other (Ext.refl H μ) rfl fun b hb _ => hg.block b hb (fun e => by cases e), h.sp, h.ij, h.dj⟩
theorem QpR (w : World) (os : Array Obj) : w.grownBy (grow w os) none :=
 ⟨rfl, rfl, rfl, by simp, fun k hk _ => by simp [grow, Array.getElem?_append_left hk]⟩
structure RwN (X : Cx) (ops : Array Oper) (l : List Oper) (c : Code) (ts : Ts) (H : List O) (k : Kp) : Prop where
 out : ∀ K F0 H0 μ0 F μ a w, Sat X K F0 H0 μ0 ts H F μ a w → wpList X.P ops (Exit.then (c.wp X.P (Post X K F0 H0 μ0 k)) (Post X K F0 H0 μ0 k)) l a w
theorem AWn.rw {X : Cx} (hΓ : Qo X.P X.Γ) {i : Nat} {ops : Array Oper} {c : Code} {ts : Ts} {H : List O} {k : Kp} (pre l : List Oper) (hp : ops.toList = pre ++ l) (h : QcH X ops.toList pre ts H fun ts' H' => RwN X ops l c ts' H' k) :
  AWn X (.seq (.region i ops false) c) ts H k := by
 refine ⟨fun K F0 H0 μ0 F μ a w hs => wp_seq (wp_region_list ?_)⟩
 have := Qcu (K := K) (F0 := F0) (H0 := H0) (μ0 := μ0) hΓ ops.toList (Q := Exit.then (c.wp X.P (Post X K F0 H0 μ0 k)) (Post X K F0 H0 μ0 k)) l pre h hs fun ts' H' F' μ' a' w' h1 h2 => by simpa using h1.out K F0 H0 μ0 F' μ' a' w' h2
 rw [← hp] at this
 simpa using this
end Go.Am
end

section
namespace Go.Am
theorem Qpn {a : Act} {d t : Nat} {v : Value} (h : Nat.beq d t = false) : (a.put (some d) v).eval (.tmp t) = a.eval (.tmp t) := by
 have h' : d ≠ t := Nat.ne_of_beq_eq_false h
 show ((a.tmps.setIfInBounds d v).getD t undef) = a.tmps.getD t undef
 simp [Array.getD_eq_getD_getElem?, Array.getElem?_setIfInBounds_ne h']
end Go.Am
end

section
namespace Go.Am
open Go.Sort Go.Proofs Go.Lib
set_option maxHeartbeats 1000000 in
theorem HSat.row {K : Keep} {F : Mem} {H : List O} {μ : Nat → Value} {w : World} {ob e es n : Nat} {g : Nat → Nat → C} {α : Type} [Inhabited α] {enc : α → List Value} {d : Array α} (hw : HSat K F H μ w) (h0 : getL H ob = some (.arr e es n g)) (hn : 0 < n) (hes : 0 < es) (hd : d.size = n)
  (h1 : ∀ i, i < n → ∀ j, j < es → ∀ F v, RepF F (g i j) v → v = (enc d[i]!)[j]!) (hg : ∀ i, i < n → ∀ j, j < es → (g i j).imm = true) :
  ∃ b cap, μ ob = .slice (some ⟨b, 0, none⟩) n cap ∧ b < w.heap.size ∧ n ≤ cap ∧ cap ≤ maxLen ∧ HoldsK enc es w b 0 d ∧ ∀ (d' : Array α) (g' : Nat → Nat → C), d'.size = n → (∀ i, i < n → ∃ i', i' < n ∧ (∀ j, j < es → g' i j = g i' j) ∧ d'[i]! = d[i']!) → ∀ H', setL H ob (.arr e es n g') = some H' → ∀ q os, HSat K F H' μ (grow (putRowK enc es (Go.Sort.ahead w q) b 0 d') os) ∧ Ext H μ H' μ := by
 obtain ⟨xs, ⟨x1, x2⟩, x3, x4, x5⟩ := hw.ob ob _ h0
 rcases x2 with ⟨_, q⟩ | ⟨b, cap, cur, q1, q2, q3, q4, q5, q6, q7⟩
 ·omega
 have hblt : b < w.heap.size := (Array.getElem?_eq_some_iff.1 q3).1
 have hcur : ∀ i, i < n → ∀ j, j < es → cur[i * es + j]? = some (enc d[i]!)[j]! := by
  intro i hi j hj
  obtain ⟨u, u1, u2⟩ := x4 i hi j hj
  rw [← q7, List.getElem?_take_of_lt (Qpv hi hj)] at u1
  rw [h1 i hi j hj F u (Qce (hg i hi j hj) u2)] at u1
  simpa using u1
 have hflat : ∀ t, t < n * es → (flatK enc es d)[t]! = (enc d[t / es]!)[t % es]! := fun t ht => get_flatK enc es d t (by rw [hd]; exact ht)
 have hdm : ∀ t, t < n * es → t / es < n ∧ t % es < es ∧ t / es * es + t % es = t := fun t ht => ⟨Nat.div_lt_of_lt_mul (by rw [Nat.mul_comm]; exact ht), Nat.mod_lt _ hes, Nat.div_add_mod' t es⟩
 have hold : HoldsK enc es w b 0 d := by
  intro t ht
  rw [size_flatK, hd] at ht
  obtain ⟨t1, t2, t3⟩ := hdm t ht
  refine ⟨?_, ?_⟩
  ·rw [hflat t ht]
   unfold World.cell?
   simp only [q3, Nat.zero_add]
   have := hcur (t / es) t1 (t % es) t2
   rw [t3] at this
   simpa using this
  ·unfold World.frozen?
   simp [q3]
 refine ⟨b, cap, q1, hblt, q4, q5, hold, fun d' g' hd' hpm H' hset q os => ?_⟩
 have h2 : ∀ i, i < n → ∀ j, j < es → RepF F (g' i j) (enc d'[i]!)[j]! := fun i hi j hj => by
  obtain ⟨i', k1, k2, k3⟩ := hpm i hi
  obtain ⟨u, u1, u2⟩ := x4 i' k1 j hj
  have u3 := Qce (hg i' k1 j hj) u2
  rw [k2 j hj, k3, ← h1 i' k1 j hj F u u3]
  exact u3
 have hflat' : ∀ t, t < n * es → (flatK enc es d')[t]! = (enc d'[t / es]!)[t % es]! := fun t ht => get_flatK enc es d' t (by rw [hd']; exact ht)
 generalize hD : flatK enc es d' = D
 have hDs : D.size = n * es := by rw [← hD, size_flatK, hd']
 have hw' : grow (putRowK enc es (Go.Sort.ahead w q) b 0 d') os = grow (putRow id (Go.Sort.ahead w q) b 0 D) os := by unfold putRowK; rw [hD]
 rw [hw']
 have hb' : (grow (putRow id (Go.Sort.ahead w q) b 0 D) os).heap[b]? = some (.cells (putCells id 0 D cur) e (0, 0)) := by
  show ((w.heap.modify b (onCells (putCells id 0 D))) ++ os)[b]? = _
  rw [Array.getElem?_append_left (by simpa using hblt), Array.getElem?_modify, if_pos rfl, q3]
  rfl
 have hgr : w.grownBy (grow (putRow id (Go.Sort.ahead w q) b 0 D) os) (some b) := by
  refine ⟨rfl, rfl, rfl, ?_, fun k hk hne => ?_⟩
  ·show w.heap.size ≤ ((w.heap.modify b (onCells (putCells id 0 D))) ++ os).size
   simp
  ·show ((w.heap.modify b (onCells (putCells id 0 D))) ++ os)[k]? = _
   rw [Array.getElem?_append_left (by simpa using hk), Array.getElem?_modify, if_neg (fun e => hne (by rw [e]))]
 have hsz : (putCells id 0 D cur).size = cur.size := by unfold putCells; simp
 have hnc : n * es ≤ cur.size := by rw [q6]; exact Nat.mul_le_mul_right es q4
 have hone : ∀ x ∈ (putCells id 0 D cur).toList, x.oneCell' = true := by
  intro x hx
  obtain ⟨i, hi, rfl⟩ := List.getElem_of_mem hx
  have hi2 : i < cur.size := by simpa [putCells] using hi
  have ee : (putCells id 0 D cur).toList[i] = if i < n * es then D[i]! else cur[i] := by
   simp [putCells, hDs]
  rw [ee]
  split
  ·rename_i hin
   obtain ⟨t1, t2, t3⟩ := hdm i hin
   rw [← hD, hflat' _ hin]
   exact RepF.one _ _ (h2 (i / es) t1 (i % es) t2)
  ·exact x5 b cur e (0, 0) (by rw [q1]; rfl) q3 _ (Array.getElem_mem_toList hi2)
 obtain ⟨e1, e2⟩ := QaA hset
 have hst := hw.step (w' := grow (putRow id (Go.Sort.ahead w q) b 0 D) os) ob (.arr e es n g') (μ ob) e1 e2 (by rw [Qq]; exact Qdd h0 hset) (row := some b) hgr (fun k hk => by cases hk; exact ⟨⟨_, h0, by simp⟩, by rw [q1]; rfl⟩) (fun b' hb => .inl ⟨⟨_, h0, by simp⟩, hb⟩) (by
   rw [Qq]
   refine ⟨(putCells id 0 D cur).toList.take (n * es), ⟨?_, .inr ⟨b, cap, putCells id 0 D cur, q1, Nat.zero_le _, hb', q4, q5, ?_, rfl⟩⟩, x3, fun i hi j hj => ?_, Sp.of (by rw [q1]; rfl) hb' hone⟩
   ·rw [List.length_take, Array.length_toList, hsz]; omega
   ·rw [hsz]; exact q6
   ·have hlt := Qpv hi hj
    refine ⟨(enc d'[i]!)[j]!, ?_, RepF.toC _ _ _ _ (h2 i hi j hj)⟩
    rw [List.getElem?_take_of_lt hlt]
    unfold putCells
    simp only [Array.getElem?_toList, Array.getElem?_mapIdx]
    rw [Array.getElem?_eq_getElem (by omega)]
    simp only [Option.map_some, Nat.zero_le, Nat.zero_add, true_and, Nat.sub_zero, hDs, id]
    rw [if_pos hlt, ← hD, hflat' _ hlt, (Qse hj).1, (Qse hj).2])
 rw [Qq] at hst
 exact ⟨hst, Qdd h0 hset⟩
theorem Qsd {α : Type} [Inhabited α] {d : Array α} {i j q : Nat} (hq : q < d.size) : (Go.Sort.swp d i j)[q]! = if q = j then d[i]! else if q = i then d[j]! else d[q]! := by
 unfold Go.Sort.swp
 rw [getElem!_pos _ q (by simp; omega), Array.getElem_setIfInBounds]
 ·split
  ·rename_i e; rw [if_pos e.symm]
  ·rename_i e
   rw [if_neg fun z => e z.symm, Array.getElem_setIfInBounds]
   split
   ·rename_i e2; rw [if_pos e2.symm]
   ·rename_i e2; rw [if_neg fun z => e2 z.symm, getElem!_pos _ q (by omega)]
 ·simp; omega
theorem Q8 {α : Type} [Inhabited α] (d : Array α) (i j : Nat) : (Go.Sort.swp d i j).size = d.size := by unfold Go.Sort.swp; simp
set_option maxHeartbeats 1000000 in
theorem CallX.swap {X : Cx} {sf : Nat} {dst : Option Tmp} {ts : Ts} {H H' : List O} {k : Ts → List O → Prop} {ob e es n G T i j : Nat} {g : Nat → Nat → C} {x : Bool} (g' : Nat → Nat → C) {α : Type} [Inhabited α] {enc : α → List Value} (d : Array α)
  (hi : i < n) (hj : j < n) (h0 : getL H ob = some (.arr e es n g)) (hes : 0 < es) (hd : d.size = n)
  (r1 : ∀ i, i < n → ∀ j, j < es → ∀ F v, RepF F (g i j) v → v = (enc d[i]!)[j]!) (rg : ∀ i, i < n → ∀ j, j < es → (g i j).imm = true)
  (r2 : ∀ a, a < n → g' a = g (if a = j then i else if a = i then j else a)) (hset : setL H ob (.arr e es n g') = some H') (hk : ∀ x, (enc x).length = es)
  (hsw : ∀ b cap, SwapSwapsK X.P sf #[.slice (some ⟨b, 0, none⟩) n cap, .pointer (some ⟨G, T, none⟩)] enc es b 0 n)
  (h : putK X.nt dst (.t []) ts fun ts' => k ts' H') : CallX X sf [.c (.int .i64 i), .c (.int .i64 j), .c (.sl ob es n n x), .c (.raw G T)] dst ts H k := by
 refine ⟨fun K F0 H0 μ0 F μ a w vs hs hA => ?_⟩
 obtain ⟨b, cap, m0, hb, hcap, hmax, hold, hnew⟩ := hs.hs.row (enc := enc) (d := d) h0 (by omega) hes hd r1 rg
 obtain ⟨va, a1, a2⟩ := hA.2 0 _ rfl
 obtain ⟨vb, b1, b2⟩ := hA.2 1 _ rfl
 obtain ⟨x0, y0, z0⟩ := hA.2 2 _ rfl
 obtain ⟨x1, y1, z1⟩ := hA.2 3 _ rfl
 have a2 : va = .int .i64 i := a2
 have b2 : vb = .int .i64 j := b2
 obtain ⟨-, e', n', g'', w1, w2, w3, w4⟩ := z0
 rw [h0] at w1
 cases w1
 obtain ⟨p, cap', p1, p2, -⟩ := w4 rfl
 rw [m0] at p1
 cases p1
 have z1 : x1 = .pointer (some ⟨G, T, none⟩) := z1
 have hvs : vs = #[.int .i64 i, .int .i64 j] ++ #[.slice (some ⟨b, 0, none⟩) n cap, .pointer (some ⟨G, T, none⟩)] := by
  apply Array.ext_getElem?
  intro q
  match q with
  | 0 => rw [a1, a2]; rfl
  | 1 => rw [b1, b2]; rfl
  | 2 => rw [y0, p2]; rfl
  | 3 => rw [y1, z1]; rfl
  | q + 4 => rw [Array.getElem?_eq_none (by rw [hA.1]; simp), Array.getElem?_eq_none (by simp)]
 have hrun := hsw b cap w d hold hd i j hi hj
 have hself : w = putRowK enc es (Go.Sort.ahead w 0) b 0 d := (putRowK_self enc es w b 0 d hold).symm
 have hworld : (w.setCells b (0 + i * es) (enc d[j]!)).setCells b (0 + j * es) (enc d[i]!) = grow (putRowK enc es (Go.Sort.ahead w 0) b 0 (Go.Sort.swp d i j)) #[] := by
  have := swap_worldK enc es hk w 0 0 b 0 d i j (by omega) (by omega)
  rw [show ((putRowK enc es (Go.Sort.ahead w 0) b 0 d).drewN 0) = w from hself.symm] at this
  rw [this]
  simp [grow]
 rw [hworld] at hrun
 obtain ⟨hs', hE⟩ := hnew (Go.Sort.swp d i j) g' (by unfold Go.Sort.swp; simp [hd]) (fun q hq => ⟨if q = j then i else if q = i then j else q, by repeat' split <;> try omega, fun _ _ => by rw [r2 q hq], by rw [Qsd (by omega)]; repeat' split <;> try rfl⟩) H' hset 0 #[]
 obtain ⟨ts', p1, p2⟩ := hs.put (Mem.le_refl F) hE hs' (v := .tuple #[]) (show RepS F H' μ (.t []) (.tuple #[]) from ⟨#[], rfl, rfl, fun j x hx => by simp [getL] at hx⟩) h
 exact ⟨_, _, by rw [hvs]; exact hrun, ts', H', F, μ, p1, p2⟩
end Go.Am
end

section
namespace Go.Am
theorem AWn.join {X : Cx} (hΓ : Qo X.P X.Γ) {x y : Code} {ts : Ts} {H : List O} {k : Kp} {ι : Type} (kp : List Nat) (st : ι → Ts) (Hs : ι → List O) (I : ι → Prop)
  (h : vc X x ts H fun e ts' H' => match e with
   | .normal => ∃ i, I i ∧ Mv X ts' H' (st i ++ Qad kp ts) (Hs i)
   | .exit id => k (.exit id) ts' H'
   | .ret => k .ret ts' H')
  (h2 : ∀ i, I i → AWn X y (st i ++ Qad kp ts) (Hs i) k) : AWn X (.seq x y) ts H k := by
 refine ⟨fun K F0 H0 μ0 F μ a w hs => wp_seq (wp_mono (QcZ hΓ x h K F0 H0 μ0 F μ a w hs) ?_)⟩
 rintro e a' w' ⟨ts', H', F', μ', hs', he⟩
 cases e with
 | normal =>
  obtain ⟨i, i1, i2⟩ := he
  obtain ⟨F'', μ'', hs''⟩ := i2 _ _ _ _ _ _ _ _ hs'
  exact (h2 i i1).out K F0 H0 μ0 F'' μ'' a' w' hs''
 | exit id => exact ⟨ts', H', F', μ', hs', he⟩
 | ret => exact ⟨ts', H', F', μ', hs', he⟩
 | goto l => exact he.elim
 | panic ch => exact he.elim
 | outgrown => exact he.elim
theorem Lp.mkA {X : Cx} {c : Code} {ts : Ts} {H : List O} {k : Kp} {ι : Type} (kp : List Nat) (st : ι → Ts) (Hs : ι → List O) (ok : ι → Prop) (m : ι → Nat) (i0 : ι) (h0 : ok i0) (hw : Mv X ts H (st i0 ++ Qad kp ts) (Hs i0))
  (round : ∀ i, ok i → AWn X c (st i ++ Qad kp ts) (Hs i) fun e ts' H' => match e with
   | .normal => ∃ j, ok j ∧ m j < m i ∧ Mv X ts' H' (st j ++ Qad kp ts) (Hs j)
   | .exit id => k (.exit id) ts' H'
   | .ret => k .ret ts' H') : Lp X c ts H k := by
 refine ⟨?_⟩
 intro K F0 H0 μ0 F μ a w hs
 let I : Nat → Act → World → Prop := fun n a w => ∃ i F μ, m i = n ∧ ok i ∧ Sat X K F0 H0 μ0 (st i ++ Qad kp ts) (Hs i) F μ a w
 have step : ∀ n a w, I n a w → c.wp X.P (Exit.then (fun a' w' => ∃ n', n' < n ∧ I n' a' w') (Post X K F0 H0 μ0 k)) a w := by
  rintro n a w ⟨i, F, μ, rfl, hi, hs⟩
  refine wp_mono ((round i hi).out K F0 H0 μ0 F μ a w hs) ?_
  rintro e a' w' ⟨ts', H', F', μ', hs', he⟩
  cases e with
  | normal =>
   obtain ⟨j, j1, j2, j3⟩ := he
   obtain ⟨F'', μ'', hs''⟩ := j3 _ _ _ _ _ _ _ _ hs'
   exact ⟨m j, j2, j, F'', μ'', rfl, j1, hs''⟩
  | exit id => exact ⟨ts', H', F', μ', hs', he⟩
  | ret => exact ⟨ts', H', F', μ', hs', he⟩
  | goto l => exact he.elim
  | panic ch => exact he.elim
  | outgrown => exact he.elim
 classical
 let least : Act → World → Nat := fun a w => if h : ∃ n, I n a w then (QG h).choose else 0
 obtain ⟨F1, μ1, hs1⟩ := hw _ _ _ _ _ _ _ _ hs
 refine wp_loop (fun a w => ∃ n, I n a w) least ⟨m i0, i0, F1, μ1, rfl, h0, hs1⟩ ?_
 intro a w hI
 have hl : least a w = (QG hI).choose := by simp only [least]; rw [dif_pos hI]
 refine wp_mono (step (least a w) a w (by rw [hl]; exact (QG hI).choose_spec.1)) ?_
 intro e a' w' he
 cases e with
 | normal =>
  obtain ⟨n', n1, n2⟩ := he
  have hI' : ∃ n, I n a' w' := ⟨n', n2⟩
  refine ⟨hI', ?_⟩
  have hl' : least a' w' = (QG hI').choose := by simp only [least]; rw [dif_pos hI']
  rw [hl']
  exact Nat.lt_of_le_of_lt ((QG hI').choose_spec.2 n' n2) n1
 | _ => exact he
theorem AWn.block {X : Cx} {id : Nat} {c : Code} {ts : Ts} {H : List O} {k : Kp} (h : AWn X c ts H fun e ts' H' => match e with
  | .exit id' => match Nat.beq id' id with
   | true => k .normal ts' H'
   | false => k (.exit id') ts' H'
  | .normal => k .normal ts' H'
  | .ret => k .ret ts' H') : AWn X (.block id c) ts H k := by
 refine ⟨fun K F0 H0 μ0 F μ a w hs => wp_block (wp_mono (h.out K F0 H0 μ0 F μ a w hs) ?_)⟩
 rintro e a' w' ⟨ts', H', F', μ', hs', he⟩
 cases e with
 | normal => exact ⟨ts', H', F', μ', hs', he⟩
 | ret => exact ⟨ts', H', F', μ', hs', he⟩
 | goto l => exact he.elim
 | panic ch => exact he.elim
 | outgrown => exact he.elim
 | exit id' =>
  simp only [Exit.inBlock]
  simp only [exOk] at he
  cases hb : Nat.beq id' id with
  | true =>
   have : id' = id := Nat.eq_of_beq_eq_true hb
   simp only [hb] at he
   rw [if_pos this]
   exact ⟨ts', H', F', μ', hs', he⟩
  | false =>
   have : id' ≠ id := fun e => by subst e; simp at hb
   simp only [hb] at he
   rw [if_neg this]
   exact ⟨ts', H', F', μ', hs', he⟩
theorem AWn.loop {X : Cx} {c : Code} {ts : Ts} {H : List O} {k : Kp} (h : Lp X c ts H k) : AWn X (.loop c) ts H k := ⟨h.out⟩
theorem CallN.exQ {X : Cx} {f : FuncId} {args args' : List S} {dst : Option Tmp} {ts : Ts} {H Hc : List O} {ι : Type} {q : ι → Prop} {s0 : ι → S} {Hc0 : ι → List O} {k : Ts → List O → Prop} (rs : List Nat) (hb : HasBody X.P f) (hc : CSpec X.P f args' Hc fun s H' => ∃ i, q i ∧ s = s0 i ∧ H' = Hc0 i)
  (hk : ∀ i, q i → QaG (plug rs H (Hc0 i)) fun H1 => Q0 (reS (sg rs H.length) (s0 i)) fun s' => putK X.nt dst s' ts fun ts' => k ts' H1) (hr : rs.Nodup) (h : WR (rho rs) Hc.length H rs Hc)
  (hd : QbU Hc = true) (ha : WB (rho rs) Hc.length args args') : CallN X f args dst ts H k :=
 CallN.frame hb hc rs (Fr.ofW hr h) (Qbg hd) ha.out fun s Hc' hq => by
  obtain ⟨i, hi, rfl, rfl⟩ := hq
  exact ⟨_, _, rfl, rfl, hk i hi⟩
theorem Sat.step0 {X : Cx} {K : Keep} {F0 : Mem} {H0 : List O} {μ0 : Nat → Value} {ts ts' : Ts} {H : List O} {F : Mem} {μ : Nat → Value} {a a' : Act} {w : World} (h : Sat X K F0 H0 μ0 ts H F μ a w) (ht : TSat F H μ ts' a'.tmps) (hz : a'.tmps.size = a.tmps.size) (hd : a'.defers = a.defers) : Sat X K F0 H0 μ0 ts' H F μ a' w :=
 ⟨h.le, h.ext, h.hs, ht, hz.trans h.sz, hd.trans h.df, h.n0⟩
set_option maxHeartbeats 1000000 in
theorem RwN.sortX {X : Cx} {ops : Array Oper} {oI oF oC : Oper} {c : Code} {ts : Ts} {H : List O} {k : Kp} {T e dI dF dC fS t1 : Nat} {x : Operand} {fn : Fn} {tys : Array TypeId} (q : List O → Prop)
  (hI : oI.op = .makeInterface T x) (gI : oI.guard = none) (dI' : oI.dst = some dI)
  (hF : oF.op = .makeFunc fn #[] #[.tmp t1]) (gF : oF.guard = none) (dF' : oF.dst = some dF)
  (hC : oC.op = .call { callee := .value (.func fS), args := #[.tmp dI, .tmp dF], argTypes := tys }) (gC : oC.guard = none) (dC' : oC.dst = some dC)
  (hd : Nat.blt dI X.nt = true ∧ Nat.blt dF X.nt = true ∧ Nat.blt dC X.nt = true) (hne : Nat.beq dI dF = false) (hn1 : Nat.beq dI t1 = false)
  (hu : X.P.underlying T = some (.slice e))
  (hb : ∃ fn : Func, X.P.funcs[fS]? = some fn ∧ fn.body.isSome = true ∧ (fn.name == "runtime.NumGoroutine") = false)
  (hS : ∀ K F0 H0 μ0 F μ a w, Sat X K F0 H0 μ0 ts H F μ a w → Calls X.P fS #[.iface T (a.eval x), .func fn #[] #[a.eval (.tmp t1)]] w fun e w' => e = .returned (.tuple #[]) ∧ ∃ H' F' μ', q H' ∧ Sat X K F0 H0 μ0 ts H' F' μ' a w')
  (h : ∀ H', q H' → AWn X c ((dC, .u) :: (dF, .u) :: (dI, .u) :: ts) H' k) : RwN X ops [oI, oF, oC] c ts H k := by
 refine ⟨fun K F0 H0 μ0 F μ a w hs => ?_⟩
 obtain ⟨d1, d2, d3⟩ := hd
 have hcall := hS K F0 H0 μ0 F μ a w hs
 refine wpList_step fun k1 hk1 => ?_
 simp only [Region.wanted, gI, if_true]
 unfold Oper.wp
 have r1 : (execOp a.eval oI).run X.P w = .ok (.value (.iface T (a.eval x))) w := by
  unfold execOp
  rw [hI]
  refine val1 ?_
  simp [Instr.makeInterface, run_underlying hu]
 rw [r1, Oper.upon_value, dI']
 refine hk1 _ _ ?_
 generalize a.eval x = vx at hcall ⊢
 refine wpList_step fun k2 hk2 => ?_
 simp only [Region.wanted, gF, if_true]
 unfold Oper.wp
 have r2 : (execOp (a.put (some dI) (.iface T vx)).eval oF).run X.P w = .ok (.value (.func fn #[] #[a.eval (.tmp t1)])) w := by
  unfold execOp
  rw [hF]
  refine val1 ?_
  simp [Instr.makeFunc, Qpn hn1]
 rw [r2, Oper.upon_value, dF']
 refine hk2 _ _ ?_
 generalize (#[a.eval (.tmp t1)] : Array Value) = cs at hcall ⊢
 refine wpList_step fun k3 hk3 => ?_
 simp only [Region.wanted, gC, if_true]
 unfold Oper.wp
 have l1 : dI < a.tmps.size := by rw [hs.sz]; exact Nat.le_of_ble_eq_true d1
 have l2 : dF < a.tmps.size := by rw [hs.sz]; exact Nat.le_of_ble_eq_true d2
 have hne' : dI ≠ dF := Nat.ne_of_beq_eq_false hne
 obtain ⟨fnn, f1, f2, f3⟩ := hb
 have r3 : (execOp ((a.put (some dI) (.iface T vx)).put (some dF) (.func fn #[] cs)).eval oC).run X.P w = .ok (.enter fS #[.iface T vx, .func fn #[] cs]) w := by
  unfold execOp
  rw [hC]
  show (do let d ← resolve _ _ oC.type; invoke d.target d.args : Sem Next).run X.P w = _
  simp only [resolve]
  show (do let d ← Deferred.ofValue (Value.func (.func fS) #[] #[]) _; invoke d.target d.args : Sem Next).run X.P w = _
  simp only [Deferred.ofValue]
  rw [Qf (show (pure _ : Sem Deferred).run X.P w = .ok _ w from rfl)]
  simp only [invoke, Array.empty_append, Array.append_empty]
  unfold callFunc
  rw [Qf (show program.run X.P w = .ok X.P w from rfl)]
  simp only [f1, f3]
  have : fnn.body.isNone = false := by cases hfb : fnn.body <;> simp_all
  simp only [this]
  have e1 : ((a.put (some dI) (.iface T vx)).put (some dF) (.func fn #[] cs)).eval (.tmp dI) = .iface T vx := by
   show (((a.tmps.setIfInBounds dI _).setIfInBounds dF _).getD dI undef) = _
   simp [Array.getD, l1, l2, Array.getElem_setIfInBounds, Ne.symm hne']
  have e2 : ((a.put (some dI) (.iface T vx)).put (some dF) (.func fn #[] cs)).eval (.tmp dF) = .func fn #[] cs := by
   show (((a.tmps.setIfInBounds dI _).setIfInBounds dF _).getD dF undef) = _
   simp [Array.getD, l2, Array.getElem_setIfInBounds]
  simp only [List.map_toArray, List.map_cons, List.map_nil, e1, e2]
  rfl
 rw [r3, Oper.upon_enter]
 refine hcall.mono ?_
 rintro e' w' ⟨rfl, H', F', μ', hq, hs'⟩
 rw [dC']
 refine hk3 _ _ ?_
 show c.wp X.P _ _ _
 refine (h H' hq).out K F0 H0 μ0 F' μ' _ _ (hs'.step0 (TSat.put_u (TSat.put_u (TSat.put_u hs'.tp))) (by simp [Act.put]) rfl)
theorem CSpec.at_grown {X : Cx} {f : FuncId} {args : List S} {ts : Ts} {H : List O} {q : List O → Prop} (hc : CSpec X.P f args H fun s H' => s = .t [] ∧ q H') {K : Keep} {F0 : Mem} {H0 : List O} {μ0 : Nat → Value} {F : Mem} {μ : Nat → Value} {a : Act} {w w1 : World} {vs : Array Value}
  (hs : Sat X K F0 H0 μ0 ts H F μ a w) (hg : w.grownBy w1 none) (hA : RepA F H μ args vs) : Calls X.P f vs w1 fun e w' => e = .returned (.tuple #[]) ∧ ∃ H' F' μ', q H' ∧ Sat X K F0 H0 μ0 ts H' F' μ' a w' := by
 refine (hc K F μ w1 vs (hs.hs.grown hg) hA).mono ?_
 rintro e w' ⟨v, F', μ', s, H', rfl, h1, h2, h3, h4, rfl, hq⟩
 obtain ⟨us, rfl, h5, -⟩ := h4
 have : us = #[] := Array.eq_empty_of_size_eq_zero (by simpa using h5)
 subst this
 exact ⟨rfl, H', F', μ', hq, fun i o h => h1 i o (hs.le i o h), hs.ext.trans h3, h2, hs.tp.mono h1 h3, hs.sz, hs.df, hs.n0⟩
end Go.Am
end
